import Derived.Test.YtofdnkgieigncaaGreatR4
import Derived.Test.YtofdnkgieigncaaGreatQ1
namespace Go.Proofs.YtofdnkgieigncaaGreat
open Go.SL

/-! ### letters told apart -/
theorem tB_symm {x y : Lt} (h : x.tB y = true) : y.tB x = true := by
  rw [Lt.tB_iff] at *
  exact ⟨h.1.symm, h.2.1.symm, h.2.2.symm⟩
theorem tB_trans {x y z : Lt} (h1 : x.tB y = true) (h2 : y.tB z = true) : x.tB z = true := by
  rw [Lt.tB_iff] at *
  exact ⟨h1.1.trans h2.1, h1.2.1.trans h2.2.1, h1.2.2.trans h2.2.2⟩
theorem tB_refl (x : Lt) : x.tB x = true := (Lt.tB_iff x x).2 ⟨rfl, rfl, rfl⟩
def TD (l : List Lt) : Prop := l.Pairwise fun x y => x.tB y = false
def anyT (x : Lt) (l : List Lt) : Bool := l.any fun y => x.tB y
theorem anyT_false {x : Lt} {l : List Lt} : anyT x l = false ↔ ∀ y ∈ l, x.tB y = false := by
  unfold anyT
  rw [List.any_eq_false]
  simp
theorem TD_snoc {l : List Lt} {k : Nat} {x : Lt} (h : l[k]? = some x) : TD (l.take (k + 1)) ↔ TD (l.take k) ∧ anyT x (l.take k) = false := by
  unfold TD
  rw [take_at h, List.pairwise_append]
  constructor
  · rintro ⟨h1, _, h3⟩
    refine ⟨h1, anyT_false.2 (fun y hy => ?_)⟩
    have := h3 y hy x (by simp)
    cases hq : x.tB y
    · rfl
    · rw [tB_symm hq] at this; cases this
  · rintro ⟨h1, h2⟩
    refine ⟨h1, List.pairwise_singleton _ _, fun y hy z hz => ?_⟩
    rw [List.mem_singleton] at hz
    subst hz
    have := anyT_false.1 h2 y hy
    cases hq : y.tB z
    · rfl
    · rw [tB_symm hq] at this; cases this
theorem TD_take {l : List Lt} (h : TD l) (k : Nat) : TD (l.take k) := h.sublist (List.take_sublist k l)
def toldAt (g : Lt) : List Lt → Nat → Option Nat
  | [], _ => none
  | x :: r, i => bif g.tB x then some i else toldAt g r (i + 1)
theorem toldAt_none {g : Lt} : ∀ {l : List Lt} {i : Nat}, toldAt g l i = none ↔ anyT g l = false
  | [], _ => by simp [toldAt, anyT]
  | x :: r, i => by
    have ih := toldAt_none (g := g) (l := r) (i := i + 1)
    rw [toldAt]
    unfold anyT at *
    rw [List.any_cons]
    cases hq : g.tB x
    · rw [Bool.false_or]; exact ih
    · simp
theorem toldAt_some {g : Lt} : ∀ {l : List Lt} {i j : Nat}, toldAt g l i = some j → ∃ k y, j = i + k ∧ l[k]? = some y ∧ g.tB y = true
  | [], _, _, h => by cases h
  | x :: r, i, j, h => by
    rw [toldAt] at h
    cases hq : g.tB x
    · rw [hq] at h
      obtain ⟨k, y, e, h1, h2⟩ := toldAt_some (l := r) (i := i + 1) h
      exact ⟨k + 1, y, by omega, by simpa using h1, h2⟩
    · rw [hq] at h
      cases h
      exact ⟨0, x, rfl, rfl, hq⟩
/-- two that lie among letters told apart, and are told the same, are one -/
theorem TD_one {l : List Lt} (h : TD l) {x y : Lt} (hx : x ∈ l) (hy : y ∈ l) (e : x.tB y = true) : x = y := by
  obtain ⟨i, hi, rfl⟩ := List.getElem_of_mem hx
  obtain ⟨j, hj, rfl⟩ := List.getElem_of_mem hy
  rcases Nat.lt_trichotomy i j with hlt | heq | hgt
  · have := List.pairwise_iff_getElem.1 h i j hi hj hlt
    rw [e] at this; cases this
  · subst heq; rfl
  · have := List.pairwise_iff_getElem.1 h j i hj hi hgt
    rw [tB_symm e] at this; cases this
theorem same_in {l : List Lt} (h : TD l) {x y : Lt} (hy : y ∈ l) (e : x.tB y = true) : x ∈ l ↔ x.eqB y = true := by
  rw [Lt.eqB_iff]
  exact ⟨fun hx => TD_one h hx hy e, fun e => e ▸ hy⟩
/-! ### keys of letters -/
def Lt.kV (x : Lt) : Value := .agg #[.string x.sfrom, .string x.sto, .int .i64 x.number]
theorem keq_kV (x y : Lt) : keq x.kV y.kV = x.tB y := by
  show (eqs x.sfrom y.sfrom && (eqs x.sto y.sto && (eqb x.number y.number && true))) = _
  unfold Lt.tB
  rw [Bool.and_true, Bool.and_assoc]
theorem keyD_told : Tryz.tab.keyD 105 = some (.st [.string, .string, .int .i64]) := by kernel_rfl
def idxE : List Lt → Nat → List (Value × AV)
  | [], _ => []
  | x :: r, i => (x.kV, .d (.sc (.int .i64 (i : Nat)))) :: idxE r (i + 1)
theorem idxE_snoc (x : Lt) : ∀ (l : List Lt) (i : Nat), idxE (l ++ [x]) i = idxE l i ++ [(x.kV, .d (.sc (.int .i64 ((i + l.length : Nat) : Int))))]
  | [], i => rfl
  | y :: r, i => by
    rw [List.cons_append, idxE, idxE_snoc x r (i + 1), idxE, List.length_cons, show i + 1 + r.length = i + (r.length + 1) by omega]
    rfl
theorem idxE_mat (g : Lt) : ∀ (l : List Lt) (i j : Nat), (mat g.kV (idxE l i) j).map (·.2) = (toldAt g l i).map fun n => AV.d (.sc (.int .i64 (n : Nat)))
  | [], _, _ => rfl
  | x :: r, i, j => by
    rw [idxE, mat, toldAt, keq_kV]
    cases hq : g.tB x
    · exact idxE_mat g r (i + 1) (j + 1)
    · rfl
theorem idxE_find (g : Lt) (l : List Lt) : mfind g.kV (idxE l 0) = (toldAt g l 0).map fun n => AV.d (.sc (.int .i64 (n : Nat))) := idxE_mat g l 0 0
theorem idxE_keys : ∀ (l : List Lt) (i : Nat), ∀ p ∈ idxE l i, keyB (.st [.string, .string, .int .i64]) p.1 = true
  | [], _, p, h => by cases h
  | x :: r, i, p, h => by
    rw [idxE] at h
    rcases List.mem_cons.1 h with rfl | h
    · rfl
    · exact idxE_keys r (i + 1) p h
theorem mput_new {k : Value} {c : AV} {es : List (Value × AV)} (h : mfind k es = none) : mput k c es = es ++ [(k, c)] := by
  unfold mfind at h
  unfold mput
  cases hm : mat k es 0 with
  | none => rfl
  | some q => rw [hm] at h; cases h
theorem idxE_put {l : List Lt} {x : Lt} (h : anyT x l = false) : mput x.kV (.d (.sc (.int .i64 (l.length : Nat)))) (idxE l 0) = idxE (l ++ [x]) 0 := by
  rw [mput_new (by rw [idxE_find, toldAt_none.2 h]; rfl), idxE_snoc, Nat.zero_add]
def tru : AV := .d (.sc (.bool true))
def gotE (l : List Lt) : List (Value × AV) := l.map fun x => (x.kV, tru)
def gotL (l : List Lt) : List Lt := l.foldl (fun acc x => if anyT x acc = true then acc else acc ++ [x]) []
theorem gotL_snoc (l : List Lt) (x : Lt) : gotL (l ++ [x]) = if anyT x (gotL l) = true then gotL l else gotL l ++ [x] := by unfold gotL; rw [List.foldl_append]; rfl
theorem anyT_app (x : Lt) (a b : List Lt) : anyT x (a ++ b) = (anyT x a || anyT x b) := by unfold anyT; rw [List.any_append]
theorem gotL_any (x : Lt) (l : List Lt) : anyT x (gotL l) = anyT x l := by
  refine list_snoc (p := fun l => anyT x (gotL l) = anyT x l) rfl (fun l y ih => ?_) l
  rw [gotL_snoc, anyT_app]
  have e : anyT x [y] = x.tB y := by simp [anyT]
  by_cases h : anyT y (gotL l) = true
  · rw [if_pos h, ih, e]
    cases hq : x.tB y
    · rw [Bool.or_false]
    · rw [Bool.or_true, ← ih]
      unfold anyT at h ⊢
      obtain ⟨z, hz, h2⟩ := List.any_eq_true.1 h
      exact List.any_eq_true.2 ⟨z, hz, tB_trans hq h2⟩
  · rw [if_neg h, anyT_app, ih]
theorem gotE_mat (g : Lt) : ∀ (l : List Lt) (j : Nat), (mat g.kV (gotE l) j).map (·.2) = if anyT g l = true then some tru else none
  | [], _ => rfl
  | x :: r, j => by
    have ih := gotE_mat g r (j + 1)
    unfold gotE anyT at *
    rw [List.map_cons, mat, keq_kV, List.any_cons]
    cases hq : g.tB x
    · rw [Bool.false_or]; exact ih
    · rfl
theorem gotE_find (g : Lt) (l : List Lt) : mfind g.kV (gotE l) = if anyT g l = true then some tru else none := gotE_mat g l 0
theorem gotE_keys (l : List Lt) : ∀ p ∈ gotE l, keyB (.st [.string, .string, .int .i64]) p.1 = true := by
  intro p hp
  obtain ⟨x, _, rfl⟩ := List.mem_map.1 hp
  rfl
theorem kV_of {x y : Lt} (h : x.tB y = true) : x.kV = y.kV := by
  obtain ⟨h1, h2, h3⟩ := (Lt.tB_iff x y).1 h
  unfold Lt.kV
  rw [h1, h2, h3]
theorem gotE_at (g : Lt) : ∀ (l : List Lt) (j : Nat) (r : Nat × AV), mat g.kV (gotE l) j = some r → j ≤ r.1 ∧ (gotE l)[r.1 - j]? = some (g.kV, tru)
  | [], _, _, h => by cases h
  | x :: l, j, r, h => by
    unfold gotE at h
    rw [List.map_cons, mat, keq_kV] at h
    cases hq : g.tB x
    · rw [hq] at h
      obtain ⟨h1, h2⟩ := gotE_at g l (j + 1) r h
      refine ⟨by omega, ?_⟩
      obtain ⟨m, hm⟩ : ∃ m, r.1 - j = m + 1 := ⟨r.1 - (j + 1), by omega⟩
      rw [hm]
      unfold gotE
      rw [List.map_cons, List.getElem?_cons_succ, show m = r.1 - (j + 1) by omega]
      exact h2
    · rw [hq] at h
      cases h
      refine ⟨Nat.le_refl _, ?_⟩
      unfold gotE
      rw [List.map_cons, Nat.sub_self, List.getElem?_cons_zero, kV_of hq]
theorem gotE_put (l : List Lt) (x : Lt) : mput x.kV tru (gotE l) = gotE (if anyT x l = true then l else l ++ [x]) := by
  by_cases h : anyT x l = true
  · rw [if_pos h]
    have hf := gotE_find x l
    rw [if_pos h] at hf
    unfold mfind at hf
    unfold mput
    cases hm : mat x.kV (gotE l) 0 with
    | none => rw [hm] at hf; cases hf
    | some r =>
      obtain ⟨_, h2⟩ := gotE_at x l 0 r hm
      obtain ⟨i, c⟩ := r
      exact set_same h2
  · rw [if_neg h, mput_new (by rw [gotE_find, if_neg h])]
    unfold gotE
    rw [List.map_append]
    rfl
/-- what is in the mail -/
def inMail (s g : List Lt) : List Lt := s.filter fun x => !anyT x g
theorem inMail_at {s g : List Lt} {k : Nat} {x : Lt} (h : s[k]? = some x) : inMail (s.take (k + 1)) g = inMail (s.take k) g ++ (if anyT x g = false then [x] else []) := by
  unfold inMail
  rw [take_at h, List.filter_append]
  cases hq : anyT x g <;> simp [hq]
theorem inMail_len (s g : List Lt) (k : Nat) : (inMail (s.take k) g).length ≤ s.length := by
  unfold inMail
  have := List.length_filter_le (fun x => !anyT x g) (s.take k)
  rw [List.length_take] at this
  omega
open Classical in
noncomputable def mailR (s g : List Lt) : AV := if TD s then (if ∀ x ∈ g, x ∈ s then .tup [.d (.sl 14 ((inMail s g).map Lt.enc)), .d (.sc (.int .i64 0))] else .tup [.d (.sl 14 []), .d (.sc (.int .i64 15))]) else .tup [.d (.sl 14 []), .d (.sc (.int .i64 5))]
end Go.Proofs.YtofdnkgieigncaaGreat
