import Derived.Test.YtjlblnplofgpnaaGreatDoorDN
namespace Go.Proofs.YtjlblnplofgpnaaGreatDoor
open Go.SL
/-! ### the document's plan: plain -/
/-! #### texts that rise -/
end Go.Proofs.YtjlblnplofgpnaaGreatDoor
namespace Go.Proofs.YtjlblnplofgpnaaGreatDoor
open Go.SL
/-! ### what stays behind a port: plain -/
def keepB (port : Int) (x : Load) : Bool := decide (port < x.p)
def lowB (port : Int) (x y : Load) : Bool := inSt x.sl.b x.sl.r y && (decide (y.sl.t < x.sl.t) && keepB port y)
/-- how many of those that stay stand below -/
def newT (L : List Load) (port : Int) (x : Load) : Int := ((L.filter (lowB port x)).length : Nat)
def sink (L : List Load) (port : Int) (x : Load) : Load := atL x ⟨x.sl.b, x.sl.r, newT L port x⟩
def leftL (L : List Load) (port : Int) : List Load := ((lsort L).filter (keepB port)).map (sink L port)
theorem mem_left {S : Ship} {L : List Load} (hv : Inv S L) {port : Int} {y : Load} : y ∈ leftL L port ↔ ∃ x ∈ L, port < x.p ∧ y = sink L port x := by
  unfold leftL
  rw [List.mem_map]
  constructor
  · rintro ⟨x, hx, rfl⟩
    obtain ⟨h1, h2⟩ := List.mem_filter.1 hx
    exact ⟨x, (lsort_perm hv.nS).mem_iff.1 h1, by simpa [keepB] using h2, rfl⟩
  · rintro ⟨x, hx, hp, rfl⟩
    exact ⟨x, List.mem_filter.2 ⟨(lsort_perm hv.nS).mem_iff.2 hx, by simpa [keepB] using hp⟩, rfl⟩
end Go.Proofs.YtjlblnplofgpnaaGreatDoor
namespace Go.Proofs.YtjlblnplofgpnaaGreatDoor
open Go.SL
/-! ### what is planned comes off without a lift: plain -/
/-- in each stack ports fall -/
def Falls (L : List Load) : Prop := ∀ x ∈ L, ∀ y ∈ L, y.sl.b = x.sl.b → y.sl.r = x.sl.r → y.sl.t < x.sl.t → x.p ≤ y.p
theorem falls_perm {L M : List Load} (h : Falls L) (hp : L.Perm M) : Falls M := fun x hx y hy => h x (hp.mem_iff.2 hx) y (hp.mem_iff.2 hy)
/-- what is put where it was tried stands above all of its stack -/
theorem put_top {S : Ship} {L : List Load} {x : Load} (hv : Inv S L) (h : putE S L x = 0) {y : Load} (hy : y ∈ L) (h1 : y.sl.b = x.sl.b) (h2 : y.sl.r = x.sl.r) : y.sl.t < x.sl.t := by
  apply Classical.byContradiction
  intro hn
  obtain ⟨_, _, h3, h4, _⟩ := putE_ok h
  have ho := (onB_t.1 h3).2.2
  have hoy := (hv.on y hy).2.2
  obtain ⟨n, hn2⟩ := Int.eq_ofNat_of_zero_le hoy.1
  obtain ⟨t, ht⟩ := Int.eq_ofNat_of_zero_le ho.1
  obtain ⟨z, hz, he⟩ := tiers_all hv n hy hn2 t (by omega)
  refine atS_none.1 h4 z hz ?_
  rw [he, Sl_eq]
  exact ⟨h1, h2, ht.symm⟩
theorem fill_mem {S : Ship} {B R : Nat} (l : List Load) : ∀ y ∈ (fillP S B R l).1, ∃ x ∈ l, ∃ s, y = atL x s := by
  induction l using lsnoc with
  | h0 => intro y hy; cases hy
  | h1 l x ih =>
    intro y hy
    rw [fillP_snoc] at hy
    unfold stepP at hy
    cases hb : bestP S B R (fillP S B R l).1 x with
    | none =>
      rw [hb] at hy
      obtain ⟨z, hz, s, e⟩ := ih y hy
      exact ⟨z, List.mem_append_left _ hz, s, e⟩
    | some s =>
      rw [hb] at hy
      rcases List.mem_append.1 hy with q | q
      · obtain ⟨z, hz, s', e⟩ := ih y q
        exact ⟨z, List.mem_append_left _ hz, s', e⟩
      · exact ⟨x, by simp, s, List.mem_singleton.1 q⟩
theorem fill_falls {S : Ship} {B R : Nat} (hS : shipOk S = true) (l : List Load) (hl : l.Pairwise fun a b => b.p ≤ a.p) : Falls (fillP S B R l).1 := by
  induction l using lsnoc with
  | h0 => intro x hx; cases hx
  | h1 l x ih =>
    rw [List.pairwise_append] at hl
    have ih := ih hl.1
    rw [fillP_snoc]
    unfold stepP
    cases hb : bestP S B R (fillP S B R l).1 x with
    | none => exact ih
    | some s =>
      dsimp only
      have hp := (bestP_some hb).1
      have hv := (fillP_inv (S := S) (B := B) (R := R) hS l).1
      intro a ha c hc e1 e2 e3
      rcases List.mem_append.1 ha with qa | qa <;> rcases List.mem_append.1 hc with qc | qc
      · exact ih a qa c qc e1 e2 e3
      · rw [List.mem_singleton.1 qc] at e1 e2 e3
        have := put_top hv.toInv hp qa e1.symm e2.symm
        omega
      · rw [List.mem_singleton.1 qa]
        obtain ⟨z, hz, s', rfl⟩ := fill_mem l c qc
        exact hl.2.2 z hz x (by simp)
      · rw [List.mem_singleton.1 qa, List.mem_singleton.1 qc] at e3
        omega
theorem order_falls (l : List Load) : (isL ltO l).Pairwise fun a b => b.p ≤ a.p := (isL_sorted swoO l).imp (fun {a b} h => by
  have h2 : ¬ (ltO b a = true) := by rw [h]; decide
  rw [ltO_t] at h2
  omega)
theorem plan_falls {S : Ship} {B R : Nat} (hS : shipOk S = true) (l : List Load) : Falls (planL S B R l) := by
  have h := fill_falls (B := B) (R := R) hS (isL ltO l) (order_falls l)
  intro x hx y hy
  exact h x (List.mem_of_mem_take hx) y (List.mem_of_mem_take hy)
/-- each load is planned, or left out -/
theorem fill_all {S : Ship} {B R : Nat} (l : List Load) : ((fillP S B R l).1.map (·.box) ++ (fillP S B R l).2).Perm (l.map (·.box)) := by
  induction l using lsnoc with
  | h0 => exact List.Perm.refl _
  | h1 l x ih =>
    rw [fillP_snoc]
    unfold stepP
    cases hb : bestP S B R (fillP S B R l).1 x with
    | none =>
      dsimp only
      rw [← List.append_assoc, List.map_append]
      exact ih.append_right _
    | some s =>
      dsimp only
      rw [List.map_append, List.map_append, List.append_assoc]
      refine (List.perm_append_comm.append_left _).trans ?_
      rw [← List.append_assoc]
      exact ih.append_right _
theorem plan_all {S : Ship} {B R : Nat} (l : List Load) : ((planL S B R l).map (·.box) ++ planO S B R l).Perm (l.map (·.box)) := by
  have h := (fill_all (S := S) (B := B) (R := R) (isL ltO l)).trans ((isL_perm l).map _)
  refine List.Perm.trans ?_ h
  unfold planL planO keepL goneL
  generalize (fillP S B R (isL ltO l)).1 = L
  generalize (fillP S B R (isL ltO l)).2 = out
  generalize keepN S L L.length = n
  have e : L.map (·.box) = (L.take n).map (·.box) ++ (L.drop n).map (·.box) := by rw [← List.map_append, List.take_append_drop]
  rw [e, List.append_assoc]
  refine List.Perm.append_left _ (List.perm_append_comm.trans ?_)
  exact List.Perm.append_right _ ((List.reverse_perm _).map _)
theorem plan_mem {S : Ship} {B R : Nat} {l : List Load} {y : Load} (h : y ∈ planL S B R l) : ∃ x ∈ l, ∃ s, y = atL x s := by
  obtain ⟨x, hx, s, e⟩ := fill_mem _ y (List.mem_of_mem_take h)
  exact ⟨x, (isL_perm l).mem_iff.1 hx, s, e⟩
/-- what stays at the end lies safe -/
theorem plan_safe {S : Ship} {B R : Nat} (hS : shipOk S = true) (l : List Load) : safeE S (planL S B R l) = 0 := keepN_safe hS _ _
/-! #### a plan hangs on no order, no slots -/
def sameL (x y : Load) : Prop := y.box = x.box ∧ y.w = x.w ∧ y.c = x.c ∧ y.p = x.p
theorem sameL_at {x y : Load} (h : sameL x y) (s : Sl) : atL y s = atL x s := by
  obtain ⟨h1, h2, h3, h4⟩ := h
  cases x; cases y
  simp only at h1 h2 h3 h4
  subst h1; subst h2; subst h3; subst h4
  rfl
theorem fill_same {S : Ship} {B R : Nat} : ∀ {l m : List Load}, l.length = m.length → (∀ (i : Nat) (x y : Load), l[i]? = some x → m[i]? = some y → sameL x y) → fillP S B R l = fillP S B R m := by
  intro l
  induction l using lsnoc with
  | h0 =>
    intro m hl _
    have : m = [] := List.eq_nil_of_length_eq_zero hl.symm
    rw [this]
  | h1 l x ih =>
    intro m hl hs
    obtain ⟨m', y, rfl⟩ : ∃ m' y, m = m' ++ [y] := by
      have hne : m ≠ [] := fun e => by rw [e] at hl; simp at hl
      exact ⟨m.dropLast, m.getLast hne, (List.dropLast_concat_getLast hne).symm⟩
    have hl' : l.length = m'.length := by simpa using hl
    have hxy : sameL x y := hs l.length x y (by simp) (by rw [hl']; simp)
    have := ih hl' (fun i a b ha hb => hs i a b (by rw [List.getElem?_append_left (List.getElem?_eq_some_iff.1 ha).1]; exact ha) (by rw [List.getElem?_append_left (List.getElem?_eq_some_iff.1 hb).1]; exact hb))
    rw [fillP_snoc, fillP_snoc, this]
    unfold stepP
    have hb : bestP S B R (fillP S B R m').1 y = bestP S B R (fillP S B R m').1 x := by
      unfold bestP
      rw [hxy.2.1]
      refine congrArg (fun f => List.find? f _) (funext fun s => ?_)
      rw [sameL_at hxy]
    rw [hb]
    cases bestP S B R (fillP S B R m').1 x with
    | none => dsimp only; rw [hxy.1]
    | some s => dsimp only; rw [sameL_at hxy]
/-- loads without their slots -/
def bare (x : Load) : Load := atL x ⟨0, 0, 0⟩
theorem sameL_bare {x y : Load} (h : bare x = bare y) : sameL x y := by
  unfold bare atL at h
  cases x; cases y
  simp only [Load.mk.injEq] at h
  obtain ⟨_, h1, h2, h3, h4⟩ := h
  exact ⟨h1.symm, h2.symm, h3.symm, h4.symm⟩
theorem ltO_bare (x y : Load) : ltO (bare x) (bare y) = ltO x y := rfl
theorem isO_bare (l : List Load) : isL ltO (l.map bare) = (isL ltO l).map bare := isL_map ltO_bare l
theorem sortO_eq : ∀ {l m : List Load}, l.Perm m → (∀ x ∈ l, ∀ y ∈ l, x.box = y.box → x = y) → (l.Pairwise fun a b => ltO b a = false) → (m.Pairwise fun a b => ltO b a = false) → l = m
  | [], m, h, _, _, _ => (List.nil_perm.1 h).symm
  | a :: l, [], h, _, _, _ => by simpa using h.length_eq
  | a :: l, b :: m, h, hi, h1, h2 => by
    rw [List.pairwise_cons] at h1 h2
    have hab : a = b := by
      have ma : a ∈ b :: m := h.mem_iff.1 List.mem_cons_self
      have mb : b ∈ a :: l := h.mem_iff.2 List.mem_cons_self
      rcases List.mem_cons.1 ma with e | e
      · exact e
      rcases List.mem_cons.1 mb with e' | e'
      · exact e'.symm
      have q1 : ¬ (ltO a b = true) := by rw [h2.1 a e]; decide
      have q2 : ¬ (ltO b a = true) := by rw [h1.1 b e']; decide
      rw [ltO_t] at q1 q2
      have p1 : a.p = b.p := by omega
      have p2 : a.w = b.w := by omega
      have k1 : lts a.box b.box = false := by
        cases hq : lts a.box b.box with
        | false => rfl
        | true => exact absurd (.inr ⟨p1, .inr ⟨p2, hq⟩⟩) q1
      have k2 : lts b.box a.box = false := by
        cases hq : lts b.box a.box with
        | false => rfl
        | true => exact absurd (.inr ⟨p1.symm, .inr ⟨p2.symm, hq⟩⟩) q2
      exact hi a List.mem_cons_self b mb (lts_tri k1 k2)
    subst hab
    rw [sortO_eq h.cons_inv (fun x hx y hy => hi x (List.mem_cons_of_mem _ hx) y (List.mem_cons_of_mem _ hy)) h1.2 h2.2]
theorem inj_of_nodup {l : List Load} (hn : (l.map (·.box)).Nodup) : ∀ x ∈ l, ∀ y ∈ l, x.box = y.box → x = y := by
  intro x hx y hy e
  have h1 := (byB_some hn).2 ⟨hx, rfl⟩
  have h2 := (byB_some hn (n := x.box)).2 ⟨hy, e.symm⟩
  rw [h1] at h2
  exact Option.some.inj h2
theorem plan_same {S : Ship} {B R : Nat} {l m : List Load} (hp : (l.map bare).Perm (m.map bare)) (hn : (l.map (·.box)).Nodup) : planL S B R l = planL S B R m ∧ planO S B R l = planO S B R m := by
  have hnb : ((l.map bare).map (·.box)).Nodup := by rw [List.map_map]; exact hn
  have e : (isL ltO l).map bare = (isL ltO m).map bare := by
    rw [← isO_bare, ← isO_bare]
    refine sortO_eq ((isL_perm _).trans (hp.trans (isL_perm _).symm)) (fun x hx y hy => inj_of_nodup hnb x ((isL_perm _).mem_iff.1 hx) y ((isL_perm _).mem_iff.1 hy)) (isL_sorted swoO _) (isL_sorted swoO _)
  have hf : fillP S B R (isL ltO l) = fillP S B R (isL ltO m) := fill_same (by simpa using congrArg List.length e) (fun i x y hx hy => by
    have := congrArg (fun l => l[i]?) e
    simp only [List.getElem?_map, hx, hy, Option.map_some, Option.some.injEq] at this
    exact sameL_bare this)
  unfold planL planO
  rw [hf]
  exact ⟨rfl, rfl⟩
theorem planE_same {S : Ship} {l m : List Load} (hp : (l.map bare).Perm (m.map bare)) : planE S l = planE S m := by
  have h1 : l.all mayL = m.all mayL := by
    have := all_permG hp mayL
    rw [List.all_map, List.all_map] at this
    exact this
  have h2 : twiceB l = twiceB m := by
    unfold twiceB
    have := hp.map (·.box)
    rw [List.map_map, List.map_map] at this
    have e : (l.map (·.box)).Nodup ↔ (m.map (·.box)).Nodup := this.nodup_iff
    rw [decide_eq_decide.2 e]
  unfold planE mayAllB
  rw [h1, h2]
end Go.Proofs.YtjlblnplofgpnaaGreatDoor
namespace Go.Proofs.YtjlblnplofgpnaaGreatDoor
open Go.SL
/-! ### a ship that is turned round: plain -/
section
variable {S : Ship} {e s : Bool}
theorem rightE_iff {l : List Load} : rightE S l = 0 ↔ (shipOk S = true ∧ Inv2 S l) ∧ safeE S l = 0 := by
  unfold rightE
  rw [← standE_iff]
  split
  · rename_i h; simp [h]
  · rename_i h; simp [h]
end
end Go.Proofs.YtjlblnplofgpnaaGreatDoor
namespace Go.Proofs.YtjlblnplofgpnaaGreatDoor
open Go.SL
/-! ### the checker's order: plain -/
end Go.Proofs.YtjlblnplofgpnaaGreatDoor
