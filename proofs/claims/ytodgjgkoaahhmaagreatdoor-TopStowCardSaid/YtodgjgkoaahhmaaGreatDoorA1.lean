import Derived.Test.YtodgjgkoaahhmaaGreatDoorV0
import Derived.Test.YtodgjgkoaahhmaaGreatDoorPl
namespace Go.Proofs.YtodgjgkoaahhmaaGreatDoor
open Go.SL
/-! ### a hold: plain -/
structure Sl where
  b : Int
  r : Int
  t : Int
  deriving DecidableEq
structure Load where
  sl : Sl
  box : ByteArray
  w : Int
  c : Int
  p : Int
  deriving DecidableEq
structure Ship where
  nm : ByteArray
  bays : Int
  rows : Int
  tiers : Int
  stack : Int
  trim : Int
  list : Int
  up : Int
  most : Int
def Load.enc (x : Load) : List D := [.sc (.int .i64 x.sl.b), .sc (.int .i64 x.sl.r), .sc (.int .i64 x.sl.t), .sc (.string x.box), .sc (.int .i64 x.w), .sc (.int .i64 x.c), .sc (.int .i64 x.p)]
def Load.cs (x : Load) : List AV := x.enc.map .d
def slM (L : List Load) : List (Sl × Load) := L.map fun x => (x.sl, x)
def nmM (L : List Load) : List (ByteArray × Load) := L.map fun x => (x.box, x)
def atS (L : List Load) (s : Sl) : Option Load := aget s (slM L)
def byB (L : List Load) (n : ByteArray) : Option Load := aget n (nmM L)
theorem slM_cons (x : Load) (L : List Load) : slM (x :: L) = (x.sl, x) :: slM L := rfl
theorem nmM_cons (x : Load) (L : List Load) : nmM (x :: L) = (x.box, x) :: nmM L := rfl
theorem slM_app (L M : List Load) : slM (L ++ M) = slM L ++ slM M := List.map_append
theorem nmM_app (L M : List Load) : nmM (L ++ M) = nmM L ++ nmM M := List.map_append
theorem slM_keys (L : List Load) : akeys (slM L) = L.map (·.sl) := by unfold akeys slM; rw [List.map_map]; rfl
theorem nmM_keys (L : List Load) : akeys (nmM L) = L.map (·.box) := by unfold akeys nmM; rw [List.map_map]; rfl
theorem atS_some {L : List Load} (hn : (L.map (·.sl)).Nodup) {s : Sl} {x : Load} : atS L s = some x ↔ x ∈ L ∧ x.sl = s := by
  unfold atS
  constructor
  · intro h
    have := aget_mem h
    obtain ⟨y, hy, he⟩ := List.mem_map.1 this
    injection he with h1 h2
    subst h2
    exact ⟨hy, h1⟩
  · rintro ⟨h, rfl⟩
    exact aget_of_mem (by rw [slM_keys]; exact hn) (List.mem_map.2 ⟨x, h, rfl⟩)
theorem atS_none {L : List Load} {s : Sl} : atS L s = none ↔ ∀ x ∈ L, x.sl ≠ s := by
  unfold atS
  rw [aget_none, slM_keys]
  constructor
  · intro h x hx e
    exact h (List.mem_map.2 ⟨x, hx, e⟩)
  · intro h hm
    obtain ⟨x, hx, e⟩ := List.mem_map.1 hm
    exact h x hx e
theorem byB_some {L : List Load} (hn : (L.map (·.box)).Nodup) {n : ByteArray} {x : Load} : byB L n = some x ↔ x ∈ L ∧ x.box = n := by
  unfold byB
  constructor
  · intro h
    have := aget_mem h
    obtain ⟨y, hy, he⟩ := List.mem_map.1 this
    injection he with h1 h2
    subst h2
    exact ⟨hy, h1⟩
  · rintro ⟨h, rfl⟩
    exact aget_of_mem (by rw [nmM_keys]; exact hn) (List.mem_map.2 ⟨x, h, rfl⟩)
theorem byB_none {L : List Load} {n : ByteArray} : byB L n = none ↔ ∀ x ∈ L, x.box ≠ n := by
  unfold byB
  rw [aget_none, nmM_keys]
  constructor
  · intro h x hx e
    exact h (List.mem_map.2 ⟨x, hx, e⟩)
  · intro h hm
    obtain ⟨x, hx, e⟩ := List.mem_map.1 hm
    exact h x hx e
/-! #### a stack -/
/-- the loads from tier t on, at most k -/
def stkF (L : List Load) (b r : Int) : Nat → Int → List Load
  | 0, _ => []
  | k + 1, t => match atS L ⟨b, r, t⟩ with
    | none => []
    | some x => x :: stkF L b r k (t + 1)
def stackL (L : List Load) (b r : Int) : List Load := stkF L b r 32 0
def wsum (L : List Load) : Int := (L.map (·.w)).sum
def inSt (b r : Int) (x : Load) : Bool := decide (x.sl.b = b) && decide (x.sl.r = r)
def stW (L : List Load) (b r : Int) : Int := (L.map fun x => if inSt b r x = true then x.w else 0).sum
theorem inSt_iff {b r : Int} {x : Load} : inSt b r x = true ↔ x.sl.b = b ∧ x.sl.r = r := by simp [inSt]
theorem wsum_cons (x : Load) (L : List Load) : wsum (x :: L) = x.w + wsum L := by simp [wsum]
theorem wsum_app (L M : List Load) : wsum (L ++ M) = wsum L + wsum M := by simp [wsum]
theorem stW_cons (x : Load) (L : List Load) (b r : Int) : stW (x :: L) b r = (if inSt b r x = true then x.w else 0) + stW L b r := by simp [stW]
theorem stW_app (L M : List Load) (b r : Int) : stW (L ++ M) b r = stW L b r + stW M b r := by simp [stW]
theorem lsum_perm {l m : List Int} (h : l.Perm m) : l.sum = m.sum := by
  induction h with
  | nil => rfl
  | cons a _ ih => simp [ih]
  | swap a b l => simp only [List.sum_cons]; omega
  | trans _ _ i1 i2 => exact i1.trans i2
theorem wsum_perm {L M : List Load} (h : L.Perm M) : wsum L = wsum M := lsum_perm (h.map _)
theorem stW_perm {L M : List Load} (h : L.Perm M) (b r : Int) : stW L b r = stW M b r := lsum_perm (h.map _)
theorem stW_filter (L : List Load) (b r : Int) : stW L b r = wsum (L.filter (inSt b r)) := by
  induction L with
  | nil => rfl
  | cons x L ih =>
    rw [stW_cons, List.filter_cons]
    split
    · rw [wsum_cons, ih]
    · rw [ih]; omega
structure Inv (S : Ship) (L : List Load) : Prop where
  nS : (L.map (·.sl)).Nodup
  nB : (L.map (·.box)).Nodup
  on : ∀ x ∈ L, (0 ≤ x.sl.b ∧ x.sl.b < S.bays) ∧ (0 ≤ x.sl.r ∧ x.sl.r < S.rows) ∧ (0 ≤ x.sl.t ∧ x.sl.t < S.tiers)
  ok : ∀ x ∈ L, (1 ≤ x.w ∧ x.w ≤ 1048576) ∧ (0 ≤ x.c ∧ x.c ≤ 1048576) ∧ (0 ≤ x.p ∧ x.p ≤ 64)
  sup : ∀ x ∈ L, x.sl.t ≠ 0 → ∃ y ∈ L, y.sl = ⟨x.sl.b, x.sl.r, x.sl.t - 1⟩ ∧ x.w ≤ y.w
theorem stkF_mem {L : List Load} (hn : (L.map (·.sl)).Nodup) {b r : Int} : ∀ {k : Nat} {t : Int} {x : Load}, x ∈ stkF L b r k t → x ∈ L ∧ x.sl.b = b ∧ x.sl.r = r ∧ t ≤ x.sl.t ∧ x.sl.t < t + k
  | 0, t, x, h => by cases h
  | k + 1, t, x, h => by
    unfold stkF at h
    cases hq : atS L ⟨b, r, t⟩ with
    | none => rw [hq] at h; cases h
    | some y =>
      rw [hq] at h
      rcases List.mem_cons.1 h with e | e
      · subst e
        obtain ⟨h1, h2⟩ := (atS_some hn).1 hq
        rw [h2]
        exact ⟨h1, rfl, rfl, Int.le_refl _, by simp only; omega⟩
      · obtain ⟨h1, h2, h3, h4, h5⟩ := stkF_mem hn e
        exact ⟨h1, h2, h3, by omega, by omega⟩
theorem stkF_nodup {L : List Load} (hn : (L.map (·.sl)).Nodup) {b r : Int} : ∀ (k : Nat) (t : Int), (stkF L b r k t).Nodup
  | 0, t => List.nodup_nil
  | k + 1, t => by
    unfold stkF
    cases hq : atS L ⟨b, r, t⟩ with
    | none => exact List.nodup_nil
    | some y =>
      refine List.nodup_cons.2 ⟨fun h => ?_, stkF_nodup hn k (t + 1)⟩
      obtain ⟨_, _, _, h4, _⟩ := stkF_mem hn h
      have := ((atS_some hn).1 hq).2
      rw [this] at h4
      simp only at h4
      omega
/-- below a load there are loads at all tiers -/
theorem tiers_all {S : Ship} {L : List Load} (hv : Inv S L) : ∀ (n : Nat) {x : Load}, x ∈ L → x.sl.t = n → ∀ j : Nat, j ≤ n → ∃ y ∈ L, y.sl = ⟨x.sl.b, x.sl.r, (j : Int)⟩
  | 0, x, hx, ht, j, hj => by
    have : j = 0 := by omega
    subst this
    exact ⟨x, hx, by rw [← ht]⟩
  | n + 1, x, hx, ht, j, hj => by
    by_cases e : j = n + 1
    · subst e
      exact ⟨x, hx, by rw [← ht]⟩
    · obtain ⟨y, hy, hs, _⟩ := hv.sup x hx (by omega)
      have h1 : y.sl.t = (n : Int) := by rw [hs, ht]; simp
      obtain ⟨z, hz, he⟩ := tiers_all hv n hy h1 j (by omega)
      refine ⟨z, hz, ?_⟩
      rw [he, hs]
theorem stkF_all {L : List Load} (hn : (L.map (·.sl)).Nodup) {b r : Int} : ∀ (k : Nat) (t : Int) {x : Load}, x ∈ L → x.sl.b = b → x.sl.r = r → t ≤ x.sl.t → x.sl.t < t + k → (∀ j : Int, t ≤ j → j ≤ x.sl.t → ∃ y ∈ L, y.sl = ⟨b, r, j⟩) → x ∈ stkF L b r k t
  | 0, t, x, _, _, _, h1, h2, _ => by omega
  | k + 1, t, x, hx, hb, hr, h1, h2, ha => by
    unfold stkF
    obtain ⟨y, hy, hs⟩ := ha t (Int.le_refl _) h1
    rw [(atS_some hn).2 ⟨hy, hs⟩]
    by_cases e : x.sl.t = t
    · have : x = y := by
        have e1 := (atS_some hn).2 ⟨hy, hs⟩
        have e2 := (atS_some hn (s := ⟨b, r, t⟩)).2 ⟨hx, by rw [← hb, ← hr, ← e]⟩
        rw [e1] at e2
        exact (Option.some.inj e2).symm
      subst this
      exact List.mem_cons_self
    · exact List.mem_cons_of_mem _ (stkF_all hn k (t + 1) hx hb hr (by omega) (by omega) (fun j h3 h4 => ha j (by omega) h4))
theorem perm_mem {α : Type} : ∀ {l m : List α}, l.Nodup → m.Nodup → (∀ x, x ∈ l ↔ x ∈ m) → l.Perm m
  | [], m, _, _, h => by
    cases m with
    | nil => exact List.Perm.refl _
    | cons a m => exact absurd ((h a).2 List.mem_cons_self) (by simp)
  | a :: l, m, hl, hm, h => by
    have ha : a ∈ m := (h a).1 List.mem_cons_self
    obtain ⟨m1, m2, rfl⟩ := List.append_of_mem ha
    rw [List.nodup_cons] at hl
    have hm' : (a :: (m1 ++ m2)).Nodup := (List.perm_middle.nodup_iff).1 hm
    rw [List.nodup_cons] at hm'
    refine (List.Perm.cons a (perm_mem hl.2 hm'.2 (fun x => ⟨fun hx => ?_, fun hx => ?_⟩))).trans List.perm_middle.symm
    · have := (h x).1 (List.mem_cons_of_mem _ hx)
      have hne : x ≠ a := fun e => hl.1 (e ▸ hx)
      simpa [hne] using this
    · have : x ∈ a :: l := (h x).2 (by rcases List.mem_append.1 hx with q | q <;> simp [q])
      rcases List.mem_cons.1 this with e | e
      · exact absurd (e ▸ hx) hm'.1
      · exact e
theorem nodup_of_map {α β : Type} {f : α → β} : ∀ {l : List α}, (l.map f).Nodup → l.Nodup
  | [], _ => List.nodup_nil
  | a :: l, h => by
    rw [List.map_cons, List.nodup_cons] at h
    exact List.nodup_cons.2 ⟨fun hm => h.1 (List.mem_map.2 ⟨a, hm, rfl⟩), nodup_of_map h.2⟩
theorem stack_mem {S : Ship} {L : List Load} (hv : Inv S L) (hS : S.tiers ≤ 32) {b r : Int} {x : Load} : x ∈ stackL L b r ↔ x ∈ L ∧ x.sl.b = b ∧ x.sl.r = r := by
  constructor
  · intro h
    obtain ⟨h1, h2, h3, _⟩ := stkF_mem hv.nS h
    exact ⟨h1, h2, h3⟩
  · rintro ⟨h1, h2, h3⟩
    have ho := (hv.on x h1).2.2
    obtain ⟨n, hn⟩ := Int.eq_ofNat_of_zero_le ho.1
    refine stkF_all hv.nS 32 0 h1 h2 h3 ho.1 (by have := ho.2; show x.sl.t < 0 + ((32 : Nat) : Int); omega) (fun j h4 h5 => ?_)
    obtain ⟨i, rfl⟩ := Int.eq_ofNat_of_zero_le h4
    obtain ⟨y, hy, he⟩ := tiers_all hv n h1 hn i (by omega)
    exact ⟨y, hy, by rw [he, h2, h3]⟩
theorem stack_perm {S : Ship} {L : List Load} (hv : Inv S L) (hS : S.tiers ≤ 32) (b r : Int) : (stackL L b r).Perm (L.filter (inSt b r)) := by
  refine perm_mem (stkF_nodup hv.nS 32 0) ((nodup_of_map hv.nS).filter _) (fun x => ?_)
  rw [stack_mem hv hS, List.mem_filter, inSt_iff]
theorem stack_w {S : Ship} {L : List Load} (hv : Inv S L) (hS : S.tiers ≤ 32) (b r : Int) : wsum (stackL L b r) = stW L b r := by
  rw [wsum_perm (stack_perm hv hS b r), stW_filter]
end Go.Proofs.YtodgjgkoaahhmaaGreatDoor
namespace Go.Proofs.YtodgjgkoaahhmaaGreatDoor
open Go.SL
/-! ### the document's row of loads: plain -/
def dless (a b : Sl) : Bool := decide (a.b < b.b ∨ (a.b = b.b ∧ (a.r < b.r ∨ (a.r = b.r ∧ a.t < b.t))))
theorem dless_t {a b : Sl} : dless a b = true ↔ (a.b < b.b ∨ (a.b = b.b ∧ (a.r < b.r ∨ (a.r = b.r ∧ a.t < b.t)))) := by unfold dless; rw [decide_eq_true_eq]
theorem dless_f {a b : Sl} : dless a b = false ↔ ¬ (a.b < b.b ∨ (a.b = b.b ∧ (a.r < b.r ∨ (a.r = b.r ∧ a.t < b.t)))) := by unfold dless; rw [decide_eq_false_iff_not]
theorem Sl_eq {a b : Sl} : a = b ↔ a.b = b.b ∧ a.r = b.r ∧ a.t = b.t := by
  cases a; cases b
  simp
theorem dless_tri {a b : Sl} (h : dless a b = false) (k : dless b a = false) : a = b := by
  rw [dless_f] at h k
  rw [Sl_eq]
  omega
theorem dless_trans {a b c : Sl} (h : dless a b = true) (k : dless b c = true) : dless a c = true := by
  rw [dless_t] at *
  omega
theorem dless_irr (a : Sl) : dless a a = false := by rw [dless_f]; omega
theorem dless_asymm {a b : Sl} (h : dless a b = true) : dless b a = false := by
  rw [dless_t] at h
  rw [dless_f]
  omega
def insD (x : Load) : List Load → List Load
  | [] => [x]
  | y :: l => if dless x.sl y.sl = true then x :: y :: l else y :: insD x l
theorem insD_perm (x : Load) : ∀ l : List Load, (insD x l).Perm (x :: l)
  | [] => List.Perm.refl _
  | y :: l => by
    unfold insD
    split
    · exact List.Perm.refl _
    · exact ((insD_perm x l).cons y).trans (List.Perm.swap _ _ _)
def DSort (D : List Load) : Prop := D.Pairwise fun a b => dless a.sl b.sl = true
theorem insD_sort {x : Load} : ∀ {l : List Load}, DSort l → (∀ y ∈ l, y.sl ≠ x.sl) → DSort (insD x l)
  | [], _, _ => List.pairwise_singleton _ _
  | y :: l, h, hn => by
    unfold DSort at h ⊢
    rw [List.pairwise_cons] at h
    unfold insD
    split
    · rename_i e
      rw [List.pairwise_cons, List.pairwise_cons]
      refine ⟨fun z hz => ?_, h⟩
      rcases List.mem_cons.1 hz with e' | e'
      · rw [e']; exact e
      · exact dless_trans e (h.1 z e')
    · rename_i e
      rw [List.pairwise_cons]
      refine ⟨fun z hz => ?_, insD_sort h.2 (fun z hz => hn z (List.mem_cons_of_mem _ hz))⟩
      rcases List.mem_cons.1 ((insD_perm x l).mem_iff.1 hz) with e' | e'
      · rw [e']
        cases hq : dless y.sl x.sl with
        | true => rfl
        | false => exact absurd (dless_tri hq (by simpa using e)) (hn y List.mem_cons_self)
      · exact h.1 z e'
theorem dsort_eq : ∀ {l m : List Load}, l.Perm m → DSort l → DSort m → l = m
  | [], m, h, _, _ => (List.nil_perm.1 h).symm
  | a :: l, [], h, _, _ => by simpa using h.length_eq
  | a :: l, b :: m, h, h1, h2 => by
    unfold DSort at h1 h2
    rw [List.pairwise_cons] at h1 h2
    have hab : a = b := by
      have ma : a ∈ b :: m := h.mem_iff.1 List.mem_cons_self
      have mb : b ∈ a :: l := h.mem_iff.2 List.mem_cons_self
      rcases List.mem_cons.1 ma with e | e
      · exact e
      rcases List.mem_cons.1 mb with e' | e'
      · exact e'.symm
      have q1 := h1.1 b e'
      have q2 := h2.1 a e
      rw [dless_asymm q1] at q2
      cases q2
    subst hab
    rw [dsort_eq h.cons_inv h1.2 h2.2]
/-! #### what is to be lifted -/
def liftD (L : List Load) (port : Int) (x : Load) : Bool := L.any fun y => decide (x.sl.b = y.sl.b ∧ x.sl.r = y.sl.r ∧ y.sl.t < x.sl.t ∧ y.p ≤ port)
def overD (L : List Load) (port : Int) : Int := (L.map fun x => if liftD L port x = true ∧ x.p > port then (1 : Int) else 0).sum
theorem liftD_perm {L M : List Load} (h : L.Perm M) (port : Int) (x : Load) : liftD L port x = liftD M port x := by
  unfold liftD
  rw [Bool.eq_iff_iff, List.any_eq_true, List.any_eq_true]
  exact ⟨fun ⟨y, hy, e⟩ => ⟨y, h.mem_iff.1 hy, e⟩, fun ⟨y, hy, e⟩ => ⟨y, h.mem_iff.2 hy, e⟩⟩
theorem overD_perm {L M : List Load} (h : L.Perm M) (port : Int) : overD L port = overD M port := by
  unfold overD
  rw [lsum_perm (h.map _)]
  exact congrArg List.sum (List.map_congr_left (fun x _ => by rw [liftD_perm h]))
/-- a stack's count, from below: of those above one that leaves -/
def cntF (port : Int) : Bool → List Load → Int
  | _, [] => 0
  | lv, x :: l => if x.p ≤ port then cntF port true l else (if lv = true then 1 else 0) + cntF port lv l
theorem cntF_app (port : Int) : ∀ (lv : Bool) (l m : List Load), cntF port lv (l ++ m) = cntF port lv l + cntF port (lv || l.any fun x => decide (x.p ≤ port)) m
  | lv, [], m => by simp [cntF]
  | lv, x :: l, m => by
    rw [List.cons_append, cntF, cntF]
    by_cases h : x.p ≤ port
    · rw [if_pos h, if_pos h, cntF_app port true l m]
      simp [h]
    · rw [if_neg h, if_neg h, cntF_app port lv l m]
      simp [h]
      omega
theorem lsnoc {α : Type} {p : List α → Prop} (h0 : p []) (h1 : ∀ l x, p l → p (l ++ [x])) (l : List α) : p l := by
  have : p l.reverse.reverse := by
    induction l.reverse with
    | nil => exact h0
    | cons a l ih => rw [List.reverse_cons]; exact h1 _ _ ih
  rwa [List.reverse_reverse] at this
def gOver (L : List Load) (port : Int) (x : Load) : Int := if liftD L port x = true ∧ x.p > port then 1 else 0
theorem cntF_sum {L : List Load} {port : Int} (l : List Load) : (∀ pre x post, l = pre ++ x :: post → liftD L port x = pre.any fun y => decide (y.p ≤ port)) → cntF port false l = (l.map (gOver L port)).sum := by
  induction l using lsnoc with
  | h0 => intro _; rfl
  | h1 l x ih =>
    intro h
    rw [cntF_app, ih (fun pre y post e => h pre y (post ++ [x]) (by rw [e]; simp)), List.map_append, List.sum_append, Bool.false_or]
    have hx := h l x [] rfl
    have : cntF port (l.any fun y => decide (y.p ≤ port)) [x] = ([x].map (gOver L port)).sum := by
      rw [← hx]
      simp only [cntF, List.map_cons, List.map_nil, List.sum_cons, List.sum_nil, gOver]
      by_cases h1 : x.p ≤ port
      · rw [if_pos h1, if_neg (by omega)]; rfl
      · rw [if_neg h1]
        cases liftD L port x with
        | true => rw [if_pos rfl, if_pos ⟨rfl, by omega⟩]
        | false => rw [if_neg (by decide), if_neg (by rintro ⟨h, _⟩; cases h)]
    rw [this]
/-- a stack's loads rise -/
theorem stkF_rise {L : List Load} (hn : (L.map (·.sl)).Nodup) {b r : Int} : ∀ (k : Nat) (t : Int), (stkF L b r k t).Pairwise fun x y => x.sl.t < y.sl.t
  | 0, t => List.Pairwise.nil
  | k + 1, t => by
    unfold stkF
    cases hq : atS L ⟨b, r, t⟩ with
    | none => exact List.Pairwise.nil
    | some y =>
      refine List.pairwise_cons.2 ⟨fun z hz => ?_, stkF_rise hn k (t + 1)⟩
      obtain ⟨_, _, _, h4, _⟩ := stkF_mem hn hz
      have := ((atS_some hn).1 hq).2
      rw [this]
      simp only
      omega
theorem cnt_stack {S : Ship} {L : List Load} (hv : Inv S L) (hS : S.tiers ≤ 32) (b r port : Int) : cntF port false (stackL L b r) = ((L.filter (inSt b r)).map (gOver L port)).sum := by
  rw [← lsum_perm ((stack_perm hv hS b r).map _)]
  refine cntF_sum _ (fun pre x post e => ?_)
  have hr := stkF_rise hv.nS (b := b) (r := r) 32 0
  have hr : (stackL L b r).Pairwise fun x y => x.sl.t < y.sl.t := hr
  rw [e, List.pairwise_append, List.pairwise_cons] at hr
  obtain ⟨_, ⟨h2, _⟩, h3⟩ := hr
  have hm : ∀ y, y ∈ pre ++ x :: post ↔ y ∈ L ∧ y.sl.b = b ∧ y.sl.r = r := fun y => by rw [← e]; exact stack_mem hv hS
  obtain ⟨hx1, hx2, hx3⟩ := (hm x).1 (by simp)
  unfold liftD
  rw [Bool.eq_iff_iff, List.any_eq_true, List.any_eq_true]
  constructor
  · rintro ⟨y, hy, hc⟩
    rw [decide_eq_true_eq] at hc
    obtain ⟨c1, c2, c3, c4⟩ := hc
    have := (hm y).2 ⟨hy, by omega, by omega⟩
    rcases List.mem_append.1 this with q | q
    · exact ⟨y, q, by rw [decide_eq_true_eq]; exact c4⟩
    · rcases List.mem_cons.1 q with q | q
      · subst q; omega
      · have := h2 y q; omega
  · rintro ⟨y, hy, hc⟩
    rw [decide_eq_true_eq] at hc
    obtain ⟨g1, g2, g3⟩ := (hm y).1 (by simp [hy])
    exact ⟨y, g1, by rw [decide_eq_true_eq]; exact ⟨by omega, by omega, h3 y hy x List.mem_cons_self, hc⟩⟩
/-- all stacks of so many bays and rows -/
def rowsSum (f : Int → Int) : Nat → Int
  | 0 => 0
  | n + 1 => rowsSum f n + f n
theorem rowsSum_congr {f g : Int → Int} : ∀ (n : Nat), (∀ i : Nat, i < n → f i = g i) → rowsSum f n = rowsSum g n
  | 0, _ => rfl
  | n + 1, h => by rw [rowsSum, rowsSum, rowsSum_congr n (fun i hi => h i (by omega)), h n (by omega)]
theorem rowsSum_add (f g : Int → Int) : ∀ (n : Nat), rowsSum (fun i => f i + g i) n = rowsSum f n + rowsSum g n
  | 0 => rfl
  | n + 1 => by rw [rowsSum, rowsSum, rowsSum, rowsSum_add f g n]; omega
theorem rowsSum_one (v : Int) (j : Int) (hj : 0 ≤ j) : ∀ (n : Nat), rowsSum (fun i => if j = i then v else 0) n = if j < n then v else 0
  | 0 => by rw [rowsSum, if_neg (by simp only [Int.natCast_zero]; omega)]
  | n + 1 => by
    rw [rowsSum, rowsSum_one v j hj n]
    by_cases h1 : j < (n : Int)
    · rw [if_pos h1, if_neg (by omega), if_pos (by omega)]; omega
    · rw [if_neg h1]
      by_cases h2 : j = (n : Int)
      · rw [if_pos h2, if_pos (by omega)]; omega
      · rw [if_neg h2, if_neg (by omega)]; rfl
theorem rowsSum_zero : ∀ (n : Nat), rowsSum (fun _ => 0) n = 0
  | 0 => rfl
  | n + 1 => by rw [rowsSum, rowsSum_zero n]; rfl
theorem over_all (f : Load → Int) (bays rows : Nat) : ∀ (L : List Load), (∀ x ∈ L, (0 ≤ x.sl.b ∧ x.sl.b < (bays : Int)) ∧ (0 ≤ x.sl.r ∧ x.sl.r < (rows : Int))) → rowsSum (fun b => rowsSum (fun r => ((L.filter (inSt b r)).map f).sum) rows) bays = (L.map f).sum
  | [], _ => by
    have h1 : (fun b : Int => rowsSum (fun r => (((([] : List Load).filter (inSt b r)).map f)).sum) rows) = fun _ => 0 := by
      funext b
      exact (rowsSum_congr rows (fun i _ => rfl)).trans (rowsSum_zero rows)
    rw [h1, rowsSum_zero]
    rfl
  | x :: L, h => by
    have ih := over_all f bays rows L (fun y hy => h y (List.mem_cons_of_mem _ hy))
    obtain ⟨⟨h1, h2⟩, h3, h4⟩ := h x List.mem_cons_self
    have hstep : ∀ b r : Int, (((x :: L).filter (inSt b r)).map f).sum = (if x.sl.r = r then (if x.sl.b = b then f x else 0) else 0) + ((L.filter (inSt b r)).map f).sum := by
      intro b r
      rw [List.filter_cons]
      by_cases hq : inSt b r x = true
      · obtain ⟨e1, e2⟩ := inSt_iff.1 hq
        rw [if_pos hq, if_pos e2, if_pos e1, List.map_cons, List.sum_cons]
      · rw [if_neg hq]
        have : (if x.sl.r = r then (if x.sl.b = b then f x else 0) else 0) = 0 := by
          split
          · split
            · exact absurd (inSt_iff.2 ⟨by assumption, by assumption⟩) hq
            · rfl
          · rfl
        rw [this]; omega
    have e1 : ∀ b : Int, rowsSum (fun r => (((x :: L).filter (inSt b r)).map f).sum) rows = (if x.sl.b = b then f x else 0) + rowsSum (fun r => ((L.filter (inSt b r)).map f).sum) rows := by
      intro b
      rw [rowsSum_congr (g := fun r => (if x.sl.r = r then (if x.sl.b = b then f x else 0) else 0) + ((L.filter (inSt b r)).map f).sum) rows (fun i _ => hstep b i), rowsSum_add, rowsSum_one _ _ h3, if_pos h4]
    rw [rowsSum_congr (g := fun b => (if x.sl.b = b then f x else 0) + rowsSum (fun r => ((L.filter (inSt b r)).map f).sum) rows) bays (fun i _ => e1 i), rowsSum_add, rowsSum_one _ _ h1, if_pos h2, ih, List.map_cons, List.sum_cons]
theorem over_eq {S : Ship} {L : List Load} (hv : Inv S L) (hS : S.tiers ≤ 32) (bays rows : Nat) (hb : S.bays = bays) (hr : S.rows = rows) (port : Int) : rowsSum (fun b => rowsSum (fun r => cntF port false (stackL L b r)) rows) bays = overD L port := by
  rw [rowsSum_congr (g := fun b => rowsSum (fun r => ((L.filter (inSt b r)).map (gOver L port)).sum) rows) bays (fun b _ => rowsSum_congr rows (fun r _ => cnt_stack hv hS b r port))]
  exact over_all (gOver L port) bays rows L (fun x hx => by
    have := hv.on x hx
    rw [hb, hr] at this
    exact ⟨this.1, this.2.1⟩)
end Go.Proofs.YtodgjgkoaahhmaaGreatDoor
namespace Go.Proofs.YtodgjgkoaahhmaaGreatDoor
open Go.SL
/-! ### put, taken: plain -/
def bchB (c : UInt8) : Bool := (decide (97 ≤ c.toNat) && decide (c.toNat ≤ 122)) || (decide (48 ≤ c.toNat) && decide (c.toNat ≤ 57)) || decide (c.toNat = 45)
def bnameOk (s : ByteArray) : Bool := decide (1 ≤ s.size) && decide (s.size ≤ 16) && s.data.toList.all bchB
def frB (n a b : Int) : Bool := decide (a ≤ n) && decide (n ≤ b)
theorem frB_t {n a b : Int} : frB n a b = true ↔ a ≤ n ∧ n ≤ b := by simp [frB]
def mayL (x : Load) : Bool := bnameOk x.box && (frB x.w 1 1048576 && (frB x.c 0 1048576 && frB x.p 0 64))
def onB (S : Ship) (s : Sl) : Bool := frB s.b 0 (S.bays - 1) && (frB s.r 0 (S.rows - 1) && frB s.t 0 (S.tiers - 1))
def shipOk (S : Ship) : Bool := bnameOk S.nm && (frB S.bays 1 32 && (frB S.rows 1 32 && (frB S.tiers 1 32 && (frB S.stack 0 1048576 && (frB S.trim 0 1048576 && (frB S.list 0 1048576 && (frB S.up 0 1048576 && frB S.most 0 1048576)))))))
/-- the pairs of classes that lie apart -/
def apRows : List (Int × Int) := [(1, 2), (1, 3), (1, 4), (1, 5), (1, 6), (1, 7), (1, 8), (1, 9), (2, 3), (2, 5), (3, 5), (3, 8), (4, 5), (4, 8), (5, 6), (5, 8), (7, 9)]
def apB (a b : Int) : Bool := apRows.contains (a, b) || apRows.contains (b, a)
theorem apB_comm (a b : Int) : apB a b = apB b a := Bool.or_comm _ _
theorem apB_self (a : Int) : apB a a = false := by
  have h : ∀ p ∈ apRows, p.1 ≠ p.2 := by decide
  have : apRows.contains (a, a) = false := by
    cases hq : apRows.contains (a, a) with
    | false => rfl
    | true => exact absurd rfl (h (a, a) (List.contains_iff_mem.1 hq))
  unfold apB
  rw [this]
  rfl
def unb (L : List Load) (x : Load) : Bool := if x.sl.t = 0 then false else match atS L ⟨x.sl.b, x.sl.r, x.sl.t - 1⟩ with
  | none => true
  | some y => decide (y.w < x.w)
def nearB (a b : Sl) : Bool := decide ((a.b - b.b) * (a.b - b.b) + (a.r - b.r) * (a.r - b.r) ≤ 1)
def clashD (L : List Load) (x : Load) : Bool := L.any fun y => nearB y.sl x.sl && apB y.c x.c
def putE (S : Ship) (L : List Load) (x : Load) : Int :=
  if mayL x = false then 1 else if (byB L x.box).isSome = true then 5 else if onB S x.sl = false then 3 else if (atS L x.sl).isSome = true then 8 else if unb L x = true then 6 else if S.stack < stW L x.sl.b x.sl.r + x.w ∨ S.most < wsum L + x.w then 7 else if clashD L x = true then 12 else 0
structure Inv2 (S : Ship) (L : List Load) : Prop extends Inv S L where
  stk : ∀ b r, stW L b r ≤ S.stack
  tot : wsum L ≤ S.most
  apt : ∀ x ∈ L, ∀ y ∈ L, nearB x.sl y.sl = true → apB x.c y.c = false
  nms : ∀ x ∈ L, bnameOk x.box = true
theorem putE_ok {S : Ship} {L : List Load} {x : Load} (h : putE S L x = 0) : mayL x = true ∧ byB L x.box = none ∧ onB S x.sl = true ∧ atS L x.sl = none ∧ unb L x = false ∧ stW L x.sl.b x.sl.r + x.w ≤ S.stack ∧ wsum L + x.w ≤ S.most ∧ clashD L x = false := by
  unfold putE at h
  split at h
  · cases h
  split at h
  · cases h
  split at h
  · cases h
  split at h
  · cases h
  split at h
  · cases h
  split at h
  · cases h
  split at h
  · cases h
  rename_i h1 h2 h3 h4 h5 h6 h7
  refine ⟨by simpa using h1, ?_, by simpa using h3, ?_, by simpa using h5, by omega, by omega, by simpa using h7⟩
  · cases hq : byB L x.box with
    | none => rfl
    | some y => rw [hq] at h2; simp at h2
  · cases hq : atS L x.sl with
    | none => rfl
    | some y => rw [hq] at h4; simp at h4
theorem nearB_comm (a b : Sl) : nearB a b = nearB b a := by
  unfold nearB
  have e1 : (a.b - b.b) * (a.b - b.b) = (b.b - a.b) * (b.b - a.b) := by rw [← Int.neg_mul_neg]; congr 1 <;> omega
  have e2 : (a.r - b.r) * (a.r - b.r) = (b.r - a.r) * (b.r - a.r) := by rw [← Int.neg_mul_neg]; congr 1 <;> omega
  rw [e1, e2]
theorem put_inv {S : Ship} {L : List Load} (hv : Inv2 S L) {x : Load} (h : putE S L x = 0) : Inv2 S (L ++ [x]) := by
  obtain ⟨h1, h2, h3, h4, h5, h6, h7, h8⟩ := putE_ok h
  unfold mayL at h1
  simp only [Bool.and_eq_true, frB_t] at h1
  unfold onB at h3
  simp only [Bool.and_eq_true, frB_t] at h3
  have ns : ∀ y ∈ L, y.sl ≠ x.sl := atS_none.1 h4
  have nb : ∀ y ∈ L, y.box ≠ x.box := byB_none.1 h2
  have all : ∀ {p : Load → Prop}, (∀ y ∈ L, p y) → p x → ∀ y ∈ L ++ [x], p y := fun ha hx y hy => by
    rcases List.mem_append.1 hy with q | q
    · exact ha y q
    · rw [List.mem_singleton.1 q]; exact hx
  refine ⟨⟨?_, ?_, all hv.on (by omega), all hv.ok ⟨h1.2.1, h1.2.2.1, h1.2.2.2⟩, ?_⟩, ?_, ?_, ?_, all hv.nms h1.1⟩
  · rw [List.map_append, List.nodup_append]
    refine ⟨hv.nS, (by simp), fun a ha b hb => ?_⟩
    obtain ⟨y, hy, rfl⟩ := List.mem_map.1 ha
    rw [List.map_singleton, List.mem_singleton] at hb
    rw [hb]
    exact ns y hy
  · rw [List.map_append, List.nodup_append]
    refine ⟨hv.nB, (by simp), fun a ha b hb => ?_⟩
    obtain ⟨y, hy, rfl⟩ := List.mem_map.1 ha
    rw [List.map_singleton, List.mem_singleton] at hb
    rw [hb]
    exact nb y hy
  · refine all (fun y hy ht => ?_) (fun ht => ?_)
    · obtain ⟨z, hz, e⟩ := hv.sup y hy ht
      exact ⟨z, List.mem_append.2 (.inl hz), e⟩
    · unfold unb at h5
      rw [if_neg ht] at h5
      cases hq : atS L ⟨x.sl.b, x.sl.r, x.sl.t - 1⟩ with
      | none => rw [hq] at h5; cases h5
      | some z =>
        rw [hq] at h5
        obtain ⟨e1, e2⟩ := (atS_some hv.nS).1 hq
        have : ¬ z.w < x.w := by simpa using h5
        exact ⟨z, List.mem_append.2 (.inl e1), e2, by omega⟩
  · intro b r
    rw [stW_app, stW_cons]
    have := hv.stk b r
    show stW L b r + (_ + 0) ≤ _
    split
    · rename_i e
      obtain ⟨e1, e2⟩ := inSt_iff.1 e
      rw [e1, e2] at h6
      omega
    · omega
  · rw [wsum_app, wsum_cons]
    show wsum L + (x.w + 0) ≤ _
    omega
  · intro a ha b hb hn
    rcases List.mem_append.1 ha with q | q <;> rcases List.mem_append.1 hb with q' | q'
    · exact hv.apt a q b q' hn
    · rw [List.mem_singleton.1 q'] at hn ⊢
      have := List.any_eq_false.1 h8 a q
      rw [hn, Bool.true_and] at this
      simpa using this
    · rw [List.mem_singleton.1 q] at hn ⊢
      have := List.any_eq_false.1 h8 b q'
      rw [nearB_comm, hn, Bool.true_and] at this
      rw [apB_comm]
      simpa using this
    · rw [List.mem_singleton.1 q, List.mem_singleton.1 q']
      exact apB_self _
/-- a hold without a load -/
def delL (L : List Load) (x : Load) : List Load := L.filter fun y => decide (y ≠ x)
theorem del_mem {L : List Load} {x y : Load} : y ∈ delL L x ↔ y ∈ L ∧ y ≠ x := by unfold delL; rw [List.mem_filter, decide_eq_true_eq]
theorem del_perm {L : List Load} (hn : L.Nodup) {x : Load} (hx : x ∈ L) : (x :: delL L x).Perm L := by
  refine perm_mem (List.nodup_cons.2 ⟨fun h => (del_mem.1 h).2 rfl, hn.filter _⟩) hn (fun y => ?_)
  rw [List.mem_cons, del_mem]
  constructor
  · rintro (rfl | h)
    · exact hx
    · exact h.1
  · intro h
    by_cases e : y = x
    · exact .inl e
    · exact .inr ⟨h, e⟩
theorem del_slM {L : List Load} (hn : (L.map (·.sl)).Nodup) {x : Load} (hx : x ∈ L) : slM (delL L x) = adel x.sl (slM L) := by
  induction L with
  | nil => rfl
  | cons y L ih =>
    rw [List.map_cons, List.nodup_cons] at hn
    unfold delL
    rw [List.filter_cons, slM_cons, adel]
    by_cases e : y = x
    · subst e
      rw [if_neg (by simp), if_pos rfl]
      have : (L.filter fun z => decide (z ≠ y)) = L := List.filter_eq_self.2 (fun z hz => by
        rw [decide_eq_true_eq]
        rintro rfl
        exact hn.1 (List.mem_map.2 ⟨z, hz, rfl⟩))
      rw [this]
    · have hx' : x ∈ L := (List.mem_cons.1 hx).resolve_left (fun q => e q.symm)
      have hne : y.sl ≠ x.sl := fun q => hn.1 (List.mem_map.2 ⟨x, hx', q.symm⟩)
      rw [if_pos (by simpa using e), if_neg hne, slM_cons]
      exact congrArg _ (ih hn.2 hx')
theorem del_nmM {L : List Load} (hn : (L.map (·.box)).Nodup) {x : Load} (hx : x ∈ L) : nmM (delL L x) = adel x.box (nmM L) := by
  induction L with
  | nil => rfl
  | cons y L ih =>
    rw [List.map_cons, List.nodup_cons] at hn
    unfold delL
    rw [List.filter_cons, nmM_cons, adel]
    by_cases e : y = x
    · subst e
      rw [if_neg (by simp), if_pos rfl]
      have : (L.filter fun z => decide (z ≠ y)) = L := List.filter_eq_self.2 (fun z hz => by
        rw [decide_eq_true_eq]
        rintro rfl
        exact hn.1 (List.mem_map.2 ⟨z, hz, rfl⟩))
      rw [this]
    · have hx' : x ∈ L := (List.mem_cons.1 hx).resolve_left (fun q => e q.symm)
      have hne : y.box ≠ x.box := fun q => hn.1 (List.mem_map.2 ⟨x, hx', q.symm⟩)
      rw [if_pos (by simpa using e), if_neg hne, nmM_cons]
      exact congrArg _ (ih hn.2 hx')
theorem stW_nn {S : Ship} {L : List Load} (hv : Inv S L) (b r : Int) : 0 ≤ stW L b r := by
  have := hv.ok
  clear hv
  induction L with
  | nil => exact Int.le_refl _
  | cons x L ih =>
    rw [stW_cons]
    have h1 := ih (fun y hy => this y (List.mem_cons_of_mem _ hy))
    have h2 := (this x List.mem_cons_self).1
    split <;> omega
end Go.Proofs.YtodgjgkoaahhmaaGreatDoor
namespace Go.Proofs.YtodgjgkoaahhmaaGreatDoor
open Go.SL
/-! ### near ones; the document's row beside the program's hold -/
theorem sq_nn (a : Int) : 0 ≤ a * a := by
  rcases Int.le_total 0 a with h | h
  · exact Int.mul_nonneg h h
  · exact Int.mul_nonneg_of_nonpos_of_nonpos h h
theorem sq_le {a : Int} (h : a * a ≤ 1) : -1 ≤ a ∧ a ≤ 1 := by
  constructor
  · rcases Int.lt_or_le a (-1) with h1 | h1
    · have : (2 : Int) * 2 ≤ (-a) * (-a) := Int.mul_le_mul (by omega) (by omega) (by omega) (by omega)
      rw [Int.neg_mul_neg] at this
      omega
    · exact h1
  · rcases Int.lt_or_le 1 a with h1 | h1
    · have : (2 : Int) * 2 ≤ a * a := Int.mul_le_mul (by omega) (by omega) (by omega) (by omega)
      omega
    · exact h1
def offs : List (Int × Int) := [(0, 0), (-1, 0), (1, 0), (0, -1), (0, 1)]
theorem near_iff {a b : Sl} : nearB a b = true ↔ ∃ o ∈ offs, a.b = b.b + o.1 ∧ a.r = b.r + o.2 := by
  unfold nearB offs
  rw [decide_eq_true_eq]
  constructor
  · intro h
    have h1 := sq_nn (a.b - b.b)
    have h2 := sq_nn (a.r - b.r)
    obtain ⟨x1, x2⟩ := sq_le (a := a.b - b.b) (by omega)
    obtain ⟨y1, y2⟩ := sq_le (a := a.r - b.r) (by omega)
    generalize hx : a.b - b.b = x at *
    generalize hy : a.r - b.r = y at *
    have hxx : x = -1 ∨ x = 0 ∨ x = 1 := by omega
    have hyy : y = -1 ∨ y = 0 ∨ y = 1 := by omega
    rcases hxx with rfl | rfl | rfl <;> rcases hyy with rfl | rfl | rfl <;> first
      | (exfalso; revert h; decide)
      | exact ⟨(0, 0), by simp, by simp only; omega, by simp only; omega⟩
      | exact ⟨(-1, 0), by simp, by simp only; omega, by simp only; omega⟩
      | exact ⟨(1, 0), by simp, by simp only; omega, by simp only; omega⟩
      | exact ⟨(0, -1), by simp, by simp only; omega, by simp only; omega⟩
      | exact ⟨(0, 1), by simp, by simp only; omega, by simp only; omega⟩
  · rintro ⟨o, ho, e1, e2⟩
    have hx : a.b - b.b = o.1 := by omega
    have hy : a.r - b.r = o.2 := by omega
    rw [hx, hy]
    simp only [List.mem_cons, List.not_mem_nil, or_false] at ho
    rcases ho with rfl | rfl | rfl | rfl | rfl <;> decide
def stAny (L : List Load) (x : Load) (o : Int × Int) : Bool := (stackL L (x.sl.b + o.1) (x.sl.r + o.2)).any fun y => apB x.c y.c
def clashP (L : List Load) (x : Load) : Bool := offs.any (stAny L x)
theorem clash_eq {S : Ship} {L : List Load} (hv : Inv S L) (hS : S.tiers ≤ 32) (x : Load) : clashP L x = clashD L x := by
  unfold clashP clashD stAny
  rw [Bool.eq_iff_iff, List.any_eq_true, List.any_eq_true]
  constructor
  · rintro ⟨o, ho, h⟩
    obtain ⟨y, hy, hc⟩ := List.any_eq_true.1 h
    obtain ⟨h1, h2, h3⟩ := (stack_mem hv hS).1 hy
    refine ⟨y, h1, ?_⟩
    rw [Bool.and_eq_true]
    exact ⟨near_iff.2 ⟨o, ho, h2, h3⟩, by rw [apB_comm]; exact hc⟩
  · rintro ⟨y, hy, h⟩
    rw [Bool.and_eq_true] at h
    obtain ⟨o, ho, e1, e2⟩ := near_iff.1 h.1
    exact ⟨o, ho, List.any_eq_true.2 ⟨y, (stack_mem hv hS).2 ⟨hy, e1, e2⟩, by rw [apB_comm]; exact h.2⟩⟩
/-- the document's row of a hold -/
structure DocB (L D : List Load) : Prop where
  perm : D.Perm L
  sort : DSort D
/-- what is put can be taken at once -/
theorem put_free {S : Ship} {L : List Load} (hv : Inv S L) {x : Load} (hn : atS L x.sl = none) (ht : 0 ≤ x.sl.t) : atS (L ++ [x]) ⟨x.sl.b, x.sl.r, x.sl.t + 1⟩ = none := by
  rw [atS_none]
  intro y hy e
  rcases List.mem_append.1 hy with q | q
  · obtain ⟨z, hz, e1, _⟩ := hv.sup y q (by rw [e]; simp only; omega)
    refine atS_none.1 hn z hz ?_
    rw [e1, e, Sl_eq]
    simp
  · rw [List.mem_singleton.1 q, Sl_eq] at e
    simp only at e
    omega
theorem del_last {L : List Load} {x : Load} (hn : x ∉ L) : delL (L ++ [x]) x = L := by
  unfold delL
  rw [List.filter_append]
  have h1 : (L.filter fun y => decide (y ≠ x)) = L := List.filter_eq_self.2 (fun z hz => by
    rw [decide_eq_true_eq]
    rintro rfl
    exact hn hz)
  have h2 : ([x].filter fun y => decide (y ≠ x)) = [] := by simp
  rw [h1, h2, List.append_nil]
end Go.Proofs.YtodgjgkoaahhmaaGreatDoor
