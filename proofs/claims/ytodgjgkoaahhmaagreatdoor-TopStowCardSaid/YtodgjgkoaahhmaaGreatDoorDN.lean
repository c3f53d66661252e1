import Derived.Test.YtodgjgkoaahhmaaGreatDoorDE
namespace Go.Proofs.YtodgjgkoaahhmaaGreatDoor
open Go.SL
/-! ### loads that stand right: plain -/
def belowS (s : Sl) : Sl := ⟨s.b, s.r, s.t - 1⟩
theorem stW_nn2 {L : List Load} (h : ∀ x ∈ L, 0 ≤ x.w) (b r : Int) : 0 ≤ stW L b r := by
  induction L with
  | nil => exact Int.le_refl _
  | cons x L ih =>
    rw [stW_cons]
    have h1 := ih (fun y hy => h y (List.mem_cons_of_mem _ hy))
    have h2 := h x List.mem_cons_self
    split <;> omega
theorem wsum_nn2 {L : List Load} (h : ∀ x ∈ L, 0 ≤ x.w) : 0 ≤ wsum L := by
  induction L with
  | nil => exact Int.le_refl _
  | cons x L ih =>
    rw [wsum_cons]
    have h1 := ih (fun y hy => h y (List.mem_cons_of_mem _ hy))
    have h2 := h x List.mem_cons_self
    omega
theorem putE_zero {S : Ship} {L : List Load} {x : Load} (h1 : mayL x = true) (h2 : byB L x.box = none) (h3 : onB S x.sl = true) (h4 : atS L x.sl = none) (h5 : unb L x = false) (h6 : stW L x.sl.b x.sl.r + x.w ≤ S.stack) (h7 : wsum L + x.w ≤ S.most) (h8 : clashD L x = false) : putE S L x = 0 := by
  unfold putE
  rw [h1, h2, h3, h4, h5, h8, if_neg (by decide), if_neg (by decide), if_neg (by decide), if_neg (by decide), if_neg (by decide), if_neg (by omega), if_neg (by decide)]
theorem inv_may {S : Ship} {L : List Load} (hv : Inv2 S L) {x : Load} (hx : x ∈ L) : mayL x = true := by
  have h1 := hv.ok x hx
  have h2 := hv.nms x hx
  unfold mayL
  simp only [Bool.and_eq_true, frB_t]
  exact ⟨h2, h1.1, h1.2.1, h1.2.2⟩
theorem inv_on {S : Ship} {L : List Load} (hv : Inv2 S L) {x : Load} (hx : x ∈ L) : onB S x.sl = true := by
  rw [onB_t]; exact hv.on x hx
/-- of a hold in which all stands right: what has below it what it had can be put among some of the others -/
theorem putE_sub {S : Ship} {L M R : List Load} {x : Load} (hv : Inv2 S L) (hp : (M ++ x :: R).Perm L) (hs : ∀ y ∈ L, y.sl = belowS x.sl → y ∈ M) : putE S M x = 0 := by
  have hx : x ∈ L := hp.mem_iff.1 (by simp)
  have hm : ∀ y ∈ M, y ∈ L := fun y hy => hp.mem_iff.1 (List.mem_append_left _ hy)
  have hr : ∀ y ∈ R, y ∈ L := fun y hy => hp.mem_iff.1 (by simp [hy])
  have n1 := (hp.map (·.sl)).nodup_iff.2 hv.nS
  have n2 := (hp.map (·.box)).nodup_iff.2 hv.nB
  rw [List.map_append, List.map_cons, List.nodup_append] at n1 n2
  refine putE_zero (inv_may hv hx) ?_ (inv_on hv hx) ?_ ?_ ?_ ?_ ?_
  · rw [byB_none]
    exact fun y hy => n2.2.2 _ (List.mem_map.2 ⟨y, hy, rfl⟩) _ List.mem_cons_self
  · rw [atS_none]
    exact fun y hy => n1.2.2 _ (List.mem_map.2 ⟨y, hy, rfl⟩) _ List.mem_cons_self
  · unfold unb
    split
    · rfl
    · rename_i ht
      obtain ⟨y, hy, e1, e2⟩ := hv.sup x hx ht
      have := hs y hy e1
      have ha : atS M ⟨x.sl.b, x.sl.r, x.sl.t - 1⟩ = some y := (atS_some n1.1).2 ⟨this, e1⟩
      rw [ha]
      dsimp only
      rw [decide_eq_false_iff_not]
      omega
  · have h1 := stW_perm hp x.sl.b x.sl.r
    rw [stW_app, stW_cons, if_pos (inSt_iff.2 ⟨rfl, rfl⟩)] at h1
    have h2 := hv.stk x.sl.b x.sl.r
    have h3 := stW_nn2 (L := R) (fun y hy => by have := hv.ok y (hr y hy); omega) x.sl.b x.sl.r
    omega
  · have h1 := wsum_perm hp
    rw [wsum_app, wsum_cons] at h1
    have h2 := hv.tot
    have h3 := wsum_nn2 (L := R) (fun y hy => by have := hv.ok y (hr y hy); omega)
    omega
  · unfold clashD
    rw [List.any_eq_false]
    intro y hy
    rw [Bool.not_eq_true]
    cases hn : nearB y.sl x.sl with
    | false => rfl
    | true => rw [hv.apt y (hm y hy) x hx hn]; rfl
def Stands (P : List Load) : Prop := P.Pairwise fun a b => b.sl ≠ belowS a.sl
theorem putAll_of {S : Ship} {L P : List Load} (hv : Inv2 S L) (hp : P.Perm L) (ho : Stands P) : ∀ n : Nat, n ≤ P.length → putAll S [] (P.take n) = (0, P.take n)
  | 0, _ => by rw [List.take_zero]; rfl
  | n + 1, hn => by
    obtain ⟨x, hx, hd⟩ := drop_at (l := P) (k := n) (by omega)
    rw [take_at hx, putAll_app, putAll_of hv hp ho n (by omega), if_pos rfl]
    dsimp only
    have hsplit : P = P.take n ++ x :: P.drop (n + 1) := by rw [← hd, List.take_append_drop]
    have h0 : putE S (P.take n) x = 0 := by
      refine putE_sub (R := P.drop (n + 1)) hv (by rw [← hsplit]; exact hp) (fun y hy hb => ?_)
      have hyP : y ∈ P := hp.mem_iff.2 hy
      rw [hsplit] at hyP
      rcases List.mem_append.1 hyP with q | q
      · exact q
      exfalso
      rcases List.mem_cons.1 q with q | q
      · rw [q] at hb
        have := congrArg Sl.t hb
        unfold belowS at this
        simp only at this
        omega
      · unfold Stands at ho
        rw [hsplit, List.pairwise_append, List.pairwise_cons] at ho
        exact ho.2.1.1 y q hb
    rw [putAll_cons, if_pos h0, putAll_nil]
theorem putAll_all {S : Ship} {L P : List Load} (hv : Inv2 S L) (hp : P.Perm L) (ho : Stands P) : putAll S [] P = (0, P) := by
  have := putAll_of hv hp ho P.length (Nat.le_refl _)
  rwa [List.take_length] at this
theorem tier_stands {P : List Load} (h : P.Pairwise fun a b => a.sl.t ≤ b.sl.t) : Stands P := h.imp (fun {a b} hab e => by
  have := congrArg Sl.t e
  unfold belowS at this
  simp only at this
  omega)
theorem isP_stands (l : List Load) : Stands (isL ltP l) := by
  refine tier_stands ((isL_sorted swoP l).imp (fun {a b} h => ?_))
  have h2 : ¬ (ltP b a = true) := by rw [h]; decide
  rw [ltP_t] at h2
  omega
theorem Inv.perm {S : Ship} {L M : List Load} (hv : Inv S L) (h : L.Perm M) : Inv S M := by
  refine ⟨(h.map _).nodup_iff.1 hv.nS, (h.map _).nodup_iff.1 hv.nB, fun x hx => hv.on x (h.mem_iff.2 hx), fun x hx => hv.ok x (h.mem_iff.2 hx), fun x hx ht => ?_⟩
  obtain ⟨y, hy, e⟩ := hv.sup x (h.mem_iff.2 hx) ht
  exact ⟨y, h.mem_iff.1 hy, e⟩
theorem Inv2.perm {S : Ship} {L M : List Load} (hv : Inv2 S L) (h : L.Perm M) : Inv2 S M :=
  ⟨hv.toInv.perm h, fun b r => by rw [← stW_perm h]; exact hv.stk b r, by rw [← wsum_perm h]; exact hv.tot, fun x hx y hy => hv.apt x (h.mem_iff.2 hx) y (h.mem_iff.2 hy), fun x hx => hv.nms x (h.mem_iff.2 hx)⟩
/-- they stand just if all is right of them -/
theorem standE_iff {S : Ship} {l : List Load} : standE S l = 0 ↔ shipOk S = true ∧ Inv2 S l := by
  unfold standE
  cases e : shipOk S with
  | false => simp
  | true =>
    rw [if_neg (by decide)]
    constructor
    · intro h
      have h1 := putAll_zero _ h
      have h2 := (putAll_ok (isL ltP l) (inv00 e)).1
      rw [h1, List.nil_append] at h2
      exact ⟨rfl, h2.perm (isL_perm l)⟩
    · rintro ⟨_, hv⟩
      rw [putAll_all hv (isL_perm l) (isP_stands l)]
theorem sLong_perm {S : Ship} {L M : List Load} (h : L.Perm M) : sLong S L = sLong S M := lsum_perm (h.map _)
theorem sCross_perm {S : Ship} {L M : List Load} (h : L.Perm M) : sCross S L = sCross S M := lsum_perm (h.map _)
theorem sUp_perm {L M : List Load} (h : L.Perm M) : sUp L = sUp M := lsum_perm (h.map _)
theorem all_permG {α : Type} {l m : List α} (h : l.Perm m) (f : α → Bool) : l.all f = m.all f := by
  rw [Bool.eq_iff_iff, List.all_eq_true, List.all_eq_true]
  exact ⟨fun q x hx => q x (h.mem_iff.2 hx), fun q x hx => q x (h.mem_iff.1 hx)⟩
theorem fitL_perm {S : Ship} {L M : List Load} (h : L.Perm M) : fitL S L = fitL S M := by
  unfold fitL
  have e : decide ((L.map (·.sl)).Nodup) = decide ((M.map (·.sl)).Nodup) := by rw [decide_eq_decide]; exact (h.map _).nodup_iff
  rw [h.length_eq, all_permG h, e]
theorem safeE_perm {S : Ship} {L M : List Load} (h : L.Perm M) : safeE S L = safeE S M := by
  unfold safeE
  rw [fitL_perm h, sLong_perm h, sCross_perm h, sUp_perm h, wsum_perm h]
theorem fit_inv {S : Ship} {L : List Load} (hv : Inv2 S L) (hS : shipOk S = true) (hl : L.length ≤ 4096) : fitL S L = true := by
  unfold fitL
  rw [hS, decide_eq_true hl, decide_eq_true hv.nS, List.all_eq_true.2 (fun x hx => fitOne_t.2 ⟨hv.on x hx, (hv.ok x hx).1⟩)]
  rfl
theorem lsort_perm {L : List Load} (hn : (L.map (·.sl)).Nodup) : (lsort L).Perm L := (lsort_doc hn).perm
theorem safeE_nil {S : Ship} (hS : shipOk S = true) : safeE S [] = 0 := by
  unfold safeE
  have hi := ship_in2 hS
  have : fitL S [] = true := fit_inv (inv00 hS) hS (by simp)
  rw [this, if_neg (by decide)]
  have e1 : sLong S [] = 0 := rfl
  have e2 : sCross S [] = 0 := rfl
  have e3 : sUp [] = 0 := rfl
  have e4 : wsum [] = 0 := rfl
  have e5 : maxI 0 (-0) = 0 := by decide
  rw [e1, e2, e3, e4]
  unfold sfE
  rw [e5, if_neg (by omega), if_neg (by omega)]
end Go.Proofs.YtodgjgkoaahhmaaGreatDoor
namespace Go.Proofs.YtodgjgkoaahhmaaGreatDoor
open Go.SL
/-! ### a plan: plain -/
def tiersOf (L : List Load) : List (Sl × Int) := L.foldl (fun T x => aput (stkOf x.sl) (tierOf T x.sl.b x.sl.r + 1) T) []
theorem tiersOf_snoc (L : List Load) (x : Load) : tiersOf (L ++ [x]) = aput (stkOf x.sl) (tierOf (tiersOf L) x.sl.b x.sl.r + 1) (tiersOf L) := by unfold tiersOf; rw [List.foldl_append]; rfl
def hgt (L : List Load) (b r : Int) : Int := ((L.filter (inSt b r)).length : Nat)
theorem tierOf_eq (L : List Load) (b r : Int) : tierOf (tiersOf L) b r = hgt L b r := by
  induction L using lsnoc generalizing b r with
  | h0 => rfl
  | h1 L x ih =>
    rw [tiersOf_snoc]
    unfold tierOf
    rw [aget_put]
    unfold hgt
    rw [List.filter_append, List.length_append]
    by_cases h : inSt b r x = true
    · obtain ⟨e1, e2⟩ := inSt_iff.1 h
      have : stkOf x.sl = ⟨b, r, 0⟩ := by unfold stkOf; rw [e1, e2]
      rw [if_pos (by rw [this]), Option.getD_some, e1, e2]
      have q := ih b r
      unfold tierOf hgt at q
      show tierOf (tiersOf L) b r + 1 = _
      unfold tierOf
      rw [q]
      simp [h]
    · have : stkOf x.sl ≠ ⟨b, r, 0⟩ := fun e => h (inSt_iff.2 (by unfold stkOf at e; rw [Sl_eq] at e; exact ⟨e.1, e.2.1⟩))
      rw [if_neg (fun e => this (by first | exact e | exact e.symm))]
      have q := ih b r
      unfold tierOf hgt at q
      rw [q]
      simp [h]
theorem sLong_snoc (S : Ship) (L : List Load) (x : Load) : sLong S (L ++ [x]) = nowL S (sLong S L) x.sl.b x.w := by
  unfold sLong nowL mLong
  rw [List.map_append, List.sum_append]
  simp [Int.mul_comm]
theorem sCross_snoc (S : Ship) (L : List Load) (x : Load) : sCross S (L ++ [x]) = nowC S (sCross S L) x.sl.r x.w := by
  unfold sCross nowC mCross
  rw [List.map_append, List.sum_append]
  simp [Int.mul_comm]
def triesL (S : Ship) (L : List Load) (wt : Int) (B R : Nat) : List Sl := triesP S (sLong S L) (sCross S L) (tiersOf L) wt B R
def bestP (S : Ship) (B R : Nat) (L : List Load) (x : Load) : Option Sl := (triesL S L x.w B R).find? fun s => decide (putE S L (atL x s) = 0)
theorem bestP_none {S : Ship} {B R : Nat} {L : List Load} {x : Load} (h : bestP S B R L x = none) : ∀ s ∈ triesL S L x.w B R, putE S L (atL x s) ≠ 0 := by
  unfold bestP at h
  rw [List.find?_eq_none] at h
  exact fun s hs e => h s hs (by simp [e])
theorem bestP_some {S : Ship} {B R : Nat} {L : List Load} {x : Load} {s : Sl} (h : bestP S B R L x = some s) : putE S L (atL x s) = 0 ∧ ∃ k : Nat, (triesL S L x.w B R)[k]? = some s ∧ ∀ s' ∈ (triesL S L x.w B R).take k, putE S L (atL x s') ≠ 0 := by
  unfold bestP at h
  rw [List.find?_eq_some_iff_getElem] at h
  obtain ⟨h1, i, hi, h2, h3⟩ := h
  refine ⟨by simpa using h1, i, by rw [← h2]; exact List.getElem?_eq_getElem hi, fun s' hs e => ?_⟩
  obtain ⟨j, hj, rfl⟩ := List.mem_iff_getElem.1 hs
  rw [List.length_take] at hj
  have := h3 j (by omega)
  rw [List.getElem_take] at e
  simp [e] at this
def stepP (S : Ship) (B R : Nat) (st : List Load × List ByteArray) (x : Load) : List Load × List ByteArray := match bestP S B R st.1 x with
  | some s => (st.1 ++ [atL x s], st.2)
  | none => (st.1, st.2 ++ [x.box])
def fillP (S : Ship) (B R : Nat) (l : List Load) : List Load × List ByteArray := l.foldl (stepP S B R) ([], [])
theorem fillP_snoc (S : Ship) (B R : Nat) (l : List Load) (x : Load) : fillP S B R (l ++ [x]) = stepP S B R (fillP S B R l) x := by unfold fillP; rw [List.foldl_append]; rfl
theorem fillP_inv {S : Ship} {B R : Nat} (hS : shipOk S = true) (l : List Load) : Inv2 S (fillP S B R l).1 ∧ (fillP S B R l).1.length + (fillP S B R l).2.length = l.length := by
  induction l using lsnoc with
  | h0 => exact ⟨inv00 hS, rfl⟩
  | h1 l x ih =>
    rw [fillP_snoc]
    unfold stepP
    cases hb : bestP S B R (fillP S B R l).1 x with
    | none =>
      refine ⟨ih.1, ?_⟩
      dsimp only
      rw [List.length_append, List.length_append]
      simp only [List.length_cons, List.length_nil]
      omega
    | some s =>
      refine ⟨put_inv ih.1 (bestP_some hb).1, ?_⟩
      dsimp only
      rw [List.length_append, List.length_append]
      simp only [List.length_cons, List.length_nil]
      omega
/-- how many of those that were put stay -/
def keepN (S : Ship) (L : List Load) : Nat → Nat
  | 0 => 0
  | n + 1 => if safeE S (L.take (n + 1)) = 0 then n + 1 else keepN S L n
theorem keepN_safe {S : Ship} (hS : shipOk S = true) (L : List Load) : ∀ n, safeE S (L.take (keepN S L n)) = 0
  | 0 => by unfold keepN; rw [List.take_zero]; exact safeE_nil hS
  | n + 1 => by
    unfold keepN
    split
    · assumption
    · exact keepN_safe hS L n
def keepL (S : Ship) (L : List Load) : List Load := L.take (keepN S L L.length)
def goneL (S : Ship) (L : List Load) : List ByteArray := ((L.drop (keepN S L L.length)).reverse).map (·.box)
/-- what is left out, so far -/
def goneK (L : List Load) (n : Nat) : List ByteArray := ((L.drop n).reverse).map (·.box)
theorem goneK_all (L : List Load) : goneK L L.length = [] := by unfold goneK; rw [List.drop_length]; rfl
theorem goneK_succ {L : List Load} {n : Nat} {x : Load} (h : L[n]? = some x) : goneK L n = goneK L (n + 1) ++ [x.box] := by
  unfold goneK
  obtain ⟨hl, e⟩ := List.getElem?_eq_some_iff.1 h
  rw [List.drop_eq_getElem_cons hl, List.reverse_cons, List.map_append, e]
  rfl
/-- the first loads of a hold, put one by one, are a hold -/
theorem inv_take {S : Ship} {L : List Load} (hS : shipOk S = true) (hL : putAll S [] L = (0, L)) (n : Nat) : Inv2 S (L.take n) := by
  have h := putAll_app S (L.take n) (L.drop n) []
  rw [List.take_append_drop, hL] at h
  by_cases h0 : (putAll S [] (L.take n)).1 = 0
  · have h1 := (putAll_ok (L.take n) (inv00 hS)).1
    rw [putAll_zero _ h0, List.nil_append] at h1
    exact h1
  · rw [if_neg h0] at h
    rw [← h] at h0
    exact absurd rfl h0
theorem fillP_puts {S : Ship} {B R : Nat} (l : List Load) : putAll S [] (fillP S B R l).1 = (0, (fillP S B R l).1) := by
  induction l using lsnoc with
  | h0 => rfl
  | h1 l x ih =>
    rw [fillP_snoc]
    unfold stepP
    cases hb : bestP S B R (fillP S B R l).1 x with
    | none => exact ih
    | some s =>
      dsimp only
      rw [putAll_app, ih, if_pos rfl, putAll_cons, if_pos (bestP_some hb).1]
      rfl
def planL (S : Ship) (B R : Nat) (l : List Load) : List Load := keepL S (fillP S B R (isL ltO l)).1
def planO (S : Ship) (B R : Nat) (l : List Load) : List ByteArray := (fillP S B R (isL ltO l)).2 ++ goneL S (fillP S B R (isL ltO l)).1
def planE (S : Ship) (l : List Load) : Int := if mayAllB S l = false then 1 else if twiceB l = true then 5 else 0
theorem planL_inv {S : Ship} {B R : Nat} (hS : shipOk S = true) (l : List Load) : Inv2 S (planL S B R l) := inv_take hS (fillP_puts _) _
end Go.Proofs.YtodgjgkoaahhmaaGreatDoor
