import Derived.Test.YtjlblnplofgpnaaGreatDoorDN
namespace Go.Proofs.YtjlblnplofgpnaaGreatDoor
open Go.SL
/-! ### the document's plan: plain -/
theorem hgt_eq {S : Ship} {L : List Load} (hv : Inv S L) {b r : Int} {t : Nat} (ha : atS L ⟨b, r, (t : Nat)⟩ = none) (hb : t ≠ 0 → ∃ y ∈ L, y.sl = ⟨b, r, ((t : Nat) : Int) - 1⟩) : hgt L b r = (t : Nat) := by
  have hlt : ∀ y ∈ L, y.sl.b = b → y.sl.r = r → y.sl.t < (t : Nat) := by
    intro y hy e1 e2
    apply Classical.byContradiction
    intro hn
    have ho := (hv.on y hy).2.2
    obtain ⟨n, hn2⟩ := Int.eq_ofNat_of_zero_le ho.1
    obtain ⟨z, hz, he⟩ := tiers_all hv n hy hn2 t (by omega)
    rw [e1, e2] at he
    exact atS_none.1 ha z hz he
  have hall : ∀ j : Nat, j < t → ∃ y ∈ L, y.sl = ⟨b, r, (j : Nat)⟩ := by
    intro j hj
    obtain ⟨y, hy, e⟩ := hb (by omega)
    have h1 : y.sl.t = ((t - 1 : Nat) : Int) := by rw [e]; simp only; omega
    obtain ⟨z, hz, he⟩ := tiers_all hv (t - 1) hy h1 j (by omega)
    exact ⟨z, hz, by rw [he, e]⟩
  have hnd : ((L.filter (inSt b r)).map fun y => y.sl.t).Nodup := by
    have h0 : ((L.filter (inSt b r)).map (·.sl)).Nodup := hv.nS.sublist (List.Sublist.map _ List.filter_sublist)
    rw [List.nodup_iff_pairwise_ne] at h0 ⊢
    rw [List.pairwise_map] at h0 ⊢
    refine h0.imp_of_mem (fun {x y} hx hy hne e => hne ?_)
    obtain ⟨_, e1, e2⟩ := List.mem_filter.1 hx |>.imp_right inSt_iff.1
    obtain ⟨_, e3, e4⟩ := List.mem_filter.1 hy |>.imp_right inSt_iff.1
    rw [Sl_eq]
    omega
  have hn2 : ((List.range t).map fun j : Nat => (j : Int)).Nodup := by
    rw [List.nodup_iff_pairwise_ne, List.pairwise_map]
    exact (List.nodup_iff_pairwise_ne.1 List.nodup_range).imp (fun {a b} h e => h (by omega))
  have hp := perm_mem hnd hn2 (fun i => by
    constructor
    · intro h
      obtain ⟨y, hy, rfl⟩ := List.mem_map.1 h
      obtain ⟨h1, e1, e2⟩ := List.mem_filter.1 hy |>.imp_right inSt_iff.1
      have h2 := hlt y h1 e1 e2
      have h3 := (hv.on y h1).2.2.1
      obtain ⟨n, hn⟩ := Int.eq_ofNat_of_zero_le h3
      exact List.mem_map.2 ⟨n, List.mem_range.2 (by omega), hn.symm⟩
    · intro h
      obtain ⟨j, hj, rfl⟩ := List.mem_map.1 h
      obtain ⟨y, hy, e⟩ := hall j (List.mem_range.1 hj)
      exact List.mem_map.2 ⟨y, List.mem_filter.2 ⟨hy, inSt_iff.2 (by rw [e]; exact ⟨rfl, rfl⟩)⟩, by rw [e]⟩)
  have := hp.length_eq
  rw [List.length_map, List.length_map, List.length_range] at this
  unfold hgt
  omega
def leanL (S : Ship) (L : List Load) : Int := maxI (sLong S L) (-(sLong S L)) + maxI (sCross S L) (-(sCross S L))
def pcS (S : Ship) (L : List Load) (x : Load) (s : Sl) : Pc := ⟨leanL S (L ++ [atL x s]), s⟩
theorem leanL_put (S : Ship) (L : List Load) (x : Load) (s : Sl) : leanL S (L ++ [atL x s]) = leanOf S (sLong S L) (sCross S L) s.b s.r x.w := by
  unfold leanL leanOf
  rw [sLong_snoc, sCross_snoc]
  rfl
def stepB (S : Ship) (L : List Load) (x : Load) (st : Option Sl) (s : Sl) : Option Sl := if putE S L (atL x s) ≠ 0 then st else match st with
  | none => some s
  | some s0 => if ltC (pcS S L x s) (pcS S L x s0) = true then some s else st
theorem ltC_irr (p : Pc) : ltC p p = false := swoC.irrefl p
theorem foldB {S : Ship} {L : List Load} {x : Load} (l : List Sl) : (l.foldl (stepB S L x) none = none → ∀ s ∈ l, putE S L (atL x s) ≠ 0) ∧ ∀ s, l.foldl (stepB S L x) none = some s → s ∈ l ∧ putE S L (atL x s) = 0 ∧ ∀ s' ∈ l, putE S L (atL x s') = 0 → ltC (pcS S L x s') (pcS S L x s) = false := by
  induction l using lsnoc with
  | h0 => exact ⟨fun _ s hs => (by cases hs), fun s h => (by cases h)⟩
  | h1 l a ih =>
    rw [List.foldl_append]
    show (stepB S L x (l.foldl (stepB S L x) none) a = none → _) ∧ ∀ s, stepB S L x (l.foldl (stepB S L x) none) a = some s → _
    obtain ⟨i1, i2⟩ := ih
    generalize l.foldl (stepB S L x) none = st at *
    unfold stepB
    by_cases h0 : putE S L (atL x a) = 0
    · rw [if_neg (by simp [h0])]
      cases st with
      | none =>
        refine ⟨fun h => (by cases h), fun s h => ?_⟩
        obtain rfl := Option.some.inj h
        refine ⟨by simp, h0, fun s' hs' e => ?_⟩
        rcases List.mem_append.1 hs' with q | q
        · exact absurd e (i1 rfl s' q)
        · rw [List.mem_singleton.1 q]; exact ltC_irr _
      | some s0 =>
        obtain ⟨j1, j2, j3⟩ := i2 s0 rfl
        dsimp only
        refine ⟨fun h => (by split at h <;> cases h), fun s h => ?_⟩
        split at h
        · rename_i hc
          obtain rfl := Option.some.inj h
          refine ⟨by simp, h0, fun s' hs' e => ?_⟩
          rcases List.mem_append.1 hs' with q | q
          · have := j3 s' q e
            cases hq : ltC (pcS S L x s') (pcS S L x a) with
            | false => rfl
            | true =>
              have := swoC.trans _ _ _ hq hc
              rw [j3 s' q e] at this
              cases this
          · rw [List.mem_singleton.1 q]; exact ltC_irr _
        · rename_i hc
          obtain rfl := Option.some.inj h
          refine ⟨by simp [j1], j2, fun s' hs' e => ?_⟩
          rcases List.mem_append.1 hs' with q | q
          · exact j3 s' q e
          · rw [List.mem_singleton.1 q]; simpa using hc
    · rw [if_pos h0]
      refine ⟨fun h s hs => ?_, fun s h => ?_⟩
      · rcases List.mem_append.1 hs with q | q
        · exact i1 h s q
        · rw [List.mem_singleton.1 q]; exact h0
      · obtain ⟨j1, j2, j3⟩ := i2 s h
        refine ⟨by simp [j1], j2, fun s' hs' e => ?_⟩
        rcases List.mem_append.1 hs' with q | q
        · exact j3 s' q e
        · rw [List.mem_singleton.1 q] at e; exact absurd e h0
def colS (b r : Int) (n : Nat) : List Sl := (List.range n).map fun t => ⟨b, r, (t : Nat)⟩
def rowS (b : Int) (T : Nat) (n : Nat) : List Sl := (List.range n).flatMap fun r => colS b (r : Nat) T
def allS (R T : Nat) (n : Nat) : List Sl := (List.range n).flatMap fun b => rowS (b : Nat) T R
theorem colS_succ (b r : Int) (n : Nat) : colS b r (n + 1) = colS b r n ++ [⟨b, r, (n : Nat)⟩] := by unfold colS; rw [List.range_succ, List.map_append]; rfl
theorem rowS_succ (b : Int) (T n : Nat) : rowS b T (n + 1) = rowS b T n ++ colS b (n : Nat) T := by unfold rowS; rw [List.range_succ, List.flatMap_append]; simp
theorem allS_succ (R T n : Nat) : allS R T (n + 1) = allS R T n ++ rowS (n : Nat) T R := by unfold allS; rw [List.range_succ, List.flatMap_append]; simp
theorem mem_allS {R T n : Nat} {s : Sl} : s ∈ allS R T n ↔ (0 ≤ s.b ∧ s.b < n) ∧ (0 ≤ s.r ∧ s.r < R) ∧ (0 ≤ s.t ∧ s.t < T) := by
  unfold allS rowS colS
  simp only [List.mem_flatMap, List.mem_map, List.mem_range]
  constructor
  · rintro ⟨b, hb, r, hr, t, ht, rfl⟩
    simp only
    omega
  · rintro ⟨⟨h1, h2⟩, ⟨h3, h4⟩, h5, h6⟩
    obtain ⟨b, hb⟩ := Int.eq_ofNat_of_zero_le h1
    obtain ⟨r, hr⟩ := Int.eq_ofNat_of_zero_le h3
    obtain ⟨t, ht⟩ := Int.eq_ofNat_of_zero_le h5
    refine ⟨b, by omega, r, by omega, t, by omega, ?_⟩
    rw [Sl_eq]
    exact ⟨hb.symm, hr.symm, ht.symm⟩
theorem pcAt_of {S : Ship} {a b : Int} {T : List (Sl × Int)} {w k j : Int} (h : tierOf T k j < S.tiers) : pcAt S a b T w k j = [⟨leanOf S a b k j w, ⟨k, j, tierOf T k j⟩⟩] := by unfold pcAt; rw [if_pos h]
/-- where it can be put, there it is tried -/
theorem tries_of {S : Ship} {B R : Nat} {L : List Load} {x : Load} {s : Sl} (hv : Inv S L) (hB : S.bays = B) (hR : S.rows = R) (h : putE S L (atL x s) = 0) : (⟨leanL S (L ++ [atL x s]), s⟩ : Pc) ∈ pcAll S (sLong S L) (sCross S L) (tiersOf L) x.w B R := by
  obtain ⟨h1, h2, h3, h4, h5, _⟩ := putE_ok h
  have ho := onB_t.1 h3
  have e : (atL x s).sl = s := rfl
  rw [e] at ho h4
  obtain ⟨b, hb⟩ := Int.eq_ofNat_of_zero_le ho.1.1
  obtain ⟨r, hr⟩ := Int.eq_ofNat_of_zero_le ho.2.1.1
  obtain ⟨t, ht⟩ := Int.eq_ofNat_of_zero_le ho.2.2.1
  have hs : s = ⟨(b : Nat), (r : Nat), (t : Nat)⟩ := by rw [Sl_eq]; exact ⟨hb, hr, ht⟩
  have hh : tierOf (tiersOf L) (b : Nat) (r : Nat) = (t : Nat) := by
    rw [tierOf_eq]
    refine hgt_eq hv (by rw [← hs]; exact h4) (fun h0 => ?_)
    unfold unb at h5
    rw [e, if_neg (by omega)] at h5
    cases hq : atS L ⟨s.b, s.r, s.t - 1⟩ with
    | none => rw [hq] at h5; cases h5
    | some z =>
      obtain ⟨e1, e2⟩ := (atS_some hv.nS).1 hq
      exact ⟨z, e1, by rw [e2, hb, hr, ht]⟩
  unfold pcAll pcRow
  refine List.mem_flatMap.2 ⟨b, List.mem_range.2 (by omega), List.mem_flatMap.2 ⟨r, List.mem_range.2 (by omega), ?_⟩⟩
  rw [pcAt_of (by rw [hh]; omega), leanL_put, hh, hs]
  exact List.mem_singleton.2 rfl
theorem mem_pcAll {S : Ship} {L : List Load} {x : Load} {B R : Nat} {p : Pc} (h : p ∈ pcAll S (sLong S L) (sCross S L) (tiersOf L) x.w B R) : p = pcS S L x p.sl := by
  unfold pcAll pcRow at h
  obtain ⟨k, _, h⟩ := List.mem_flatMap.1 h
  obtain ⟨j, _, h⟩ := List.mem_flatMap.1 h
  unfold pcAt at h
  split at h
  · rw [List.mem_singleton] at h
    subst h
    unfold pcS
    rw [leanL_put]
  · cases h
theorem best_eq {S : Ship} {B R T : Nat} {L : List Load} {x : Load} (hv : Inv S L) (hB : S.bays = B) (hR : S.rows = R) (hT : S.tiers = T) : (allS R T B).foldl (stepB S L x) none = bestP S B R L x := by
  obtain ⟨f1, f2⟩ := foldB (S := S) (L := L) (x := x) (allS R T B)
  have on_all : ∀ s, putE S L (atL x s) = 0 → s ∈ allS R T B := fun s h => by
    have h3 := onB_t.1 (putE_ok h).2.2.1
    rw [mem_allS]
    have e : (atL x s).sl = s := rfl
    rw [e] at h3
    omega
  have in_tries : ∀ s, putE S L (atL x s) = 0 → s ∈ triesL S L x.w B R := fun s h => by
    unfold triesL triesP
    exact List.mem_map.2 ⟨_, (isL_perm _).mem_iff.2 (tries_of hv hB hR h), rfl⟩
  cases hb : bestP S B R L x with
  | none =>
    have hn := bestP_none hb
    cases hf : (allS R T B).foldl (stepB S L x) none with
    | none => rfl
    | some s =>
      obtain ⟨_, g2, _⟩ := f2 s hf
      exact absurd g2 (hn s (in_tries s g2))
  | some s =>
    obtain ⟨g1, k, g2, g3⟩ := bestP_some hb
    cases hf : (allS R T B).foldl (stepB S L x) none with
    | none => exact absurd g1 (f1 hf s (on_all s g1))
    | some s1 =>
      obtain ⟨_, k2, k3⟩ := f2 s1 hf
      have q1 := k3 s (on_all s g1) g1
      have q2 : ltC (pcS S L x s1) (pcS S L x s) = false := by
        obtain ⟨k1, hk1⟩ := List.getElem?_of_mem (in_tries s1 k2)
        by_cases hlt : k1 < k
        · exact absurd k2 (g3 s1 (List.mem_of_getElem? (by rw [List.getElem?_take, if_pos hlt]; exact hk1)))
        · by_cases he : k1 = k
          · subst he
            rw [hk1] at g2
            rw [Option.some.inj g2]
            exact ltC_irr _
          · have hso := isL_sorted swoC (pcAll S (sLong S L) (sCross S L) (tiersOf L) x.w B R)
            unfold triesL triesP at hk1 g2
            rw [List.getElem?_map, Option.map_eq_some_iff] at hk1 g2
            obtain ⟨p1, hp1, e1⟩ := hk1
            obtain ⟨p2, hp2, e2⟩ := g2
            have m1 := mem_pcAll ((isL_perm _).mem_iff.1 (List.mem_of_getElem? hp1))
            have m2 := mem_pcAll ((isL_perm _).mem_iff.1 (List.mem_of_getElem? hp2))
            rw [e1] at m1
            rw [e2] at m2
            rw [List.pairwise_iff_getElem] at hso
            obtain ⟨l1, r1⟩ := List.getElem?_eq_some_iff.1 hp1
            obtain ⟨l2, r2⟩ := List.getElem?_eq_some_iff.1 hp2
            have := hso k k1 l2 l1 (by omega)
            rw [r1, r2, m1, m2] at this
            exact this
      have := ltC_tri q1 q2
      unfold pcS at this
      rw [Pc.mk.injEq] at this
      rw [this.2]
/-! #### texts that rise -/
def insT (s : ByteArray) : List ByteArray → List ByteArray
  | [] => [s]
  | y :: l => if lts y s = true then y :: insT s l else s :: y :: l
theorem insT_perm (s : ByteArray) : ∀ l : List ByteArray, (insT s l).Perm (s :: l)
  | [] => List.Perm.refl _
  | y :: l => by
    unfold insT
    split
    · exact ((insT_perm s l).cons y).trans (List.Perm.swap _ _ _)
    · exact List.Perm.refl _
theorem insT_sorted {s : ByteArray} : ∀ {l : List ByteArray}, (l.Pairwise fun x y => lts y x = false) → (insT s l).Pairwise fun x y => lts y x = false
  | [], _ => List.pairwise_singleton _ _
  | y :: l, h => by
    rw [List.pairwise_cons] at h
    unfold insT
    split
    · rename_i e
      rw [List.pairwise_cons]
      refine ⟨fun z hz => ?_, insT_sorted h.2⟩
      rcases List.mem_cons.1 ((insT_perm s l).mem_iff.1 hz) with e' | e'
      · rw [e']
        cases hq : lts s y with
        | false => rfl
        | true => have := lts_trans e hq; rw [lts_irrefl] at this; cases this
      · exact h.1 z e'
    · rename_i e
      have e : lts y s = false := by simpa using e
      rw [List.pairwise_cons, List.pairwise_cons]
      refine ⟨fun z hz => ?_, h⟩
      rcases List.mem_cons.1 hz with e' | e'
      · rw [e']; exact e
      · exact lts_ntrans (h.1 z e') e
theorem sortedT_eq : ∀ {l m : List ByteArray}, l.Perm m → (l.Pairwise fun x y => lts y x = false) → (m.Pairwise fun x y => lts y x = false) → l = m
  | [], m, h, _, _ => (List.nil_perm.1 h).symm
  | a :: l, [], h, _, _ => by simpa using h.length_eq
  | a :: l, b :: m, h, h1, h2 => by
    rw [List.pairwise_cons] at h1 h2
    have hab : a = b := by
      have ma : a ∈ b :: m := h.mem_iff.1 List.mem_cons_self
      have mb : b ∈ a :: l := h.mem_iff.2 List.mem_cons_self
      rcases List.mem_cons.1 ma with e | e
      · exact e
      rcases List.mem_cons.1 mb with e' | e'
      · exact e'.symm
      exact lts_tri (h2.1 a e) (h1.1 b e')
    subst hab
    rw [sortedT_eq h.cons_inv h1.2 h2.2]
def sortT (l : List ByteArray) : List ByteArray := l.foldl (fun acc s => insT s acc) []
theorem sortT_snoc (l : List ByteArray) (s : ByteArray) : sortT (l ++ [s]) = insT s (sortT l) := by unfold sortT; rw [List.foldl_append]; rfl
theorem sortT_spec (l : List ByteArray) : (sortT l).Perm l ∧ (sortT l).Pairwise fun x y => lts y x = false := by
  induction l using lsnoc with
  | h0 => exact ⟨List.Perm.refl _, List.Pairwise.nil⟩
  | h1 l s ih =>
    rw [sortT_snoc]
    exact ⟨(insT_perm s _).trans ((ih.1.cons s).trans (List.perm_append_comm (l₁ := [s]) (l₂ := l))), insT_sorted ih.2⟩
theorem sortT_eq (l : List ByteArray) : sortT l = sortS l := sortedT_eq ((sortT_spec l).1.trans (sortS_perm l).symm) (sortT_spec l).2 (sortS_sorted l)
end Go.Proofs.YtjlblnplofgpnaaGreatDoor
namespace Go.Proofs.YtjlblnplofgpnaaGreatDoor
open Go.SL
/-! ### what stays behind a port: plain -/
def keepB (port : Int) (x : Load) : Bool := decide (port < x.p)
def lowB (port : Int) (x y : Load) : Bool := inSt x.sl.b x.sl.r y && (decide (y.sl.t < x.sl.t) && keepB port y)
/-- how many of those that stay stand below -/
def newT (L : List Load) (port : Int) (x : Load) : Int := ((L.filter (lowB port x)).length : Nat)
def sink (L : List Load) (port : Int) (x : Load) : Load := atL x ⟨x.sl.b, x.sl.r, newT L port x⟩
def leftL (L : List Load) (port : Int) : List Load := ((lsort L).filter (keepB port)).map (sink L port)
theorem mem_left {S : Ship} {L : List Load} (hv : Inv S L) {port : Int} {y : Load} : y ∈ leftL L port ↔ ∃ x ∈ L, port < x.p ∧ y = sink L port x := by
  unfold leftL
  rw [List.mem_map]
  constructor
  · rintro ⟨x, hx, rfl⟩
    obtain ⟨h1, h2⟩ := List.mem_filter.1 hx
    exact ⟨x, (lsort_perm hv.nS).mem_iff.1 h1, by simpa [keepB] using h2, rfl⟩
  · rintro ⟨x, hx, hp, rfl⟩
    exact ⟨x, List.mem_filter.2 ⟨(lsort_perm hv.nS).mem_iff.2 hx, by simpa [keepB] using hp⟩, rfl⟩
end Go.Proofs.YtjlblnplofgpnaaGreatDoor
namespace Go.Proofs.YtjlblnplofgpnaaGreatDoor
open Go.SL
/-! ### what is planned comes off without a lift: plain -/
/-- each load is planned, or left out -/
theorem fill_all {S : Ship} {B R : Nat} (l : List Load) : ((fillP S B R l).1.map (·.box) ++ (fillP S B R l).2).Perm (l.map (·.box)) := by
  induction l using lsnoc with
  | h0 => exact List.Perm.refl _
  | h1 l x ih =>
    rw [fillP_snoc]
    unfold stepP
    cases hb : bestP S B R (fillP S B R l).1 x with
    | none =>
      dsimp only
      rw [← List.append_assoc, List.map_append]
      exact ih.append_right _
    | some s =>
      dsimp only
      rw [List.map_append, List.map_append, List.append_assoc]
      refine (List.perm_append_comm.append_left _).trans ?_
      rw [← List.append_assoc]
      exact ih.append_right _
theorem plan_all {S : Ship} {B R : Nat} (l : List Load) : ((planL S B R l).map (·.box) ++ planO S B R l).Perm (l.map (·.box)) := by
  have h := (fill_all (S := S) (B := B) (R := R) (isL ltO l)).trans ((isL_perm l).map _)
  refine List.Perm.trans ?_ h
  unfold planL planO keepL goneL
  generalize (fillP S B R (isL ltO l)).1 = L
  generalize (fillP S B R (isL ltO l)).2 = out
  generalize keepN S L L.length = n
  have e : L.map (·.box) = (L.take n).map (·.box) ++ (L.drop n).map (·.box) := by rw [← List.map_append, List.take_append_drop]
  rw [e, List.append_assoc]
  refine List.Perm.append_left _ (List.perm_append_comm.trans ?_)
  exact List.Perm.append_right _ ((List.reverse_perm _).map _)
/-! #### a plan hangs on no order, no slots -/
end Go.Proofs.YtjlblnplofgpnaaGreatDoor
namespace Go.Proofs.YtjlblnplofgpnaaGreatDoor
open Go.SL
/-! ### a ship that is turned round: plain -/
section
variable {S : Ship} {e s : Bool}
end
end Go.Proofs.YtjlblnplofgpnaaGreatDoor
namespace Go.Proofs.YtjlblnplofgpnaaGreatDoor
open Go.SL
/-! ### the checker's order: plain -/
end Go.Proofs.YtjlblnplofgpnaaGreatDoor
