import Derived.Test.YtldfncafkdmoiaaGreatFB
import Derived.Test.YtldfncafkdmoiaaGreatV0
namespace Go.Proofs.YtldfncafkdmoiaaGreat
open Go.SL
/-! ### awards: plain -/
def onT (t : ByteArray) (c : Cl) : Bool := decide (c.th = t)
def ofT (l : List Cl) (t : ByteArray) : List Cl := l.filter (onT t)
def stepM (T : List (ByteArray × Cl)) (c : Cl) : List (ByteArray × Cl) := match aget c.th T with
  | none => aput c.th c T
  | some o => if ltJ c o = true then aput c.th c T else T
def bestM (l : List Cl) : List (ByteArray × Cl) := l.foldl stepM []
theorem bestM_snoc (l : List Cl) (c : Cl) : bestM (l ++ [c]) = stepM (bestM l) c := by unfold bestM; rw [List.foldl_append]; rfl
theorem ofT_snoc (l : List Cl) (c : Cl) (t : ByteArray) : ofT (l ++ [c]) t = if c.th = t then ofT l t ++ [c] else ofT l t := by
  unfold ofT
  rw [List.filter_append]
  by_cases h : c.th = t
  · rw [if_pos h]; simp [onT, h]
  · rw [if_neg h]; simp [onT, h]
theorem bestM_spec (l : List Cl) : (akeys (bestM l)).Nodup ∧ ∀ t, aget t (bestM l) = bestC (ofT l t) := by
  induction l using list_snocC with
  | h0 => exact ⟨List.nodup_nil, fun t => rfl⟩
  | h1 l c ih =>
    rw [bestM_snoc]
    unfold stepM
    have hc := ih.2 c.th
    cases hq : aget c.th (bestM l) with
    | none =>
      dsimp only
      refine ⟨nodup_put ih.1, fun t => ?_⟩
      rw [aget_put, ofT_snoc]
      by_cases h : c.th = t
      · rw [if_pos h, if_pos h, bestC_snoc, ← h, ← hc, hq]; rfl
      · rw [if_neg h, if_neg h]; exact ih.2 t
    | some o =>
      dsimp only
      by_cases hb : ltJ c o = true
      · rw [if_pos hb]
        refine ⟨nodup_put ih.1, fun t => ?_⟩
        rw [aget_put, ofT_snoc]
        by_cases h : c.th = t
        · rw [if_pos h, if_pos h, bestC_snoc, ← h, ← hc, hq]
          show _ = if ltJ c o = true then some c else some o
          rw [if_pos hb]
        · rw [if_neg h, if_neg h]; exact ih.2 t
      · rw [if_neg hb]
        refine ⟨ih.1, fun t => ?_⟩
        rw [ofT_snoc]
        by_cases h : c.th = t
        · rw [if_pos h, bestC_snoc, ← h, ← hc, hq]
          show some o = if ltJ c o = true then some c else some o
          rw [if_neg hb]
        · rw [if_neg h]; exact ih.2 t
theorem mem_ofT {l : List Cl} {t : ByteArray} {c : Cl} : c ∈ ofT l t ↔ c ∈ l ∧ c.th = t := by
  unfold ofT
  rw [List.mem_filter]
  simp [onT]
theorem bestM_key {l : List Cl} {t : ByteArray} : t ∈ akeys (bestM l) ↔ ∃ c ∈ l, c.th = t := by
  have h := (bestM_spec l).2 t
  constructor
  · intro hk
    cases hq : aget t (bestM l) with
    | none => exact absurd hk (aget_none.1 hq)
    | some c =>
      rw [hq] at h
      obtain ⟨h1, _⟩ := ((bestC_spec _).2 c).1 h.symm
      exact ⟨c, (mem_ofT.1 h1).1, (mem_ofT.1 h1).2⟩
  · rintro ⟨c, h1, h2⟩
    apply Classical.byContradiction
    intro hk
    rw [aget_none.2 hk] at h
    have := (bestC_spec _).1.1 h.symm
    have hm : c ∈ ofT l t := mem_ofT.2 ⟨h1, h2⟩
    rw [this] at hm
    cases hm
abbrev Aw := ByteArray × ByteArray
def awE (x : Aw) : List D := [.sc (.string x.1), .sc (.string x.2)]
def zC : Cl := ⟨ByteArray.empty, ByteArray.empty, 0, 0, 0⟩
def thingsL (l : List Cl) : List ByteArray := sortS (akeys (bestM l))
def awOf (l : List Cl) (t : ByteArray) : Aw := (t, ((aget t (bestM l)).getD zC).nm)
def awardL (l : List Cl) : List Aw := (thingsL l).map (awOf l)
theorem things_strict (l : List Cl) : (thingsL l).Pairwise fun x y => lts x y = true := by
  have h1 := sortS_sorted (akeys (bestM l))
  have h2 : (thingsL l).Nodup := (sortS_perm _).nodup_iff.2 (bestM_spec l).1
  rw [List.nodup_iff_pairwise_ne] at h2
  refine (h1.and h2).imp (fun {a b} h => ?_)
  cases hq : lts a b with
  | true => rfl
  | false => exact absurd (lts_tri hq h.1) h.2
theorem mem_things {l : List Cl} {t : ByteArray} : t ∈ thingsL l ↔ ∃ c ∈ l, c.th = t := by
  unfold thingsL
  rw [(sortS_perm _).mem_iff, bestM_key]
theorem award_get {l : List Cl} {a : Aw} : a ∈ awardL l ↔ ∃ b, bestC (ofT l a.1) = some b ∧ b.nm = a.2 := by
  unfold awardL
  rw [List.mem_map]
  constructor
  · rintro ⟨t, ht, rfl⟩
    obtain ⟨c, h1, h2⟩ := mem_things.1 ht
    have hk : t ∈ akeys (bestM l) := bestM_key.2 ⟨c, h1, h2⟩
    cases hq : aget t (bestM l) with
    | none => exact absurd hk (aget_none.1 hq)
    | some b =>
      refine ⟨b, by rw [← hq]; exact ((bestM_spec l).2 t).symm, ?_⟩
      unfold awOf
      rw [hq]
      rfl
  · rintro ⟨b, h1, h2⟩
    have hq := (bestM_spec l).2 a.1
    rw [h1] at hq
    obtain ⟨k1, _⟩ := ((bestC_spec _).2 b).1 h1
    refine ⟨a.1, mem_things.2 ⟨b, (mem_ofT.1 k1).1, (mem_ofT.1 k1).2⟩, ?_⟩
    unfold awOf
    rw [hq]
    show (a.1, b.nm) = a
    rw [h2]
def strictA (l : List Aw) : Prop := l.Pairwise fun x y => lts x.1 y.1 = true
theorem award_strict (l : List Cl) : strictA (awardL l) := by
  unfold strictA awardL
  rw [List.pairwise_map]
  exact things_strict l
/-- rows that rise strictly and have the same members are the same -/
theorem strict_eq : ∀ {l m : List Aw}, strictA l → strictA m → (∀ x, x ∈ l ↔ x ∈ m) → l = m
  | [], [], _, _, _ => rfl
  | [], b :: m, _, _, h => absurd ((h b).2 List.mem_cons_self) (by simp)
  | a :: l, [], _, _, h => absurd ((h a).1 List.mem_cons_self) (by simp)
  | a :: l, b :: m, h1, h2, h => by
    unfold strictA at h1 h2
    rw [List.pairwise_cons] at h1 h2
    have irr : ∀ x : Aw, ¬ lts x.1 x.1 = true := fun x hx => by rw [lts_irrefl] at hx; cases hx
    have hab : a = b := by
      rcases List.mem_cons.1 ((h a).1 List.mem_cons_self) with e | e
      · exact e
      rcases List.mem_cons.1 ((h b).2 List.mem_cons_self) with e' | e'
      · exact e'.symm
      have := lts_trans (h1.1 b e') (h2.1 a e)
      exact absurd this (irr a)
    subst hab
    have : ∀ x, x ∈ l ↔ x ∈ m := fun x => by
      constructor
      · intro hx
        rcases List.mem_cons.1 ((h x).1 (List.mem_cons_of_mem _ hx)) with e | e
        · have := h1.1 x hx
          rw [e] at this
          exact absurd this (irr a)
        · exact e
      · intro hx
        rcases List.mem_cons.1 ((h x).2 (List.mem_cons_of_mem _ hx)) with e | e
        · have := h2.1 x hx
          rw [e] at this
          exact absurd this (irr a)
        · exact e
    rw [strict_eq h1.2 h2.2 this]
/-! #### the document's award -/
def insA (t n : ByteArray) : List Aw → List Aw
  | [] => [(t, n)]
  | (u, m) :: r => if lts u t = true then (u, m) :: insA t n r else if u = t then (u, m) :: r else (t, n) :: (u, m) :: r
def docA (r : List Cl) : List Aw := r.foldl (fun out c => insA c.th c.nm out) []
theorem docA_snoc (r : List Cl) (c : Cl) : docA (r ++ [c]) = insA c.th c.nm (docA r) := by unfold docA; rw [List.foldl_append]; rfl
theorem insA_spec {t n : ByteArray} : ∀ {l : List Aw}, strictA l → strictA (insA t n l) ∧ ∀ x, x ∈ insA t n l ↔ x ∈ l ∨ (x = (t, n) ∧ ∀ y ∈ l, y.1 ≠ t)
  | [], _ => ⟨List.pairwise_singleton _ _, fun x => by simp [insA]⟩
  | (u, m) :: r, h => by
    unfold strictA at h
    rw [List.pairwise_cons] at h
    obtain ⟨i1, i2⟩ := insA_spec (t := t) (n := n) h.2
    unfold insA
    split
    · rename_i hu
      have hne : u ≠ t := fun e => by rw [e, lts_irrefl] at hu; cases hu
      refine ⟨?_, fun x => ?_⟩
      · unfold strictA
        rw [List.pairwise_cons]
        refine ⟨fun y hy => ?_, i1⟩
        rcases (i2 y).1 hy with q | ⟨rfl, _⟩
        · exact h.1 y q
        · exact hu
      · rw [List.mem_cons, i2, List.mem_cons]
        constructor
        · rintro (e | e | ⟨e1, e2⟩)
          · exact .inl (.inl e)
          · exact .inl (.inr e)
          · refine .inr ⟨e1, fun y hy => ?_⟩
            rcases List.mem_cons.1 hy with q | q
            · rw [q]; exact hne
            · exact e2 y q
        · rintro ((e | e) | ⟨e1, e2⟩)
          · exact .inl e
          · exact .inr (.inl e)
          · exact .inr (.inr ⟨e1, fun y hy => e2 y (List.mem_cons_of_mem _ hy)⟩)
    · rename_i hu
      have hu : lts u t = false := by simpa using hu
      split
      · rename_i he
        refine ⟨by unfold strictA; rw [List.pairwise_cons]; exact h, fun x => ?_⟩
        constructor
        · exact fun hx => .inl hx
        · rintro (hx | ⟨_, e2⟩)
          · exact hx
          · exact absurd he (e2 (u, m) List.mem_cons_self)
      · rename_i he
        have htu : lts t u = true := by
          cases hq : lts t u with
          | true => rfl
          | false => exact absurd (lts_tri hu hq) he
        refine ⟨?_, fun x => ?_⟩
        · unfold strictA
          rw [List.pairwise_cons, List.pairwise_cons]
          refine ⟨fun y hy => ?_, h⟩
          rcases List.mem_cons.1 hy with q | q
          · rw [q]; exact htu
          · exact lts_trans htu (h.1 y q)
        · rw [List.mem_cons]
          constructor
          · rintro (e | e)
            · refine .inr ⟨e, fun y hy q => ?_⟩
              rcases List.mem_cons.1 hy with q2 | q2
              · rw [q2] at q; exact he q
              · have := h.1 y q2
                rw [q] at this
                rw [this] at hu
                cases hu
            · exact .inl e
          · rintro (e | ⟨e, _⟩)
            · exact .inr e
            · exact .inl e
theorem docA_spec (r : List Cl) (hs : r.Pairwise fun a b => ltJ b a = false) : strictA (docA r) ∧ ∀ x, x ∈ docA r ↔ ∃ b, bestC (ofT r x.1) = some b ∧ b.nm = x.2 := by
  induction r using list_snocC with
  | h0 => exact ⟨List.Pairwise.nil, fun x => by simp [docA, ofT, bestC]⟩
  | h1 r c ih =>
    rw [List.pairwise_append] at hs
    obtain ⟨i1, i2⟩ := ih hs.1
    rw [docA_snoc]
    obtain ⟨k1, k2⟩ := insA_spec (t := c.th) (n := c.nm) i1
    refine ⟨k1, fun x => ?_⟩
    rw [k2, i2, ofT_snoc]
    by_cases hx : c.th = x.1
    · rw [if_pos hx, bestC_snoc]
      cases hb : bestC (ofT r x.1) with
      | none =>
        have he := (bestC_spec _).1.1 hb
        show (∃ b, none = some b ∧ _) ∨ _ ↔ ∃ b, some c = some b ∧ b.nm = x.2
        constructor
        · rintro (⟨b, h, _⟩ | ⟨h, _⟩)
          · cases h
          · exact ⟨c, rfl, by rw [h]⟩
        · rintro ⟨b, h, h2⟩
          obtain rfl := Option.some.inj h
          refine .inr ⟨by rw [h2, hx], fun y hy q => ?_⟩
          obtain ⟨b2, g1, _⟩ := (i2 y).1 hy
          rw [q, hx, hb] at g1
          cases g1
      | some b0 =>
        obtain ⟨m1, _⟩ := ((bestC_spec _).2 b0).1 hb
        have hlt : ltJ c b0 = false := hs.2.2 b0 (mem_ofT.1 m1).1 c (by simp)
        show (∃ b, some b0 = some b ∧ b.nm = x.2) ∨ _ ↔ ∃ b, (if ltJ c b0 = true then some c else some b0) = some b ∧ b.nm = x.2
        rw [hlt, if_neg (by decide)]
        constructor
        · rintro (h | ⟨_, h⟩)
          · exact h
          · exfalso
            have : (x.1, b0.nm) ∈ docA r := (i2 (x.1, b0.nm)).2 ⟨b0, hb, rfl⟩
            exact h _ this hx.symm
        · exact fun h => .inl h
    · rw [if_neg hx]
      constructor
      · rintro (h | ⟨h, _⟩)
        · exact h
        · exact absurd (by rw [h]) hx
      · exact fun h => .inl h
theorem docA_eq {l r : List Cl} (hp : r.Perm l) (hs : r.Pairwise fun a b => ltJ b a = false) : docA r = awardL l := by
  obtain ⟨h1, h2⟩ := docA_spec r hs
  refine strict_eq h1 (award_strict l) (fun x => ?_)
  rw [h2, award_get, bestC_set (l := ofT r x.1) (m := ofT l x.1) (fun c => by rw [mem_ofT, mem_ofT, hp.mem_iff])]
end Go.Proofs.YtldfncafkdmoiaaGreat
