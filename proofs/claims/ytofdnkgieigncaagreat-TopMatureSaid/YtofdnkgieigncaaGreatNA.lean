import Derived.Test.YtofdnkgieigncaaGreatV0
import Derived.Test.YtofdnkgieigncaaGreatTk
namespace Go.Proofs.YtofdnkgieigncaaGreat
open Go.SL
/-! ### debts netted in pairs: plain -/
/-- a key: currency, from, to -/
abbrev DK := ByteArray × ByteArray × ByteArray
def bk (k : DK) : DK := (k.1, k.2.2, k.2.1)
theorem bk_bk (k : DK) : bk (bk k) = k := rfl
/-- a debt: its key, the amount -/
abbrev Db := DK × Int
theorem list_snocN {α : Type} {C : List α → Prop} (l : List α) (h0 : C []) (h1 : ∀ l x, C l → C (l ++ [x])) : C l := by
  have : ∀ m : List α, C m.reverse := by
    intro m
    induction m with
    | nil => exact h0
    | cons x m ih => rw [List.reverse_cons]; exact h1 _ _ ih
  have := this l.reverse
  rwa [List.reverse_reverse] at this
def ow (l : List Db) (k : DK) : Int := l.foldl (fun a d => if d.1 = k then a + d.2 else a) 0
theorem ow_snoc (l : List Db) (d : Db) (k : DK) : ow (l ++ [d]) k = if d.1 = k then ow l k + d.2 else ow l k := by unfold ow; rw [List.foldl_append]; rfl
def owM (l : List Db) : List (DK × Int) := l.foldl (fun M d => aput d.1 ((aget d.1 M).getD 0 + d.2) M) []
theorem owM_snoc (l : List Db) (d : Db) : owM (l ++ [d]) = aput d.1 ((aget d.1 (owM l)).getD 0 + d.2) (owM l) := by unfold owM; rw [List.foldl_append]; rfl
def owA (n : Int) : Option Int := if 0 < n then some n else none
theorem owA_none {n : Int} (h : n = 0) : owA n = none := by unfold owA; rw [if_neg (by omega)]
theorem owA_pos {n : Int} (h : 0 < n) : owA n = some n := if_pos h
theorem owA_getD {n : Int} (h : 0 ≤ n) : (owA n).getD 0 = n := by
  unfold owA
  split
  · rfl
  · show (0 : Int) = n; omega
theorem owM_spec (l : List Db) : (∀ d ∈ l, 1 ≤ d.2) → (akeys (owM l)).Nodup ∧ (∀ k, aget k (owM l) = owA (ow l k)) ∧ ∀ k, 0 ≤ ow l k := by
  refine list_snocN (C := fun l => (∀ d ∈ l, 1 ≤ d.2) → (akeys (owM l)).Nodup ∧ (∀ k, aget k (owM l) = owA (ow l k)) ∧ ∀ k, 0 ≤ ow l k) l (fun _ => ⟨List.nodup_nil, fun k => rfl, fun k => Int.le_refl 0⟩) (fun l d ih h => ?_)
  obtain ⟨i1, i2, i3⟩ := ih (fun x hx => h x (List.mem_append_left _ hx))
  have hd := h d (by simp)
  rw [owM_snoc]
  have h0 := i3 d.1
  refine ⟨nodup_put i1, fun k => ?_, fun k => ?_⟩
  · rw [aget_put, ow_snoc]
    by_cases e : d.1 = k
    · subst e
      rw [if_pos rfl, if_pos rfl, i2, owA_getD h0, owA_pos (by omega)]
    · rw [if_neg e, if_neg e]
      exact i2 k
  · rw [ow_snoc]
    have := i3 k
    split <;> omega
def netI (l : List Db) (k : DK) : Int := ow l k - ow l (bk k)
theorem netI_bk (l : List Db) (k : DK) : netI l (bk k) = - netI l k := by unfold netI; rw [bk_bk]; omega
/-- the map while it is netted: V has been visited -/
structure NetSt (l : List Db) (V : List DK) (m : List (DK × Int)) : Prop where
  nd : (akeys m).Nodup
  at' : ∀ k, (k ∈ V ∨ bk k ∈ V → aget k m = owA (netI l k)) ∧ (k ∉ V → bk k ∉ V → aget k m = owA (ow l k))
theorem NetSt.zero {l : List Db} (h : ∀ d ∈ l, 1 ≤ d.2) : NetSt l [] (owM l) := by
  obtain ⟨h1, h2, _⟩ := owM_spec l h
  exact ⟨h1, fun k => ⟨fun q => (by rcases q with q | q <;> cases q), fun _ _ => h2 k⟩⟩
/-- nothing is owed both ways: the entry stays -/
theorem NetSt.skip {l : List Db} (hl : ∀ d ∈ l, 1 ≤ d.2) {V : List DK} {m : List (DK × Int)} (h : NetSt l V m) {k : DK} (hk : k ∈ akeys m) (hb : aget (bk k) m = none) : NetSt l (k :: V) m := by
  obtain ⟨_, _, h0⟩ := owM_spec l hl
  refine ⟨h.nd, fun j => ⟨fun q => ?_, fun q1 q2 => (h.at' j).2 (fun q => q1 (List.mem_cons_of_mem _ q)) (fun q => q2 (List.mem_cons_of_mem _ q))⟩⟩
  by_cases hj : j ∈ V ∨ bk j ∈ V
  · exact (h.at' j).1 hj
  · have hj1 : j ∉ V := fun q => hj (.inl q)
    have hj2 : bk j ∉ V := fun q => hj (.inr q)
    have e := (h.at' j).2 hj1 hj2
    have e' := (h.at' (bk j)).2 hj2 (by rw [bk_bk]; exact hj1)
    have a1 := h0 j
    have a2 := h0 (bk j)
    have hkk : j = k ∨ bk j = k := by
      rcases q with q | q
      · rcases List.mem_cons.1 q with q | q
        · exact .inl q
        · exact absurd q hj1
      · rcases List.mem_cons.1 q with q | q
        · exact .inr q
        · exact absurd q hj2
    rcases hkk with rfl | rfl
    · rw [hb] at e'
      have : ow l (bk j) = 0 := by
        unfold owA at e'
        split at e'
        · cases e'
        · omega
      rw [e]
      unfold netI
      rw [this, Int.sub_zero]
    · rw [bk_bk] at hb
      rw [hb]
      rw [hb] at e
      have z : ow l j = 0 := by
        unfold owA at e
        split at e
        · cases e
        · omega
      have : netI l j ≤ 0 := by unfold netI; rw [z]; omega
      unfold owA
      rw [if_neg (by omega)]
/-- all have been visited -/
theorem NetSt.done {l : List Db} (hl : ∀ d ∈ l, 1 ≤ d.2) {V : List DK} {m : List (DK × Int)} (h : NetSt l V m) (hV : ∀ k ∈ akeys m, k ∈ V) (k : DK) : aget k m = owA (netI l k) := by
  obtain ⟨_, _, h0⟩ := owM_spec l hl
  by_cases hk : k ∈ V ∨ bk k ∈ V
  · exact (h.at' k).1 hk
  · have h1 : k ∉ V := fun q => hk (.inl q)
    have h2 : bk k ∉ V := fun q => hk (.inr q)
    have e1 := (h.at' k).2 h1 h2
    have e2 := (h.at' (bk k)).2 h2 (by rw [bk_bk]; exact h1)
    have n1 : aget k m = none := aget_none.2 (fun q => h1 (hV k q))
    have n2 : aget (bk k) m = none := aget_none.2 (fun q => h2 (hV _ q))
    rw [n1] at e1
    rw [n2] at e2
    have z : ∀ n : Int, 0 ≤ n → none = owA n → n = 0 := fun n hn hq => by
      unfold owA at hq
      split at hq
      · cases hq
      · omega
    have z1 := z _ (h0 k) e1
    have z2 := z _ (h0 (bk k)) e2
    rw [n1]
    exact (owA_none (by unfold netI; omega)).symm
/-- an entry less 'both': put anew, or deleted -/
def lessA (k : DK) (both : Int) (m : List (DK × Int)) : List (DK × Int) := if (aget k m).getD 0 - both = 0 then adel k (aput k ((aget k m).getD 0 - both) m) else aput k ((aget k m).getD 0 - both) m
theorem lessA_spec (k : DK) (both : Int) {m : List (DK × Int)} (h : (akeys m).Nodup) : (akeys (lessA k both m)).Nodup ∧ ∀ j, aget j (lessA k both m) = if k = j then (if (aget k m).getD 0 - both = 0 then none else some ((aget k m).getD 0 - both)) else aget j m := by
  have hn := nodup_put (k := k) (c := (aget k m).getD 0 - both) h
  unfold lessA
  by_cases hz : (aget k m).getD 0 - both = 0
  · rw [if_pos hz]
    refine ⟨nodup_del hn, fun j => ?_⟩
    rw [aget_del _ _ _ hn, aget_put]
    by_cases e : k = j
    · rw [if_pos e, if_pos e, if_pos hz]
    · rw [if_neg e, if_neg e, if_neg e]
  · rw [if_neg hz]
    refine ⟨hn, fun j => ?_⟩
    rw [aget_put]
    by_cases e : k = j
    · rw [if_pos e, if_pos e, if_neg hz]
    · rw [if_neg e, if_neg e]
/-- owed both ways: both are less by the lesser -/
theorem NetSt.both {l : List Db} {V : List DK} {m : List (DK × Int)} (h : NetSt l V m) {k : DK} (hne : k ≠ bk k) {n b : Int} (hk : aget k m = some n) (hb : aget (bk k) m = some b) (_hn : 0 < n) (_hb0 : 0 < b) (hV : k ∉ V) (hV2 : bk k ∉ V) :
    NetSt l (k :: V) (lessA (bk k) (min n b) (lessA k (min n b) m)) := by
  have e1 := (h.at' k).2 hV hV2
  have e2 := (h.at' (bk k)).2 hV2 (by rw [bk_bk]; exact hV)
  rw [hk] at e1
  rw [hb] at e2
  have o1 : ow l k = n := by
    unfold owA at e1
    split at e1
    · exact (Option.some.inj e1).symm
    · cases e1
  have o2 : ow l (bk k) = b := by
    unfold owA at e2
    split at e2
    · exact (Option.some.inj e2).symm
    · cases e2
  obtain ⟨s1, s2⟩ := lessA_spec k (min n b) h.nd
  obtain ⟨t1, t2⟩ := lessA_spec (bk k) (min n b) s1
  have g1 : aget (bk k) (lessA k (min n b) m) = some b := by rw [s2, if_neg hne]; exact hb
  have gk : aget k (lessA (bk k) (min n b) (lessA k (min n b) m)) = owA (netI l k) := by
    rw [t2, if_neg (fun q => hne q.symm), s2, if_pos rfl, hk, Option.getD_some]
    unfold netI owA
    rw [o1, o2]
    by_cases hnb : n ≤ b
    · rw [if_pos (by omega), if_neg (by omega)]
    · rw [if_neg (by omega), if_pos (by omega)]
      congr 1
      omega
  have gb : aget (bk k) (lessA (bk k) (min n b) (lessA k (min n b) m)) = owA (netI l (bk k)) := by
    rw [t2, if_pos rfl, g1, Option.getD_some, netI_bk]
    unfold netI owA
    rw [o1, o2]
    by_cases hnb : b ≤ n
    · rw [if_pos (by omega), if_neg (by omega)]
    · rw [if_neg (by omega), if_pos (by omega)]
      congr 1
      omega
  have go : ∀ j, j ≠ k → j ≠ bk k → aget j (lessA (bk k) (min n b) (lessA k (min n b) m)) = aget j m := fun j h1 h2 => by
    rw [t2, if_neg (fun q => h2 q.symm), s2, if_neg (fun q => h1 q.symm)]
  refine ⟨t1, fun j => ⟨fun q => ?_, fun q1 q2 => ?_⟩⟩
  · by_cases hj : j = k
    · rw [hj]; exact gk
    · by_cases hj2 : j = bk k
      · rw [hj2]; exact gb
      · rw [go j hj hj2]
        refine (h.at' j).1 ?_
        rcases q with q | q
        · rcases List.mem_cons.1 q with q | q
          · exact absurd q hj
          · exact .inl q
        · rcases List.mem_cons.1 q with q | q
          · exact absurd (by rw [← q, bk_bk]) hj2
          · exact .inr q
  · have hj : j ≠ k := fun e => q1 (by rw [e]; exact List.mem_cons_self)
    have hj2 : j ≠ bk k := fun e => q2 (by rw [e, bk_bk]; exact List.mem_cons_self)
    rw [go j hj hj2]
    exact (h.at' j).2 (fun q => q1 (List.mem_cons_of_mem _ q)) (fun q => q2 (List.mem_cons_of_mem _ q))
end Go.Proofs.YtofdnkgieigncaaGreat
namespace Go.Proofs.YtofdnkgieigncaaGreat
open Go.SL
/-! ### the document's pairs: currencies, parties, in order: plain -/
/-- a text among rising ones, once -/
def pu (s : ByteArray) : List ByteArray → List ByteArray
  | [] => [s]
  | x :: r => if lts x s = true then x :: pu s r else if x = s then x :: r else s :: x :: r
def SSN (l : List ByteArray) : Prop := l.Pairwise fun a b => lts a b = true
theorem pu_spec (s : ByteArray) : ∀ {l : List ByteArray}, SSN l → SSN (pu s l) ∧ ∀ x, x ∈ pu s l ↔ x = s ∨ x ∈ l
  | [], _ => ⟨by unfold pu SSN; simp, fun x => by simp [pu]⟩
  | y :: r, h => by
    unfold SSN at h
    rw [List.pairwise_cons] at h
    obtain ⟨h1, h2⟩ := h
    obtain ⟨i1, i2⟩ := pu_spec s (l := r) h2
    unfold pu
    by_cases hy : lts y s = true
    · rw [if_pos hy]
      refine ⟨?_, fun x => ?_⟩
      · unfold SSN
        rw [List.pairwise_cons]
        refine ⟨fun x hx => ?_, i1⟩
        rcases (i2 x).1 hx with q | q
        · rw [q]; exact hy
        · exact h1 x q
      · rw [List.mem_cons, i2, List.mem_cons]
        constructor
        · rintro (q | q | q)
          · exact .inr (.inl q)
          · exact .inl q
          · exact .inr (.inr q)
        · rintro (q | q | q)
          · exact .inr (.inl q)
          · exact .inl q
          · exact .inr (.inr q)
    · rw [if_neg hy]
      by_cases he : y = s
      · rw [if_pos he]
        refine ⟨?_, fun x => ?_⟩
        · unfold SSN
          rw [List.pairwise_cons]
          exact ⟨h1, h2⟩
        · subst he
          rw [List.mem_cons]
          exact ⟨fun q => .inr q, fun q => q.elim .inl id⟩
      · rw [if_neg he]
        have hf : lts y s = false := by simpa using hy
        have hsy : lts s y = true := by
          cases hq : lts s y with
          | true => rfl
          | false => exact absurd (lts_tri hf hq) he
        refine ⟨?_, fun x => by rw [List.mem_cons]⟩
        unfold SSN
        rw [List.pairwise_cons, List.pairwise_cons]
        refine ⟨fun x hx => ?_, h1, h2⟩
        rcases List.mem_cons.1 hx with q | q
        · rw [q]; exact hsy
        · exact lts_trans hsy (h1 x q)
def curN (l : List Db) : List ByteArray := l.foldl (fun c d => pu d.1.1 c) []
def parN (l : List Db) : List ByteArray := l.foldl (fun c d => pu d.1.2.2 (pu d.1.2.1 c)) []
theorem curN_snoc (l : List Db) (d : Db) : curN (l ++ [d]) = pu d.1.1 (curN l) := by unfold curN; rw [List.foldl_append]; rfl
theorem parN_snoc (l : List Db) (d : Db) : parN (l ++ [d]) = pu d.1.2.2 (pu d.1.2.1 (parN l)) := by unfold parN; rw [List.foldl_append]; rfl
theorem curN_spec (l : List Db) : SSN (curN l) ∧ ∀ c, c ∈ curN l ↔ ∃ d ∈ l, d.1.1 = c := by
  refine list_snocN (C := fun l => SSN (curN l) ∧ ∀ c, c ∈ curN l ↔ ∃ d ∈ l, d.1.1 = c) l ⟨List.Pairwise.nil, fun c => ⟨fun h => (by cases h), fun ⟨x, hx, _⟩ => (by cases hx)⟩⟩ (fun l d ih => ?_)
  obtain ⟨i1, i2⟩ := ih
  obtain ⟨j1, j2⟩ := pu_spec d.1.1 i1
  rw [curN_snoc]
  refine ⟨j1, fun c => ?_⟩
  rw [j2, i2]
  constructor
  · rintro (q | ⟨x, hx, q⟩)
    · exact ⟨d, by simp, q.symm⟩
    · exact ⟨x, List.mem_append_left _ hx, q⟩
  · rintro ⟨x, hx, q⟩
    rcases List.mem_append.1 hx with r | r
    · exact .inr ⟨x, r, q⟩
    · rw [List.mem_singleton.1 r] at q; exact .inl q.symm
theorem parN_spec (l : List Db) : SSN (parN l) ∧ ∀ p, p ∈ parN l ↔ ∃ d ∈ l, d.1.2.1 = p ∨ d.1.2.2 = p := by
  refine list_snocN (C := fun l => SSN (parN l) ∧ ∀ p, p ∈ parN l ↔ ∃ d ∈ l, d.1.2.1 = p ∨ d.1.2.2 = p) l ⟨List.Pairwise.nil, fun c => ⟨fun h => (by cases h), fun ⟨x, hx, _⟩ => (by cases hx)⟩⟩ (fun l d ih => ?_)
  obtain ⟨i1, i2⟩ := ih
  obtain ⟨j1, j2⟩ := pu_spec d.1.2.1 i1
  obtain ⟨k1, k2⟩ := pu_spec d.1.2.2 j1
  rw [parN_snoc]
  refine ⟨k1, fun c => ?_⟩
  rw [k2, j2, i2]
  constructor
  · rintro (q | q | ⟨x, hx, q⟩)
    · exact ⟨d, by simp, .inr q.symm⟩
    · exact ⟨d, by simp, .inl q.symm⟩
    · exact ⟨x, List.mem_append_left _ hx, q⟩
  · rintro ⟨x, hx, q⟩
    rcases List.mem_append.1 hx with r | r
    · exact .inr (.inr ⟨x, r, q⟩)
    · rw [List.mem_singleton.1 r] at q
      rcases q with q | q
      · exact .inr (.inl q.symm)
      · exact .inl q.symm
/-- the order of keys: currency, from, to -/
def ltK (a b : DK) : Bool := lts a.1 b.1 || (decide (a.1 = b.1) && (lts a.2.1 b.2.1 || (decide (a.2.1 = b.2.1) && lts a.2.2 b.2.2)))
def prF (l : List Db) (c p q : ByteArray) : List Db := if 0 < netI l (c, p, q) then [((c, p, q), netI l (c, p, q))] else []
/-- the document's pairs -/
def pairN (l : List Db) : List Db := (curN l).flatMap fun c => (parN l).flatMap fun p => (parN l).flatMap fun q => prF l c p q
theorem prF_in {l : List Db} {c p q : ByteArray} {x : Db} (h : x ∈ prF l c p q) : x = ((c, p, q), netI l (c, p, q)) ∧ 0 < netI l (c, p, q) := by
  unfold prF at h
  split at h
  · rename_i h0; exact ⟨List.mem_singleton.1 h, h0⟩
  · cases h
theorem ow_pos_in {l : List Db} {k : DK} (h : ow l k ≠ 0) : ∃ d ∈ l, d.1 = k := by
  revert h
  refine list_snocN (C := fun l => ow l k ≠ 0 → ∃ d ∈ l, d.1 = k) l (fun h => absurd rfl h) (fun l d ih h => ?_)
  rw [ow_snoc] at h
  by_cases e : d.1 = k
  · exact ⟨d, by simp, e⟩
  · rw [if_neg e] at h
    obtain ⟨x, hx, q⟩ := ih h
    exact ⟨x, List.mem_append_left _ hx, q⟩
theorem pairN_mem {l : List Db} (hl : ∀ d ∈ l, 1 ≤ d.2) (x : Db) : x ∈ pairN l ↔ owA (netI l x.1) = some x.2 := by
  obtain ⟨_, _, h0⟩ := owM_spec l hl
  unfold pairN
  constructor
  · intro h
    obtain ⟨c, _, h⟩ := List.mem_flatMap.1 h
    obtain ⟨p, _, h⟩ := List.mem_flatMap.1 h
    obtain ⟨q, _, h⟩ := List.mem_flatMap.1 h
    obtain ⟨rfl, hp⟩ := prF_in h
    exact owA_pos hp
  · intro h
    have hp : 0 < netI l x.1 ∧ x.2 = netI l x.1 := by
      unfold owA at h
      split at h
      · rename_i h1; exact ⟨h1, (Option.some.inj h).symm⟩
      · cases h
    have hne : ow l x.1 ≠ 0 := by
      have := h0 (bk x.1)
      have h2 := hp.1
      unfold netI at h2
      omega
    obtain ⟨d, hd, e⟩ := ow_pos_in hne
    obtain ⟨⟨c, p, q⟩, n⟩ := x
    dsimp only at *
    refine List.mem_flatMap.2 ⟨c, ((curN_spec l).2 c).2 ⟨d, hd, by rw [e]⟩, List.mem_flatMap.2 ⟨p, ((parN_spec l).2 p).2 ⟨d, hd, .inl (by rw [e])⟩, List.mem_flatMap.2 ⟨q, ((parN_spec l).2 q).2 ⟨d, hd, .inr (by rw [e])⟩, ?_⟩⟩⟩
    unfold prF
    rw [if_pos hp.1, List.mem_singleton, hp.2]
theorem fm_pw {α β : Type} {R : α → α → Prop} {S : β → β → Prop} {f : α → List β} : ∀ {l : List α}, l.Pairwise R → (∀ a ∈ l, (f a).Pairwise S) → (∀ a b, R a b → ∀ x ∈ f a, ∀ y ∈ f b, S x y) → (l.flatMap f).Pairwise S
  | [], _, _, _ => List.Pairwise.nil
  | a :: l, h, h1, h2 => by
    rw [List.pairwise_cons] at h
    rw [List.flatMap_cons, List.pairwise_append]
    refine ⟨h1 a List.mem_cons_self, fm_pw h.2 (fun b hb => h1 b (List.mem_cons_of_mem _ hb)) h2, fun x hx y hy => ?_⟩
    obtain ⟨b, hb, hy⟩ := List.mem_flatMap.1 hy
    exact h2 a b (h.1 b hb) x hx y hy
theorem pairN_sorted (l : List Db) : (pairN l).Pairwise fun a b => ltK a.1 b.1 = true := by
  have hc := (curN_spec l).1
  have hp := (parN_spec l).1
  refine fm_pw hc (fun c _ => fm_pw hp (fun p _ => fm_pw hp (fun q _ => ?_) (fun q q' hq x hx y hy => ?_)) (fun p p' hpp x hx y hy => ?_)) (fun c c' hcc x hx y hy => ?_)
  · unfold prF
    split <;> simp
  · obtain ⟨rfl, _⟩ := prF_in hx
    obtain ⟨rfl, _⟩ := prF_in hy
    simp [ltK, hq]
  · obtain ⟨q, _, hx⟩ := List.mem_flatMap.1 hx
    obtain ⟨q', _, hy⟩ := List.mem_flatMap.1 hy
    obtain ⟨rfl, _⟩ := prF_in hx
    obtain ⟨rfl, _⟩ := prF_in hy
    simp [ltK, hpp]
  · obtain ⟨p, _, hx⟩ := List.mem_flatMap.1 hx
    obtain ⟨q, _, hx⟩ := List.mem_flatMap.1 hx
    obtain ⟨p', _, hy⟩ := List.mem_flatMap.1 hy
    obtain ⟨q', _, hy⟩ := List.mem_flatMap.1 hy
    obtain ⟨rfl, _⟩ := prF_in hx
    obtain ⟨rfl, _⟩ := prF_in hy
    simp [ltK, hcc]
theorem ltK_irrefl (a : DK) : ltK a a = false := by simp [ltK, lts_irrefl]
/-- what the netted map holds is the document's pairs, in any order -/
theorem pairN_perm {l : List Db} (hl : ∀ d ∈ l, 1 ≤ d.2) {m : List (DK × Int)} (hn : (akeys m).Nodup) (hm : ∀ k, aget k m = owA (netI l k)) : (pairN l).Perm m := by
  have nM : m.Nodup := (List.pairwise_map.1 hn).imp (fun h e => h (congrArg _ e))
  have nR : (pairN l).Nodup := (pairN_sorted l).imp (fun {a b} h e => by rw [e, ltK_irrefl] at h; cases h)
  refine (List.perm_ext_iff_of_nodup nR nM).2 (fun x => ?_)
  rw [pairN_mem hl]
  constructor
  · intro h
    rw [← hm] at h
    exact aget_mem h
  · intro h
    rw [← hm]
    exact aget_of_mem hn h
end Go.Proofs.YtofdnkgieigncaaGreat
namespace Go.Proofs.YtofdnkgieigncaaGreat
open Go.SL
/-! ### positions: plain -/
/-- a position's key: party, currency -/
abbrev SK := ByteArray × ByteArray
def ltN (a b : SK) : Bool := lts a.1 b.1 || (decide (a.1 = b.1) && lts a.2 b.2)
theorem ltN_tri {a b : SK} (h : ltN a b = false) (k : ltN b a = false) : a = b := by
  unfold ltN at *
  rw [Bool.or_eq_false_iff, Bool.and_eq_false_iff, decide_eq_false_iff_not] at *
  have e := lts_tri h.1 k.1
  refine Prod.ext e ?_
  have h2 : lts a.2 b.2 = false := h.2.resolve_left (fun q => q e)
  have k2 : lts b.2 a.2 = false := k.2.resolve_left (fun q => q e.symm)
  exact lts_tri h2 k2
/-- two rows in strict order with the same members are one -/
theorem sorted_one {α : Type} {lt : α → α → Bool} (hi : ∀ a, lt a a = false) (ht : ∀ {a b c}, lt a b = true → lt b c = true → lt a c = true) : ∀ {a b : List α}, a.Pairwise (fun x y => lt x y = true) → b.Pairwise (fun x y => lt x y = true) → (∀ x, x ∈ a ↔ x ∈ b) → a = b
  | [], [], _, _, _ => rfl
  | [], y :: b, _, _, h => by have := (h y).2 List.mem_cons_self; cases this
  | x :: a, [], _, _, h => by have := (h x).1 List.mem_cons_self; cases this
  | x :: a, y :: b, ha, hb, h => by
    rw [List.pairwise_cons] at ha hb
    have hxy : x = y := by
      rcases List.mem_cons.1 ((h x).1 List.mem_cons_self) with q | q
      · exact q
      · rcases List.mem_cons.1 ((h y).2 List.mem_cons_self) with r | r
        · exact r.symm
        · have := ht (hb.1 x q) (ha.1 y r)
          rw [hi] at this; cases this
    subst hxy
    congr 1
    refine sorted_one hi ht ha.2 hb.2 (fun z => ?_)
    constructor
    · intro hz
      rcases List.mem_cons.1 ((h z).1 (List.mem_cons_of_mem _ hz)) with q | q
      · have := ha.1 z hz
        rw [q, hi] at this; cases this
      · exact q
    · intro hz
      rcases List.mem_cons.1 ((h z).2 (List.mem_cons_of_mem _ hz)) with q | q
      · have := hb.1 z hz
        rw [q, hi] at this; cases this
      · exact q
end Go.Proofs.YtofdnkgieigncaaGreat
namespace Go.Proofs.YtofdnkgieigncaaGreat
open Go.SL
/-! ### netted all at once: plain -/
abbrev PA := ByteArray × Int
/-- a row while it is settled: from and to stand at the first that owes and is owed -/
structure SetSt (A : List PA) (f t : Nat) : Prop where
  bf : ∀ a ∈ A.take f, 0 ≤ a.2
  bt : ∀ a ∈ A.take t, a.2 ≤ 0
end Go.Proofs.YtofdnkgieigncaaGreat
namespace Go.Proofs.YtofdnkgieigncaaGreat
open Go.SL
/-! ### netted all at once: by groups; what it keeps: plain -/
/-! sums over parties -/
instance decIn (a : ByteArray) (P : List ByteArray) : Decidable (a ∈ P) := @List.instDecidableMemOfLawfulBEq ByteArray instBEqOfDecidableEq inferInstance a P
/-- all debts are between the parties P -/
def among (P : List ByteArray) (l : List Db) : Prop := ∀ d ∈ l, d.1.2.1 ∈ P ∧ d.1.2.2 ∈ P
end Go.Proofs.YtofdnkgieigncaaGreat
