import Derived.Test.YtofdnkgieigncaaGreatV0
import Derived.Test.YtofdnkgieigncaaGreatTk
namespace Go.Proofs.YtofdnkgieigncaaGreat
open Go.SL
/-! ### debts netted in pairs: plain -/
/-- a key: currency, from, to -/
abbrev DK := ByteArray × ByteArray × ByteArray
def bk (k : DK) : DK := (k.1, k.2.2, k.2.1)
theorem bk_bk (k : DK) : bk (bk k) = k := rfl
/-- a debt: its key, the amount -/
abbrev Db := DK × Int
theorem list_snocN {α : Type} {C : List α → Prop} (l : List α) (h0 : C []) (h1 : ∀ l x, C l → C (l ++ [x])) : C l := by
  have : ∀ m : List α, C m.reverse := by
    intro m
    induction m with
    | nil => exact h0
    | cons x m ih => rw [List.reverse_cons]; exact h1 _ _ ih
  have := this l.reverse
  rwa [List.reverse_reverse] at this
def ow (l : List Db) (k : DK) : Int := l.foldl (fun a d => if d.1 = k then a + d.2 else a) 0
theorem ow_snoc (l : List Db) (d : Db) (k : DK) : ow (l ++ [d]) k = if d.1 = k then ow l k + d.2 else ow l k := by unfold ow; rw [List.foldl_append]; rfl
def owM (l : List Db) : List (DK × Int) := l.foldl (fun M d => aput d.1 ((aget d.1 M).getD 0 + d.2) M) []
theorem owM_snoc (l : List Db) (d : Db) : owM (l ++ [d]) = aput d.1 ((aget d.1 (owM l)).getD 0 + d.2) (owM l) := by unfold owM; rw [List.foldl_append]; rfl
def owA (n : Int) : Option Int := if 0 < n then some n else none
theorem owA_none {n : Int} (h : n = 0) : owA n = none := by unfold owA; rw [if_neg (by omega)]
theorem owA_pos {n : Int} (h : 0 < n) : owA n = some n := if_pos h
theorem owA_getD {n : Int} (h : 0 ≤ n) : (owA n).getD 0 = n := by
  unfold owA
  split
  · rfl
  · show (0 : Int) = n; omega
theorem owM_spec (l : List Db) : (∀ d ∈ l, 1 ≤ d.2) → (akeys (owM l)).Nodup ∧ (∀ k, aget k (owM l) = owA (ow l k)) ∧ ∀ k, 0 ≤ ow l k := by
  refine list_snocN (C := fun l => (∀ d ∈ l, 1 ≤ d.2) → (akeys (owM l)).Nodup ∧ (∀ k, aget k (owM l) = owA (ow l k)) ∧ ∀ k, 0 ≤ ow l k) l (fun _ => ⟨List.nodup_nil, fun k => rfl, fun k => Int.le_refl 0⟩) (fun l d ih h => ?_)
  obtain ⟨i1, i2, i3⟩ := ih (fun x hx => h x (List.mem_append_left _ hx))
  have hd := h d (by simp)
  rw [owM_snoc]
  have h0 := i3 d.1
  refine ⟨nodup_put i1, fun k => ?_, fun k => ?_⟩
  · rw [aget_put, ow_snoc]
    by_cases e : d.1 = k
    · subst e
      rw [if_pos rfl, if_pos rfl, i2, owA_getD h0, owA_pos (by omega)]
    · rw [if_neg e, if_neg e]
      exact i2 k
  · rw [ow_snoc]
    have := i3 k
    split <;> omega
def netI (l : List Db) (k : DK) : Int := ow l k - ow l (bk k)
theorem netI_bk (l : List Db) (k : DK) : netI l (bk k) = - netI l k := by unfold netI; rw [bk_bk]; omega
/-- the map while it is netted: V has been visited -/
structure NetSt (l : List Db) (V : List DK) (m : List (DK × Int)) : Prop where
  nd : (akeys m).Nodup
  at' : ∀ k, (k ∈ V ∨ bk k ∈ V → aget k m = owA (netI l k)) ∧ (k ∉ V → bk k ∉ V → aget k m = owA (ow l k))
theorem NetSt.zero {l : List Db} (h : ∀ d ∈ l, 1 ≤ d.2) : NetSt l [] (owM l) := by
  obtain ⟨h1, h2, _⟩ := owM_spec l h
  exact ⟨h1, fun k => ⟨fun q => (by rcases q with q | q <;> cases q), fun _ _ => h2 k⟩⟩
/-- nothing is owed both ways: the entry stays -/
theorem NetSt.skip {l : List Db} (hl : ∀ d ∈ l, 1 ≤ d.2) {V : List DK} {m : List (DK × Int)} (h : NetSt l V m) {k : DK} (hk : k ∈ akeys m) (hb : aget (bk k) m = none) : NetSt l (k :: V) m := by
  obtain ⟨_, _, h0⟩ := owM_spec l hl
  refine ⟨h.nd, fun j => ⟨fun q => ?_, fun q1 q2 => (h.at' j).2 (fun q => q1 (List.mem_cons_of_mem _ q)) (fun q => q2 (List.mem_cons_of_mem _ q))⟩⟩
  by_cases hj : j ∈ V ∨ bk j ∈ V
  · exact (h.at' j).1 hj
  · have hj1 : j ∉ V := fun q => hj (.inl q)
    have hj2 : bk j ∉ V := fun q => hj (.inr q)
    have e := (h.at' j).2 hj1 hj2
    have e' := (h.at' (bk j)).2 hj2 (by rw [bk_bk]; exact hj1)
    have a1 := h0 j
    have a2 := h0 (bk j)
    have hkk : j = k ∨ bk j = k := by
      rcases q with q | q
      · rcases List.mem_cons.1 q with q | q
        · exact .inl q
        · exact absurd q hj1
      · rcases List.mem_cons.1 q with q | q
        · exact .inr q
        · exact absurd q hj2
    rcases hkk with rfl | rfl
    · rw [hb] at e'
      have : ow l (bk j) = 0 := by
        unfold owA at e'
        split at e'
        · cases e'
        · omega
      rw [e]
      unfold netI
      rw [this, Int.sub_zero]
    · rw [bk_bk] at hb
      rw [hb]
      rw [hb] at e
      have z : ow l j = 0 := by
        unfold owA at e
        split at e
        · cases e
        · omega
      have : netI l j ≤ 0 := by unfold netI; rw [z]; omega
      unfold owA
      rw [if_neg (by omega)]
/-- all have been visited -/
theorem NetSt.done {l : List Db} (hl : ∀ d ∈ l, 1 ≤ d.2) {V : List DK} {m : List (DK × Int)} (h : NetSt l V m) (hV : ∀ k ∈ akeys m, k ∈ V) (k : DK) : aget k m = owA (netI l k) := by
  obtain ⟨_, _, h0⟩ := owM_spec l hl
  by_cases hk : k ∈ V ∨ bk k ∈ V
  · exact (h.at' k).1 hk
  · have h1 : k ∉ V := fun q => hk (.inl q)
    have h2 : bk k ∉ V := fun q => hk (.inr q)
    have e1 := (h.at' k).2 h1 h2
    have e2 := (h.at' (bk k)).2 h2 (by rw [bk_bk]; exact h1)
    have n1 : aget k m = none := aget_none.2 (fun q => h1 (hV k q))
    have n2 : aget (bk k) m = none := aget_none.2 (fun q => h2 (hV _ q))
    rw [n1] at e1
    rw [n2] at e2
    have z : ∀ n : Int, 0 ≤ n → none = owA n → n = 0 := fun n hn hq => by
      unfold owA at hq
      split at hq
      · cases hq
      · omega
    have z1 := z _ (h0 k) e1
    have z2 := z _ (h0 (bk k)) e2
    rw [n1]
    exact (owA_none (by unfold netI; omega)).symm
/-- an entry less 'both': put anew, or deleted -/
def lessA (k : DK) (both : Int) (m : List (DK × Int)) : List (DK × Int) := if (aget k m).getD 0 - both = 0 then adel k (aput k ((aget k m).getD 0 - both) m) else aput k ((aget k m).getD 0 - both) m
theorem lessA_spec (k : DK) (both : Int) {m : List (DK × Int)} (h : (akeys m).Nodup) : (akeys (lessA k both m)).Nodup ∧ ∀ j, aget j (lessA k both m) = if k = j then (if (aget k m).getD 0 - both = 0 then none else some ((aget k m).getD 0 - both)) else aget j m := by
  have hn := nodup_put (k := k) (c := (aget k m).getD 0 - both) h
  unfold lessA
  by_cases hz : (aget k m).getD 0 - both = 0
  · rw [if_pos hz]
    refine ⟨nodup_del hn, fun j => ?_⟩
    rw [aget_del _ _ _ hn, aget_put]
    by_cases e : k = j
    · rw [if_pos e, if_pos e, if_pos hz]
    · rw [if_neg e, if_neg e, if_neg e]
  · rw [if_neg hz]
    refine ⟨hn, fun j => ?_⟩
    rw [aget_put]
    by_cases e : k = j
    · rw [if_pos e, if_pos e, if_neg hz]
    · rw [if_neg e, if_neg e]
/-- owed both ways: both are less by the lesser -/
theorem NetSt.both {l : List Db} {V : List DK} {m : List (DK × Int)} (h : NetSt l V m) {k : DK} (hne : k ≠ bk k) {n b : Int} (hk : aget k m = some n) (hb : aget (bk k) m = some b) (_hn : 0 < n) (_hb0 : 0 < b) (hV : k ∉ V) (hV2 : bk k ∉ V) :
    NetSt l (k :: V) (lessA (bk k) (min n b) (lessA k (min n b) m)) := by
  have e1 := (h.at' k).2 hV hV2
  have e2 := (h.at' (bk k)).2 hV2 (by rw [bk_bk]; exact hV)
  rw [hk] at e1
  rw [hb] at e2
  have o1 : ow l k = n := by
    unfold owA at e1
    split at e1
    · exact (Option.some.inj e1).symm
    · cases e1
  have o2 : ow l (bk k) = b := by
    unfold owA at e2
    split at e2
    · exact (Option.some.inj e2).symm
    · cases e2
  obtain ⟨s1, s2⟩ := lessA_spec k (min n b) h.nd
  obtain ⟨t1, t2⟩ := lessA_spec (bk k) (min n b) s1
  have g1 : aget (bk k) (lessA k (min n b) m) = some b := by rw [s2, if_neg hne]; exact hb
  have gk : aget k (lessA (bk k) (min n b) (lessA k (min n b) m)) = owA (netI l k) := by
    rw [t2, if_neg (fun q => hne q.symm), s2, if_pos rfl, hk, Option.getD_some]
    unfold netI owA
    rw [o1, o2]
    by_cases hnb : n ≤ b
    · rw [if_pos (by omega), if_neg (by omega)]
    · rw [if_neg (by omega), if_pos (by omega)]
      congr 1
      omega
  have gb : aget (bk k) (lessA (bk k) (min n b) (lessA k (min n b) m)) = owA (netI l (bk k)) := by
    rw [t2, if_pos rfl, g1, Option.getD_some, netI_bk]
    unfold netI owA
    rw [o1, o2]
    by_cases hnb : b ≤ n
    · rw [if_pos (by omega), if_neg (by omega)]
    · rw [if_neg (by omega), if_pos (by omega)]
      congr 1
      omega
  have go : ∀ j, j ≠ k → j ≠ bk k → aget j (lessA (bk k) (min n b) (lessA k (min n b) m)) = aget j m := fun j h1 h2 => by
    rw [t2, if_neg (fun q => h2 q.symm), s2, if_neg (fun q => h1 q.symm)]
  refine ⟨t1, fun j => ⟨fun q => ?_, fun q1 q2 => ?_⟩⟩
  · by_cases hj : j = k
    · rw [hj]; exact gk
    · by_cases hj2 : j = bk k
      · rw [hj2]; exact gb
      · rw [go j hj hj2]
        refine (h.at' j).1 ?_
        rcases q with q | q
        · rcases List.mem_cons.1 q with q | q
          · exact absurd q hj
          · exact .inl q
        · rcases List.mem_cons.1 q with q | q
          · exact absurd (by rw [← q, bk_bk]) hj2
          · exact .inr q
  · have hj : j ≠ k := fun e => q1 (by rw [e]; exact List.mem_cons_self)
    have hj2 : j ≠ bk k := fun e => q2 (by rw [e, bk_bk]; exact List.mem_cons_self)
    rw [go j hj hj2]
    exact (h.at' j).2 (fun q => q1 (List.mem_cons_of_mem _ q)) (fun q => q2 (List.mem_cons_of_mem _ q))
end Go.Proofs.YtofdnkgieigncaaGreat
namespace Go.Proofs.YtofdnkgieigncaaGreat
open Go.SL
/-! ### the document's pairs: currencies, parties, in order: plain -/
/-- a text among rising ones, once -/
def pu (s : ByteArray) : List ByteArray → List ByteArray
  | [] => [s]
  | x :: r => if lts x s = true then x :: pu s r else if x = s then x :: r else s :: x :: r
def SSN (l : List ByteArray) : Prop := l.Pairwise fun a b => lts a b = true
theorem pu_spec (s : ByteArray) : ∀ {l : List ByteArray}, SSN l → SSN (pu s l) ∧ ∀ x, x ∈ pu s l ↔ x = s ∨ x ∈ l
  | [], _ => ⟨by unfold pu SSN; simp, fun x => by simp [pu]⟩
  | y :: r, h => by
    unfold SSN at h
    rw [List.pairwise_cons] at h
    obtain ⟨h1, h2⟩ := h
    obtain ⟨i1, i2⟩ := pu_spec s (l := r) h2
    unfold pu
    by_cases hy : lts y s = true
    · rw [if_pos hy]
      refine ⟨?_, fun x => ?_⟩
      · unfold SSN
        rw [List.pairwise_cons]
        refine ⟨fun x hx => ?_, i1⟩
        rcases (i2 x).1 hx with q | q
        · rw [q]; exact hy
        · exact h1 x q
      · rw [List.mem_cons, i2, List.mem_cons]
        constructor
        · rintro (q | q | q)
          · exact .inr (.inl q)
          · exact .inl q
          · exact .inr (.inr q)
        · rintro (q | q | q)
          · exact .inr (.inl q)
          · exact .inl q
          · exact .inr (.inr q)
    · rw [if_neg hy]
      by_cases he : y = s
      · rw [if_pos he]
        refine ⟨?_, fun x => ?_⟩
        · unfold SSN
          rw [List.pairwise_cons]
          exact ⟨h1, h2⟩
        · subst he
          rw [List.mem_cons]
          exact ⟨fun q => .inr q, fun q => q.elim .inl id⟩
      · rw [if_neg he]
        have hf : lts y s = false := by simpa using hy
        have hsy : lts s y = true := by
          cases hq : lts s y with
          | true => rfl
          | false => exact absurd (lts_tri hf hq) he
        refine ⟨?_, fun x => by rw [List.mem_cons]⟩
        unfold SSN
        rw [List.pairwise_cons, List.pairwise_cons]
        refine ⟨fun x hx => ?_, h1, h2⟩
        rcases List.mem_cons.1 hx with q | q
        · rw [q]; exact hsy
        · exact lts_trans hsy (h1 x q)
theorem pu_len (s : ByteArray) : ∀ l : List ByteArray, (pu s l).length ≤ l.length + 1
  | [] => by simp [pu]
  | y :: r => by
    unfold pu
    have := pu_len s r
    split
    · rw [List.length_cons, List.length_cons]; omega
    · split <;> simp
def curN (l : List Db) : List ByteArray := l.foldl (fun c d => pu d.1.1 c) []
def parN (l : List Db) : List ByteArray := l.foldl (fun c d => pu d.1.2.2 (pu d.1.2.1 c)) []
theorem curN_snoc (l : List Db) (d : Db) : curN (l ++ [d]) = pu d.1.1 (curN l) := by unfold curN; rw [List.foldl_append]; rfl
theorem parN_snoc (l : List Db) (d : Db) : parN (l ++ [d]) = pu d.1.2.2 (pu d.1.2.1 (parN l)) := by unfold parN; rw [List.foldl_append]; rfl
theorem curN_spec (l : List Db) : SSN (curN l) ∧ ∀ c, c ∈ curN l ↔ ∃ d ∈ l, d.1.1 = c := by
  refine list_snocN (C := fun l => SSN (curN l) ∧ ∀ c, c ∈ curN l ↔ ∃ d ∈ l, d.1.1 = c) l ⟨List.Pairwise.nil, fun c => ⟨fun h => (by cases h), fun ⟨x, hx, _⟩ => (by cases hx)⟩⟩ (fun l d ih => ?_)
  obtain ⟨i1, i2⟩ := ih
  obtain ⟨j1, j2⟩ := pu_spec d.1.1 i1
  rw [curN_snoc]
  refine ⟨j1, fun c => ?_⟩
  rw [j2, i2]
  constructor
  · rintro (q | ⟨x, hx, q⟩)
    · exact ⟨d, by simp, q.symm⟩
    · exact ⟨x, List.mem_append_left _ hx, q⟩
  · rintro ⟨x, hx, q⟩
    rcases List.mem_append.1 hx with r | r
    · exact .inr ⟨x, r, q⟩
    · rw [List.mem_singleton.1 r] at q; exact .inl q.symm
theorem parN_spec (l : List Db) : SSN (parN l) ∧ ∀ p, p ∈ parN l ↔ ∃ d ∈ l, d.1.2.1 = p ∨ d.1.2.2 = p := by
  refine list_snocN (C := fun l => SSN (parN l) ∧ ∀ p, p ∈ parN l ↔ ∃ d ∈ l, d.1.2.1 = p ∨ d.1.2.2 = p) l ⟨List.Pairwise.nil, fun c => ⟨fun h => (by cases h), fun ⟨x, hx, _⟩ => (by cases hx)⟩⟩ (fun l d ih => ?_)
  obtain ⟨i1, i2⟩ := ih
  obtain ⟨j1, j2⟩ := pu_spec d.1.2.1 i1
  obtain ⟨k1, k2⟩ := pu_spec d.1.2.2 j1
  rw [parN_snoc]
  refine ⟨k1, fun c => ?_⟩
  rw [k2, j2, i2]
  constructor
  · rintro (q | q | ⟨x, hx, q⟩)
    · exact ⟨d, by simp, .inr q.symm⟩
    · exact ⟨d, by simp, .inl q.symm⟩
    · exact ⟨x, List.mem_append_left _ hx, q⟩
  · rintro ⟨x, hx, q⟩
    rcases List.mem_append.1 hx with r | r
    · exact .inr (.inr ⟨x, r, q⟩)
    · rw [List.mem_singleton.1 r] at q
      rcases q with q | q
      · exact .inr (.inl q.symm)
      · exact .inl q.symm
/-- the order of keys: currency, from, to -/
def ltK (a b : DK) : Bool := lts a.1 b.1 || (decide (a.1 = b.1) && (lts a.2.1 b.2.1 || (decide (a.2.1 = b.2.1) && lts a.2.2 b.2.2)))
def prF (l : List Db) (c p q : ByteArray) : List Db := if 0 < netI l (c, p, q) then [((c, p, q), netI l (c, p, q))] else []
/-- the document's pairs -/
def pairN (l : List Db) : List Db := (curN l).flatMap fun c => (parN l).flatMap fun p => (parN l).flatMap fun q => prF l c p q
theorem prF_in {l : List Db} {c p q : ByteArray} {x : Db} (h : x ∈ prF l c p q) : x = ((c, p, q), netI l (c, p, q)) ∧ 0 < netI l (c, p, q) := by
  unfold prF at h
  split at h
  · rename_i h0; exact ⟨List.mem_singleton.1 h, h0⟩
  · cases h
theorem ow_pos_in {l : List Db} {k : DK} (h : ow l k ≠ 0) : ∃ d ∈ l, d.1 = k := by
  revert h
  refine list_snocN (C := fun l => ow l k ≠ 0 → ∃ d ∈ l, d.1 = k) l (fun h => absurd rfl h) (fun l d ih h => ?_)
  rw [ow_snoc] at h
  by_cases e : d.1 = k
  · exact ⟨d, by simp, e⟩
  · rw [if_neg e] at h
    obtain ⟨x, hx, q⟩ := ih h
    exact ⟨x, List.mem_append_left _ hx, q⟩
theorem pairN_mem {l : List Db} (hl : ∀ d ∈ l, 1 ≤ d.2) (x : Db) : x ∈ pairN l ↔ owA (netI l x.1) = some x.2 := by
  obtain ⟨_, _, h0⟩ := owM_spec l hl
  unfold pairN
  constructor
  · intro h
    obtain ⟨c, _, h⟩ := List.mem_flatMap.1 h
    obtain ⟨p, _, h⟩ := List.mem_flatMap.1 h
    obtain ⟨q, _, h⟩ := List.mem_flatMap.1 h
    obtain ⟨rfl, hp⟩ := prF_in h
    exact owA_pos hp
  · intro h
    have hp : 0 < netI l x.1 ∧ x.2 = netI l x.1 := by
      unfold owA at h
      split at h
      · rename_i h1; exact ⟨h1, (Option.some.inj h).symm⟩
      · cases h
    have hne : ow l x.1 ≠ 0 := by
      have := h0 (bk x.1)
      have h2 := hp.1
      unfold netI at h2
      omega
    obtain ⟨d, hd, e⟩ := ow_pos_in hne
    obtain ⟨⟨c, p, q⟩, n⟩ := x
    dsimp only at *
    refine List.mem_flatMap.2 ⟨c, ((curN_spec l).2 c).2 ⟨d, hd, by rw [e]⟩, List.mem_flatMap.2 ⟨p, ((parN_spec l).2 p).2 ⟨d, hd, .inl (by rw [e])⟩, List.mem_flatMap.2 ⟨q, ((parN_spec l).2 q).2 ⟨d, hd, .inr (by rw [e])⟩, ?_⟩⟩⟩
    unfold prF
    rw [if_pos hp.1, List.mem_singleton, hp.2]
theorem fm_pw {α β : Type} {R : α → α → Prop} {S : β → β → Prop} {f : α → List β} : ∀ {l : List α}, l.Pairwise R → (∀ a ∈ l, (f a).Pairwise S) → (∀ a b, R a b → ∀ x ∈ f a, ∀ y ∈ f b, S x y) → (l.flatMap f).Pairwise S
  | [], _, _, _ => List.Pairwise.nil
  | a :: l, h, h1, h2 => by
    rw [List.pairwise_cons] at h
    rw [List.flatMap_cons, List.pairwise_append]
    refine ⟨h1 a List.mem_cons_self, fm_pw h.2 (fun b hb => h1 b (List.mem_cons_of_mem _ hb)) h2, fun x hx y hy => ?_⟩
    obtain ⟨b, hb, hy⟩ := List.mem_flatMap.1 hy
    exact h2 a b (h.1 b hb) x hx y hy
theorem pairN_sorted (l : List Db) : (pairN l).Pairwise fun a b => ltK a.1 b.1 = true := by
  have hc := (curN_spec l).1
  have hp := (parN_spec l).1
  refine fm_pw hc (fun c _ => fm_pw hp (fun p _ => fm_pw hp (fun q _ => ?_) (fun q q' hq x hx y hy => ?_)) (fun p p' hpp x hx y hy => ?_)) (fun c c' hcc x hx y hy => ?_)
  · unfold prF
    split <;> simp
  · obtain ⟨rfl, _⟩ := prF_in hx
    obtain ⟨rfl, _⟩ := prF_in hy
    simp [ltK, hq]
  · obtain ⟨q, _, hx⟩ := List.mem_flatMap.1 hx
    obtain ⟨q', _, hy⟩ := List.mem_flatMap.1 hy
    obtain ⟨rfl, _⟩ := prF_in hx
    obtain ⟨rfl, _⟩ := prF_in hy
    simp [ltK, hpp]
  · obtain ⟨p, _, hx⟩ := List.mem_flatMap.1 hx
    obtain ⟨q, _, hx⟩ := List.mem_flatMap.1 hx
    obtain ⟨p', _, hy⟩ := List.mem_flatMap.1 hy
    obtain ⟨q', _, hy⟩ := List.mem_flatMap.1 hy
    obtain ⟨rfl, _⟩ := prF_in hx
    obtain ⟨rfl, _⟩ := prF_in hy
    simp [ltK, hcc]
theorem ltK_irrefl (a : DK) : ltK a a = false := by simp [ltK, lts_irrefl]
/-- what the netted map holds is the document's pairs, in any order -/
theorem pairN_perm {l : List Db} (hl : ∀ d ∈ l, 1 ≤ d.2) {m : List (DK × Int)} (hn : (akeys m).Nodup) (hm : ∀ k, aget k m = owA (netI l k)) : (pairN l).Perm m := by
  have nM : m.Nodup := (List.pairwise_map.1 hn).imp (fun h e => h (congrArg _ e))
  have nR : (pairN l).Nodup := (pairN_sorted l).imp (fun {a b} h e => by rw [e, ltK_irrefl] at h; cases h)
  refine (List.perm_ext_iff_of_nodup nR nM).2 (fun x => ?_)
  rw [pairN_mem hl]
  constructor
  · intro h
    rw [← hm] at h
    exact aget_mem h
  · intro h
    rw [← hm]
    exact aget_of_mem hn h
end Go.Proofs.YtofdnkgieigncaaGreat
namespace Go.Proofs.YtofdnkgieigncaaGreat
open Go.SL
/-! ### positions: plain -/
/-- a position's key: party, currency -/
abbrev SK := ByteArray × ByteArray
def psD (s : SK) (d : Db) : Int := (if d.1.2.2 = s.1 ∧ d.1.1 = s.2 then d.2 else 0) - (if d.1.2.1 = s.1 ∧ d.1.1 = s.2 then d.2 else 0)
def psI (l : List Db) (s : SK) : Int := (l.map (psD s)).sum
theorem psI_nil (s : SK) : psI [] s = 0 := rfl
theorem psI_app (a b : List Db) (s : SK) : psI (a ++ b) s = psI a s + psI b s := by simp [psI]
theorem psI_cons (d : Db) (l : List Db) (s : SK) : psI (d :: l) s = psD s d + psI l s := by simp [psI]
theorem psI_snoc (l : List Db) (d : Db) (s : SK) : psI (l ++ [d]) s = psI l s + psD s d := by rw [psI_app]; simp [psI]
def psK (M : List (SK × Int)) (d : Db) : List (SK × Int) :=
  aput (d.1.2.2, d.1.1) ((aget (d.1.2.2, d.1.1) (aput (d.1.2.1, d.1.1) ((aget (d.1.2.1, d.1.1) M).getD 0 - d.2) M)).getD 0 + d.2) (aput (d.1.2.1, d.1.1) ((aget (d.1.2.1, d.1.1) M).getD 0 - d.2) M)
def psM (l : List Db) : List (SK × Int) := l.foldl psK []
theorem psM_snoc (l : List Db) (d : Db) : psM (l ++ [d]) = psK (psM l) d := by unfold psM; rw [List.foldl_append]; rfl
theorem psM_spec (l : List Db) : (akeys (psM l)).Nodup ∧ ∀ s, (aget s (psM l)).getD 0 = psI l s := by
  refine list_snocN (C := fun l => (akeys (psM l)).Nodup ∧ ∀ s, (aget s (psM l)).getD 0 = psI l s) l ⟨List.nodup_nil, fun s => rfl⟩ (fun l d ih => ?_)
  obtain ⟨i1, i2⟩ := ih
  rw [psM_snoc]
  unfold psK
  refine ⟨nodup_put (nodup_put i1), fun s => ?_⟩
  rw [psI_snoc, ← i2 s]
  obtain ⟨⟨c, p, q⟩, n⟩ := d
  obtain ⟨x, y⟩ := s
  unfold psD
  dsimp only
  rw [aget_put, aget_put, aget_put]
  have e1 : ((q, c) = (x, y)) = (q = x ∧ c = y) := by rw [Prod.mk.injEq]
  have e2 : ((p, c) = (x, y)) = (p = x ∧ c = y) := by rw [Prod.mk.injEq]
  have e3 : ((p, c) = (q, c)) = (p = q) := by rw [Prod.mk.injEq]; simp
  by_cases h1 : q = x ∧ c = y
  · rw [if_pos (e1.mpr h1), if_pos h1, Option.getD_some]
    by_cases h2 : p = q
    · rw [if_pos (e3.mpr h2), if_pos ⟨h2.trans h1.1, h1.2⟩, Option.getD_some, h2, h1.1, h1.2]; omega
    · rw [if_neg (fun e => h2 (e3.mp e)), if_neg (fun h => h2 (h.1.trans h1.1.symm)), h1.1, h1.2]; omega
  · rw [if_neg (fun e => h1 (e1.mp e)), if_neg h1]
    by_cases h2 : p = x ∧ c = y
    · rw [if_pos (e2.mpr h2), if_pos h2, Option.getD_some, h2.1, h2.2]; omega
    · rw [if_neg (fun e => h2 (e2.mp e)), if_neg h2]; omega
theorem psM_len (l : List Db) : (psM l).length ≤ 2 * l.length := by
  have hp : ∀ (k : SK) (n : Int) (M : List (SK × Int)), (aput k n M).length ≤ M.length + 1 := fun k n M => by
    have : (akeys (aput k n M)).length ≤ (akeys M).length + 1 := by
      rw [akeys_put]; split
      · omega
      · rw [List.length_append]; simp
    simpa [akeys] using this
  refine list_snocN (C := fun l => (psM l).length ≤ 2 * l.length) l (by simp [psM]) (fun l d ih => ?_)
  rw [psM_snoc, List.length_append, List.length_singleton]
  unfold psK
  refine Nat.le_trans (hp _ _ _) ?_
  have := hp (d.1.2.1, d.1.1) ((aget (d.1.2.1, d.1.1) (psM l)).getD 0 - d.2) (psM l)
  omega
theorem psI_in {l : List Db} {B : Int} (hB : 0 ≤ B) (h : ∀ d ∈ l, 0 ≤ d.2 ∧ d.2 ≤ B) (s : SK) : -(B * (l.length : Int)) ≤ psI l s ∧ psI l s ≤ B * (l.length : Int) := by
  induction l with
  | nil => simp [psI]
  | cons d l ih =>
    have h1 := ih (fun x hx => h x (List.mem_cons_of_mem _ hx))
    have h2 := h d List.mem_cons_self
    rw [psI_cons, List.length_cons]
    have e : B * ((l.length + 1 : Nat) : Int) = B * (l.length : Int) + B := by rw [Int.natCast_add, Int.mul_add]; simp
    rw [e]
    have : -B ≤ psD s d ∧ psD s d ≤ B := by unfold psD; split <;> split <;> omega
    omega
/-- a position's entry, not 0 -/
def nzP (v : List (SK × Int)) : List (SK × Int) := v.filter fun p => decide (p.2 ≠ 0)
theorem psI_ne_in {l : List Db} {s : SK} (h : psI l s ≠ 0) : ∃ d ∈ l, (d.1.2.1 = s.1 ∨ d.1.2.2 = s.1) ∧ d.1.1 = s.2 := by
  induction l with
  | nil => exact absurd rfl h
  | cons d l ih =>
    by_cases hd : psD s d = 0
    · rw [psI_cons, hd] at h
      obtain ⟨x, hx, q⟩ := ih (fun e => h (by omega))
      exact ⟨x, List.mem_cons_of_mem _ hx, q⟩
    · refine ⟨d, List.mem_cons_self, ?_⟩
      unfold psD at hd
      by_cases h1 : d.1.2.2 = s.1 ∧ d.1.1 = s.2
      · exact ⟨.inr h1.1, h1.2⟩
      · by_cases h2 : d.1.2.1 = s.1 ∧ d.1.1 = s.2
        · exact ⟨.inl h2.1, h2.2⟩
        · rw [if_neg h1, if_neg h2] at hd; exact absurd rfl hd
def psF (l : List Db) (p c : ByteArray) : List (SK × Int) := if psI l (p, c) ≠ 0 then [((p, c), psI l (p, c))] else []
theorem psF_in {l : List Db} {p c : ByteArray} {x : SK × Int} (h : x ∈ psF l p c) : x = ((p, c), psI l (p, c)) ∧ psI l (p, c) ≠ 0 := by
  unfold psF at h
  split at h
  · rename_i h0; exact ⟨List.mem_singleton.1 h, h0⟩
  · cases h
/-- by party, then currency: the document's positions -/
def posN (l : List Db) : List (SK × Int) := (parN l).flatMap fun p => (curN l).flatMap fun c => psF l p c
/-- by currency, then party -/
def posC (l : List Db) : List (SK × Int) := (curN l).flatMap fun c => (parN l).flatMap fun p => psF l p c
theorem pos_dom {l : List Db} {s : SK} (h : psI l s ≠ 0) : s.1 ∈ parN l ∧ s.2 ∈ curN l := by
  obtain ⟨d, hd, h1, h2⟩ := psI_ne_in h
  exact ⟨((parN_spec l).2 _).2 ⟨d, hd, h1⟩, ((curN_spec l).2 _).2 ⟨d, hd, h2⟩⟩
theorem posN_mem (l : List Db) (x : SK × Int) : x ∈ posN l ↔ psI l x.1 = x.2 ∧ x.2 ≠ 0 := by
  unfold posN
  constructor
  · intro h
    obtain ⟨p, _, h⟩ := List.mem_flatMap.1 h
    obtain ⟨c, _, h⟩ := List.mem_flatMap.1 h
    obtain ⟨rfl, h0⟩ := psF_in h
    exact ⟨rfl, h0⟩
  · rintro ⟨h1, h2⟩
    obtain ⟨⟨p, c⟩, n⟩ := x
    dsimp only at *
    have hd := pos_dom (l := l) (s := (p, c)) (by rw [h1]; exact h2)
    refine List.mem_flatMap.2 ⟨p, hd.1, List.mem_flatMap.2 ⟨c, hd.2, ?_⟩⟩
    unfold psF
    rw [if_pos (by rw [h1]; exact h2), h1]
    exact List.mem_singleton.2 rfl
theorem posC_mem (l : List Db) (x : SK × Int) : x ∈ posC l ↔ psI l x.1 = x.2 ∧ x.2 ≠ 0 := by
  unfold posC
  constructor
  · intro h
    obtain ⟨c, _, h⟩ := List.mem_flatMap.1 h
    obtain ⟨p, _, h⟩ := List.mem_flatMap.1 h
    obtain ⟨rfl, h0⟩ := psF_in h
    exact ⟨rfl, h0⟩
  · rintro ⟨h1, h2⟩
    obtain ⟨⟨p, c⟩, n⟩ := x
    dsimp only at *
    have hd := pos_dom (l := l) (s := (p, c)) (by rw [h1]; exact h2)
    refine List.mem_flatMap.2 ⟨c, hd.2, List.mem_flatMap.2 ⟨p, hd.1, ?_⟩⟩
    unfold psF
    rw [if_pos (by rw [h1]; exact h2), h1]
    exact List.mem_singleton.2 rfl
def ltN (a b : SK) : Bool := lts a.1 b.1 || (decide (a.1 = b.1) && lts a.2 b.2)
def ltC (a b : SK) : Bool := lts a.2 b.2 || (decide (a.2 = b.2) && lts a.1 b.1)
theorem posN_sorted (l : List Db) : (posN l).Pairwise fun a b => ltN a.1 b.1 = true := by
  have hc := (curN_spec l).1
  have hp := (parN_spec l).1
  refine fm_pw hp (fun p _ => fm_pw hc (fun c _ => ?_) (fun c c' hcc x hx y hy => ?_)) (fun p p' hpp x hx y hy => ?_)
  · unfold psF
    split <;> simp
  · obtain ⟨rfl, _⟩ := psF_in hx
    obtain ⟨rfl, _⟩ := psF_in hy
    simp [ltN, hcc]
  · obtain ⟨c, _, hx⟩ := List.mem_flatMap.1 hx
    obtain ⟨c', _, hy⟩ := List.mem_flatMap.1 hy
    obtain ⟨rfl, _⟩ := psF_in hx
    obtain ⟨rfl, _⟩ := psF_in hy
    simp [ltN, hpp]
theorem posC_sorted (l : List Db) : (posC l).Pairwise fun a b => ltC a.1 b.1 = true := by
  have hc := (curN_spec l).1
  have hp := (parN_spec l).1
  refine fm_pw hc (fun c _ => fm_pw hp (fun p _ => ?_) (fun p p' hpp x hx y hy => ?_)) (fun c c' hcc x hx y hy => ?_)
  · unfold psF
    split <;> simp
  · obtain ⟨rfl, _⟩ := psF_in hx
    obtain ⟨rfl, _⟩ := psF_in hy
    simp [ltC, hpp]
  · obtain ⟨p, _, hx⟩ := List.mem_flatMap.1 hx
    obtain ⟨p', _, hy⟩ := List.mem_flatMap.1 hy
    obtain ⟨rfl, _⟩ := psF_in hx
    obtain ⟨rfl, _⟩ := psF_in hy
    simp [ltC, hcc]
theorem ltN_irrefl (a : SK) : ltN a a = false := by simp [ltN, lts_irrefl]
theorem ltC_irrefl (a : SK) : ltC a a = false := by simp [ltC, lts_irrefl]
theorem ltN_trans {a b c : SK} (h : ltN a b = true) (k : ltN b c = true) : ltN a c = true := by
  unfold ltN at *
  rw [Bool.or_eq_true, Bool.and_eq_true, decide_eq_true_eq] at *
  rcases h with h | ⟨h1, h2⟩
  · rcases k with k | ⟨k1, _⟩
    · exact .inl (lts_trans h k)
    · rw [← k1]; exact .inl h
  · rw [h1]
    rcases k with k | ⟨k1, k2⟩
    · exact .inl k
    · exact .inr ⟨k1, lts_trans h2 k2⟩
theorem ltN_asymm {a b : SK} (h : ltN a b = true) : ltN b a = false := by
  cases hq : ltN b a with
  | false => rfl
  | true => have := ltN_trans h hq; rw [ltN_irrefl] at this; cases this
theorem ltN_tri {a b : SK} (h : ltN a b = false) (k : ltN b a = false) : a = b := by
  unfold ltN at *
  rw [Bool.or_eq_false_iff, Bool.and_eq_false_iff, decide_eq_false_iff_not] at *
  have e := lts_tri h.1 k.1
  refine Prod.ext e ?_
  have h2 : lts a.2 b.2 = false := h.2.resolve_left (fun q => q e)
  have k2 : lts b.2 a.2 = false := k.2.resolve_left (fun q => q e.symm)
  exact lts_tri h2 k2
theorem ltN_ntrans {a b c : SK} (h : ltN a b = false) (k : ltN b c = false) : ltN a c = false := by
  cases hq : ltN a c with
  | false => rfl
  | true =>
    cases hab : ltN b a with
    | true => have := ltN_trans hab hq; rw [k] at this; cases this
    | false =>
      have e := ltN_tri h hab
      rw [e] at hq
      rw [hq] at k
      cases k
def swK (a : SK) : SK := (a.2, a.1)
theorem ltC_sw (a b : SK) : ltC a b = ltN (swK a) (swK b) := rfl
/-- two rows in strict order with the same members are one -/
theorem sorted_one {α : Type} {lt : α → α → Bool} (hi : ∀ a, lt a a = false) (ht : ∀ {a b c}, lt a b = true → lt b c = true → lt a c = true) : ∀ {a b : List α}, a.Pairwise (fun x y => lt x y = true) → b.Pairwise (fun x y => lt x y = true) → (∀ x, x ∈ a ↔ x ∈ b) → a = b
  | [], [], _, _, _ => rfl
  | [], y :: b, _, _, h => by have := (h y).2 List.mem_cons_self; cases this
  | x :: a, [], _, _, h => by have := (h x).1 List.mem_cons_self; cases this
  | x :: a, y :: b, ha, hb, h => by
    rw [List.pairwise_cons] at ha hb
    have hxy : x = y := by
      rcases List.mem_cons.1 ((h x).1 List.mem_cons_self) with q | q
      · exact q
      · rcases List.mem_cons.1 ((h y).2 List.mem_cons_self) with r | r
        · exact r.symm
        · have := ht (hb.1 x q) (ha.1 y r)
          rw [hi] at this; cases this
    subst hxy
    congr 1
    refine sorted_one hi ht ha.2 hb.2 (fun z => ?_)
    constructor
    · intro hz
      rcases List.mem_cons.1 ((h z).1 (List.mem_cons_of_mem _ hz)) with q | q
      · have := ha.1 z hz
        rw [q, hi] at this; cases this
      · exact q
    · intro hz
      rcases List.mem_cons.1 ((h z).2 (List.mem_cons_of_mem _ hz)) with q | q
      · have := hb.1 z hz
        rw [q, hi] at this; cases this
      · exact q
/-- what the map of sums holds, without what is 0, is the document's positions, in any order -/
theorem pos_perm {l : List Db} {v : List (SK × Int)} (hv : v.Perm (nzP (psM l))) : (posN l).Perm v ∧ (posC l).Perm v := by
  obtain ⟨h1, h2⟩ := psM_spec l
  have nM : (psM l).Nodup := (List.pairwise_map.1 h1).imp (fun h e => h (congrArg _ e))
  have nV : (nzP (psM l)).Nodup := List.Pairwise.filter _ nM
  have hm : ∀ x : SK × Int, x ∈ nzP (psM l) ↔ psI l x.1 = x.2 ∧ x.2 ≠ 0 := fun x => by
    unfold nzP
    rw [List.mem_filter, decide_eq_true_eq]
    constructor
    · rintro ⟨a, b⟩
      refine ⟨?_, b⟩
      rw [← h2, aget_of_mem h1 (show (x.1, x.2) ∈ psM l from a)]; rfl
    · rintro ⟨a, b⟩
      refine ⟨?_, b⟩
      rw [← h2] at a
      cases hq : aget x.1 (psM l) with
      | none => rw [hq] at a; exact absurd a.symm b
      | some n =>
        rw [hq, Option.getD_some] at a
        have := aget_mem hq
        rw [a] at this
        exact this
  have n1 : (posN l).Nodup := (posN_sorted l).imp (fun {a b} h e => by rw [e, ltN_irrefl] at h; cases h)
  have n2 : (posC l).Nodup := (posC_sorted l).imp (fun {a b} h e => by rw [e, ltC_irrefl] at h; cases h)
  refine ⟨((List.perm_ext_iff_of_nodup n1 nV).2 (fun x => ?_)).trans hv.symm, ((List.perm_ext_iff_of_nodup n2 nV).2 (fun x => ?_)).trans hv.symm⟩
  · rw [posN_mem, hm]
  · rw [posC_mem, hm]
theorem posN_congr {a b : List Db} (h : ∀ s, psI a s = psI b s) : posN a = posN b := by
  have e := @sorted_one (SK × Int) (fun a b => ltN a.1 b.1) (fun a => ltN_irrefl _) (fun h k => ltN_trans h k) (posN a) (posN b) (posN_sorted a) (posN_sorted b)
  exact e (fun x => by rw [posN_mem, posN_mem, h])
theorem posN_len {l : List Db} : (posN l).length ≤ 2 * l.length := by
  rw [(pos_perm (List.Perm.refl _)).1.length_eq]
  exact Nat.le_trans (List.length_filter_le _ _) (psM_len l)
end Go.Proofs.YtofdnkgieigncaaGreat
namespace Go.Proofs.YtofdnkgieigncaaGreat
open Go.SL
/-! ### netted all at once: plain -/
abbrev PA := ByteArray × Int
/-- who owes first pays who is owed first the lesser of both -/
def setl : Nat → List PA → List PA → List (ByteArray × ByteArray × Int)
  | 0, _, _ => []
  | _, [], _ => []
  | _, _, [] => []
  | f + 1, (p, x) :: D, (q, y) :: C => if x < y then (p, q, x) :: setl f D ((q, y - x) :: C) else if x = y then (p, q, x) :: setl f D C else (p, q, y) :: setl f ((p, x - y) :: D) C
theorem setl_nilL (f : Nat) (C : List PA) : setl f [] C = [] := by cases f <;> cases C <;> rfl
theorem setl_nilR (f : Nat) (D : List PA) : setl f D [] = [] := by cases f <;> cases D <;> rfl
theorem setl_fuel : ∀ (f : Nat) (D C : List PA), D.length + C.length ≤ f → setl f D C = setl (D.length + C.length) D C
  | f, [], C, _ => by rw [setl_nilL, setl_nilL]
  | f, p :: D, [], _ => by rw [setl_nilR, setl_nilR]
  | 0, p :: D, q :: C, h => by simp at h
  | f + 1, (p, x) :: D, (q, y) :: C, h => by
    rw [List.length_cons, List.length_cons] at h
    have e : (((p, x) :: D).length + ((q, y) :: C).length) = (D.length + C.length + 1) + 1 := by rw [List.length_cons, List.length_cons]; omega
    rw [e]
    unfold setl
    have h1 := setl_fuel f D ((q, y - x) :: C) (by rw [List.length_cons]; omega)
    have h2 := setl_fuel f D C (by omega)
    have h3 := setl_fuel f ((p, x - y) :: D) C (by rw [List.length_cons]; omega)
    have g1 := setl_fuel (D.length + C.length + 1) D ((q, y - x) :: C) (by rw [List.length_cons]; omega)
    have g2 := setl_fuel (D.length + C.length + 1) D C (by omega)
    have g3 := setl_fuel (D.length + C.length + 1) ((p, x - y) :: D) C (by rw [List.length_cons]; omega)
    rw [h1, h2, h3, g1, g2, g3]
def set2 (D C : List PA) : List (ByteArray × ByteArray × Int) := setl (D.length + C.length) D C
theorem set2_nilL (C : List PA) : set2 [] C = [] := setl_nilL _ _
theorem set2_nilR (D : List PA) : set2 D [] = [] := setl_nilR _ _
theorem set2_cons (p q : ByteArray) (x y : Int) (D C : List PA) : set2 ((p, x) :: D) ((q, y) :: C) = if x < y then (p, q, x) :: set2 D ((q, y - x) :: C) else if x = y then (p, q, x) :: set2 D C else (p, q, y) :: set2 ((p, x - y) :: D) C := by
  have e : set2 ((p, x) :: D) ((q, y) :: C) = setl (D.length + C.length + 1 + 1) ((p, x) :: D) ((q, y) :: C) := by
    unfold set2; rw [List.length_cons, List.length_cons]; congr 1; omega
  rw [e]
  conv => lhs; unfold setl
  rw [setl_fuel (D.length + C.length + 1) D ((q, y - x) :: C) (by rw [List.length_cons]; omega), setl_fuel (D.length + C.length + 1) D C (by omega), setl_fuel (D.length + C.length + 1) ((p, x - y) :: D) C (by rw [List.length_cons]; omega)]
  rfl
theorem set2_ind {M : List PA → List PA → Prop} (hL : ∀ C, M [] C) (hR : ∀ D, M D []) (h1 : ∀ p q x y D C, x < y → M D ((q, y - x) :: C) → M ((p, x) :: D) ((q, y) :: C))
    (h2 : ∀ p q x D C, M D C → M ((p, x) :: D) ((q, x) :: C)) (h3 : ∀ p q x y D C, y < x → M ((p, x - y) :: D) C → M ((p, x) :: D) ((q, y) :: C)) (D C : List PA) : M D C := by
  have key : ∀ n, ∀ D C : List PA, D.length + C.length ≤ n → M D C := by
    intro n
    induction n with
    | zero =>
      intro D C h
      cases D with
      | nil => exact hL C
      | cons d D => simp at h
    | succ n ih =>
      intro D C h
      cases D with
      | nil => exact hL C
      | cons d D =>
        cases C with
        | nil => exact hR _
        | cons c C =>
          obtain ⟨p, x⟩ := d
          obtain ⟨q, y⟩ := c
          simp only [List.length_cons] at h
          by_cases hlt : x < y
          · exact h1 p q x y D C hlt (ih _ _ (by rw [List.length_cons]; omega))
          · by_cases he : x = y
            · subst he; exact h2 p q x D C (ih _ _ (by omega))
            · exact h3 p q x y D C (by omega) (ih _ _ (by rw [List.length_cons]; omega))
  exact key _ D C (Nat.le_refl _)
def sumP (l : List PA) : Int := (l.map (·.2)).sum
theorem sumP_cons (a : PA) (l : List PA) : sumP (a :: l) = a.2 + sumP l := by simp [sumP]
def posP (l : List PA) : Prop := ∀ a ∈ l, 1 ≤ a.2
theorem sumP_nn {l : List PA} (h : posP l) : 0 ≤ sumP l := by
  induction l with
  | nil => simp [sumP]
  | cons a l ih =>
    rw [sumP_cons]
    have := h a List.mem_cons_self
    have := ih (fun x hx => h x (List.mem_cons_of_mem _ hx))
    omega
theorem sumP_zero {l : List PA} (h : posP l) (hz : sumP l = 0) : l = [] := by
  cases l with
  | nil => rfl
  | cons a l =>
    rw [sumP_cons] at hz
    have := h a List.mem_cons_self
    have := sumP_nn (l := l) (fun x hx => h x (List.mem_cons_of_mem _ hx))
    omega
def sumT (l : List (ByteArray × ByteArray × Int)) : Int := (l.map (·.2.2)).sum
theorem sumT_cons (a : ByteArray × ByteArray × Int) (l : List (ByteArray × ByteArray × Int)) : sumT (a :: l) = a.2.2 + sumT l := by simp [sumT]
theorem posP_cons {a : PA} {l : List PA} (h : 1 ≤ a.2) (k : posP l) : posP (a :: l) := fun x hx => by
  rcases List.mem_cons.1 hx with q | q
  · rw [q]; exact h
  · exact k x q
/-- what the members of a row have -/
theorem set2_mem (D C : List PA) : posP D → posP C → ∀ t ∈ set2 D C, (∃ x, (t.1, x) ∈ D ∧ t.2.2 ≤ x) ∧ (∃ y, (t.2.1, y) ∈ C ∧ t.2.2 ≤ y) ∧ 1 ≤ t.2.2 := by
  refine set2_ind (M := fun D C => posP D → posP C → ∀ t ∈ set2 D C, (∃ x, (t.1, x) ∈ D ∧ t.2.2 ≤ x) ∧ (∃ y, (t.2.1, y) ∈ C ∧ t.2.2 ≤ y) ∧ 1 ≤ t.2.2) ?_ ?_ ?_ ?_ ?_ D C
  · intro C _ _ t ht; rw [set2_nilL] at ht; cases ht
  · intro D _ _ t ht; rw [set2_nilR] at ht; cases ht
  · intro p q x y D C hxy ih hD hC t ht
    rw [set2_cons, if_pos hxy] at ht
    have hx := hD (p, x) List.mem_cons_self
    have hy := hC (q, y) List.mem_cons_self
    dsimp only at hx hy
    rcases List.mem_cons.1 ht with r | r
    · rw [r]; exact ⟨⟨x, List.mem_cons_self, Int.le_refl _⟩, ⟨y, List.mem_cons_self, by dsimp only; omega⟩, hx⟩
    · obtain ⟨⟨x', a1, a2⟩, ⟨y', b1, b2⟩, c⟩ := ih (fun z hz => hD z (List.mem_cons_of_mem _ hz)) (posP_cons (by dsimp only; omega) (fun z hz => hC z (List.mem_cons_of_mem _ hz))) t r
      refine ⟨⟨x', List.mem_cons_of_mem _ a1, a2⟩, ?_, c⟩
      rcases List.mem_cons.1 b1 with s | s
      · obtain ⟨s1, s2⟩ := Prod.mk.inj s
        exact ⟨y, by rw [s1]; exact List.mem_cons_self, by omega⟩
      · exact ⟨y', List.mem_cons_of_mem _ s, b2⟩
  · intro p q x D C ih hD hC t ht
    rw [set2_cons, if_neg (by omega), if_pos rfl] at ht
    have hx := hD (p, x) List.mem_cons_self
    dsimp only at hx
    rcases List.mem_cons.1 ht with r | r
    · rw [r]; exact ⟨⟨x, List.mem_cons_self, Int.le_refl _⟩, ⟨x, List.mem_cons_self, Int.le_refl _⟩, hx⟩
    · obtain ⟨⟨x', a1, a2⟩, ⟨y', b1, b2⟩, c⟩ := ih (fun z hz => hD z (List.mem_cons_of_mem _ hz)) (fun z hz => hC z (List.mem_cons_of_mem _ hz)) t r
      exact ⟨⟨x', List.mem_cons_of_mem _ a1, a2⟩, ⟨y', List.mem_cons_of_mem _ b1, b2⟩, c⟩
  · intro p q x y D C hxy ih hD hC t ht
    rw [set2_cons, if_neg (by omega), if_neg (by omega)] at ht
    have hx := hD (p, x) List.mem_cons_self
    have hy := hC (q, y) List.mem_cons_self
    dsimp only at hx hy
    rcases List.mem_cons.1 ht with r | r
    · rw [r]; exact ⟨⟨x, List.mem_cons_self, by dsimp only; omega⟩, ⟨y, List.mem_cons_self, Int.le_refl _⟩, hy⟩
    · obtain ⟨⟨x', a1, a2⟩, ⟨y', b1, b2⟩, c⟩ := ih (posP_cons (by dsimp only; omega) (fun z hz => hD z (List.mem_cons_of_mem _ hz))) (fun z hz => hC z (List.mem_cons_of_mem _ hz)) t r
      refine ⟨?_, ⟨y', List.mem_cons_of_mem _ b1, b2⟩, c⟩
      rcases List.mem_cons.1 a1 with s | s
      · obtain ⟨s1, s2⟩ := Prod.mk.inj s
        exact ⟨x, by rw [s1]; exact List.mem_cons_self, by omega⟩
      · exact ⟨x', List.mem_cons_of_mem _ s, a2⟩
/-- as much is paid as is owed -/
theorem set2_sum (D C : List PA) : posP D → posP C → sumP D = sumP C → sumT (set2 D C) = sumP D := by
  refine set2_ind (M := fun D C => posP D → posP C → sumP D = sumP C → sumT (set2 D C) = sumP D) ?_ ?_ ?_ ?_ ?_ D C
  · intro C _ _ _; rw [set2_nilL]; rfl
  · intro D _ _ h; rw [set2_nilR, h]; rfl
  · intro p q x y D C hxy ih hD hC h
    rw [set2_cons, if_pos hxy, sumT_cons, sumP_cons]
    rw [sumP_cons, sumP_cons] at h
    dsimp only at h ⊢
    rw [ih (fun z hz => hD z (List.mem_cons_of_mem _ hz)) (posP_cons (by dsimp only; omega) (fun z hz => hC z (List.mem_cons_of_mem _ hz))) (by rw [sumP_cons]; dsimp only; omega)]
  · intro p q x D C ih hD hC h
    rw [set2_cons, if_neg (by omega), if_pos rfl, sumT_cons, sumP_cons]
    rw [sumP_cons, sumP_cons] at h
    dsimp only at h ⊢
    rw [ih (fun z hz => hD z (List.mem_cons_of_mem _ hz)) (fun z hz => hC z (List.mem_cons_of_mem _ hz)) (by omega)]
  · intro p q x y D C hxy ih hD hC h
    rw [set2_cons, if_neg (by omega), if_neg (by omega), sumT_cons, sumP_cons]
    rw [sumP_cons, sumP_cons] at h
    dsimp only at h ⊢
    rw [ih (posP_cons (by dsimp only; omega) (fun z hz => hD z (List.mem_cons_of_mem _ hz))) (fun z hz => hC z (List.mem_cons_of_mem _ hz)) (by rw [sumP_cons]; dsimp only; omega), sumP_cons]
    dsimp only
    omega
def atP (l : List PA) (p : ByteArray) : Int := (l.map fun a => if a.1 = p then a.2 else 0).sum
theorem atP_cons (a : PA) (l : List PA) (p : ByteArray) : atP (a :: l) p = (if a.1 = p then a.2 else 0) + atP l p := by simp [atP]
def atT (l : List (ByteArray × ByteArray × Int)) (p : ByteArray) : Int := (l.map fun t => (if t.2.1 = p then t.2.2 else 0) - (if t.1 = p then t.2.2 else 0)).sum
theorem atT_cons (t : ByteArray × ByteArray × Int) (l : List (ByteArray × ByteArray × Int)) (p : ByteArray) : atT (t :: l) p = ((if t.2.1 = p then t.2.2 else 0) - (if t.1 = p then t.2.2 else 0)) + atT l p := by simp [atT]
/-- each one's position stays -/
theorem set2_at (p0 : ByteArray) (D C : List PA) : posP D → posP C → sumP D = sumP C → atT (set2 D C) p0 = atP C p0 - atP D p0 := by
  refine set2_ind (M := fun D C => posP D → posP C → sumP D = sumP C → atT (set2 D C) p0 = atP C p0 - atP D p0) ?_ ?_ ?_ ?_ ?_ D C
  · intro C _ hC h
    rw [sumP_zero hC h.symm, set2_nilL]; rfl
  · intro D hD _ h
    rw [sumP_zero hD h, set2_nilR]; rfl
  · intro p q x y D C hxy ih hD hC h
    have hD' : posP D := fun z hz => hD z (List.mem_cons_of_mem _ hz)
    have hC' : posP ((q, y - x) :: C) := posP_cons (by dsimp only; omega) (fun z hz => hC z (List.mem_cons_of_mem _ hz))
    rw [sumP_cons, sumP_cons] at h
    dsimp only at h
    have h' : sumP D = sumP ((q, y - x) :: C) := by rw [sumP_cons]; dsimp only; omega
    have := ih hD' hC' h'
    rw [set2_cons, if_pos hxy, atT_cons, this, atP_cons, atP_cons, atP_cons]
    dsimp only
    split <;> split <;> omega
  · intro p q x D C ih hD hC h
    have hD' : posP D := fun z hz => hD z (List.mem_cons_of_mem _ hz)
    have hC' : posP C := fun z hz => hC z (List.mem_cons_of_mem _ hz)
    rw [sumP_cons, sumP_cons] at h
    dsimp only at h
    have := ih hD' hC' (by omega)
    rw [set2_cons, if_neg (by omega), if_pos rfl, atT_cons, this, atP_cons, atP_cons]
    dsimp only
    split <;> split <;> omega
  · intro p q x y D C hxy ih hD hC h
    have hC' : posP C := fun z hz => hC z (List.mem_cons_of_mem _ hz)
    have hD' : posP ((p, x - y) :: D) := posP_cons (by dsimp only; omega) (fun z hz => hD z (List.mem_cons_of_mem _ hz))
    rw [sumP_cons, sumP_cons] at h
    dsimp only at h
    have h' : sumP ((p, x - y) :: D) = sumP C := by rw [sumP_cons]; dsimp only; omega
    have := ih hD' hC' h'
    rw [set2_cons, if_neg (by omega), if_neg (by omega), atT_cons, this, atP_cons, atP_cons, atP_cons]
    dsimp only
    split <;> split <;> omega
/-- who owes, and who is owed -/
def ngs (A : List PA) : List PA := A.filterMap fun a => if a.2 < 0 then some (a.1, -a.2) else none
def pss (A : List PA) : List PA := A.filterMap fun a => if 0 < a.2 then some a else none
theorem ngs_app (A B : List PA) : ngs (A ++ B) = ngs A ++ ngs B := List.filterMap_append
theorem pss_app (A B : List PA) : pss (A ++ B) = pss A ++ pss B := List.filterMap_append
theorem ngs_cons (a : PA) (A : List PA) : ngs (a :: A) = if a.2 < 0 then (a.1, -a.2) :: ngs A else ngs A := by
  unfold ngs; rw [List.filterMap_cons]; split <;> rename_i h <;> split at h <;> simp_all
theorem pss_cons (a : PA) (A : List PA) : pss (a :: A) = if 0 < a.2 then a :: pss A else pss A := by
  unfold pss; rw [List.filterMap_cons]; split <;> rename_i h <;> split at h <;> simp_all
theorem ngs_pos (A : List PA) : posP (ngs A) := fun a ha => by
  unfold ngs at ha
  obtain ⟨b, _, h⟩ := List.mem_filterMap.1 ha
  split at h
  · cases h; dsimp only; omega
  · cases h
theorem pss_pos (A : List PA) : posP (pss A) := fun a ha => by
  unfold pss at ha
  obtain ⟨b, _, h⟩ := List.mem_filterMap.1 ha
  split at h
  · cases h; omega
  · cases h
theorem ngs_none {A : List PA} (h : ∀ a ∈ A, 0 ≤ a.2) : ngs A = [] := by
  unfold ngs
  rw [List.filterMap_eq_nil_iff]
  intro a ha
  have := h a ha
  rw [if_neg (by omega)]
theorem pss_none {A : List PA} (h : ∀ a ∈ A, a.2 ≤ 0) : pss A = [] := by
  unfold pss
  rw [List.filterMap_eq_nil_iff]
  intro a ha
  have := h a ha
  rw [if_neg (by omega)]
theorem ngs_pss_sum (A : List PA) : sumP (pss A) - sumP (ngs A) = sumP A := by
  induction A with
  | nil => rfl
  | cons a A ih =>
    rw [ngs_cons, pss_cons, sumP_cons]
    split <;> split
    · rename_i h1 h2; exfalso; omega
    · rw [sumP_cons]; omega
    · rw [sumP_cons]; omega
    · omega
theorem ngs_pss_at (A : List PA) (p : ByteArray) : atP (pss A) p - atP (ngs A) p = atP A p := by
  induction A with
  | nil => rfl
  | cons a A ih =>
    rw [ngs_cons, pss_cons, atP_cons]
    split <;> split
    · rename_i h1 h2; exfalso; omega
    · rw [atP_cons]; split <;> omega
    · rw [atP_cons]; split <;> omega
    · split <;> omega
theorem ngs_pss_len (A : List PA) : (ngs A).length + (pss A).length ≤ A.length := by
  induction A with
  | nil => simp [ngs, pss]
  | cons a A ih =>
    rw [ngs_cons, pss_cons, List.length_cons]
    split <;> split <;> (try simp only [List.length_cons]) <;> omega
theorem split_at {α : Type} {l : List α} {k : Nat} {a : α} (ha : l[k]? = some a) : l = l.take k ++ a :: l.drop (k + 1) := by
  obtain ⟨hlt, rfl⟩ := List.getElem?_eq_some_iff.1 ha
  rw [← List.drop_eq_getElem_cons hlt, List.take_append_drop]
theorem set_split {α : Type} {l : List α} {k : Nat} {a : α} (b : α) (ha : l[k]? = some a) : l.set k b = l.take k ++ b :: l.drop (k + 1) := by
  obtain ⟨hlt, rfl⟩ := List.getElem?_eq_some_iff.1 ha
  rw [List.set_eq_take_append_cons_drop, if_pos hlt]
/-- a row while it is settled: from and to stand at the first that owes and is owed -/
structure SetSt (A : List PA) (f t : Nat) : Prop where
  bf : ∀ a ∈ A.take f, 0 ≤ a.2
  bt : ∀ a ∈ A.take t, a.2 ≤ 0
theorem SetSt.outF {A : List PA} {f t : Nat} (h : SetSt A f t) (hf : A.length ≤ f) : ngs A = [] := by
  have := h.bf
  rw [List.take_of_length_le hf] at this
  exact ngs_none this
theorem SetSt.outT {A : List PA} {f t : Nat} (h : SetSt A f t) (hf : A.length ≤ t) : pss A = [] := by
  have := h.bt
  rw [List.take_of_length_le hf] at this
  exact pss_none this
theorem SetSt.stepF {A : List PA} {f t : Nat} (h : SetSt A f t) {a : PA} (ha : A[f]? = some a) (hn : 0 ≤ a.2) : SetSt A (f + 1) t := by
  refine ⟨fun x hx => ?_, h.bt⟩
  rw [List.take_add_one, ha] at hx
  rcases List.mem_append.1 hx with q | q
  · exact h.bf x q
  · simp at q; rw [q]; exact hn
theorem SetSt.stepT {A : List PA} {f t : Nat} (h : SetSt A f t) {a : PA} (ha : A[t]? = some a) (hn : a.2 ≤ 0) : SetSt A f (t + 1) := by
  refine ⟨h.bf, fun x hx => ?_⟩
  rw [List.take_add_one, ha] at hx
  rcases List.mem_append.1 hx with q | q
  · exact h.bt x q
  · simp at q; rw [q]; exact hn
def payI (x y : Int) : Int := if x < y then x else y
/-- one payment -/
theorem SetSt.pay {A : List PA} {f t : Nat} (h : SetSt A f t) {p q : ByteArray} {x y : Int} (hf : A[f]? = some (p, x)) (ht : A[t]? = some (q, y)) (hx : x < 0) (hy : 0 < y) :
    SetSt ((A.set f (p, x + payI (-x) y)).set t (q, y - payI (-x) y)) f t ∧ set2 (ngs A) (pss A) = (p, q, payI (-x) y) :: set2 (ngs ((A.set f (p, x + payI (-x) y)).set t (q, y - payI (-x) y))) (pss ((A.set f (p, x + payI (-x) y)).set t (q, y - payI (-x) y))) := by
  have hne : f ≠ t := fun e => by rw [e, ht] at hf; cases hf; omega
  generalize hn : payI (-x) y = n
  have n0 : 1 ≤ n ∧ n ≤ -x ∧ n ≤ y ∧ (n = -x ∨ n = y) := by rw [← hn]; unfold payI; split <;> omega
  have ht1 : (A.set f (p, x + n))[t]? = some (q, y) := by rw [List.getElem?_set_ne hne]; exact ht
  have hf1 : (A.set t (q, y - n))[f]? = some (p, x) := by rw [List.getElem?_set_ne (fun e => hne e.symm)]; exact hf
  have hcomm : (A.set f (p, x + n)).set t (q, y - n) = (A.set t (q, y - n)).set f (p, x + n) := List.set_comm _ _ hne
  -- negs: first of A is f's
  have e1 : ngs A = (p, -x) :: ngs (A.drop (f + 1)) := by
    conv => lhs; rw [split_at hf]
    rw [ngs_app, ngs_none h.bf, ngs_cons, if_pos hx]; rfl
  have e2 : pss A = (q, y) :: pss (A.drop (t + 1)) := by
    conv => lhs; rw [split_at ht]
    rw [pss_app, pss_none h.bt, pss_cons, if_pos hy]; rfl
  have same1 : ngs (A.set t (q, y - n)) = ngs A := by
    rw [set_split _ ht]
    conv => rhs; rw [split_at ht]
    rw [ngs_app, ngs_app, ngs_cons, ngs_cons, if_neg (by dsimp only; omega), if_neg (by dsimp only; omega)]
  have same2 : pss (A.set f (p, x + n)) = pss A := by
    rw [set_split _ hf]
    conv => rhs; rw [split_at hf]
    rw [pss_app, pss_app, pss_cons, pss_cons, if_neg (by dsimp only; omega), if_neg (by dsimp only; omega)]
  have tk1 : ∀ a ∈ (A.set t (q, y - n)).take f, 0 ≤ a.2 := fun a ha => by
    rw [List.take_set] at ha
    by_cases hlt : t < (A.take f).length
    · rcases List.mem_or_eq_of_mem_set ha with r | r
      · exact h.bf a r
      · rw [r]; dsimp only; omega
    · rw [List.set_eq_of_length_le (by omega)] at ha; exact h.bf a ha
  have tk2 : ∀ a ∈ (A.set f (p, x + n)).take t, a.2 ≤ 0 := fun a ha => by
    rw [List.take_set] at ha
    by_cases hlt : f < (A.take t).length
    · rcases List.mem_or_eq_of_mem_set ha with r | r
      · exact h.bt a r
      · rw [r]; dsimp only; omega
    · rw [List.set_eq_of_length_le (by omega)] at ha; exact h.bt a ha
  have g1 : ngs ((A.set f (p, x + n)).set t (q, y - n)) = if x + n < 0 then (p, -(x + n)) :: ngs (A.drop (f + 1)) else ngs (A.drop (f + 1)) := by
    have q1 : ngs (A.set t (q, y - n)) = (p, -x) :: ngs ((A.set t (q, y - n)).drop (f + 1)) := by
      conv => lhs; rw [split_at hf1]
      rw [ngs_app, ngs_none tk1, ngs_cons, if_pos hx]; rfl
    rw [same1, e1] at q1
    have q2 := (List.cons.inj q1).2
    rw [hcomm, set_split _ hf1, ngs_app, ngs_none tk1, List.nil_append, ngs_cons, q2]
  have g2 : pss ((A.set f (p, x + n)).set t (q, y - n)) = if 0 < y - n then (q, y - n) :: pss (A.drop (t + 1)) else pss (A.drop (t + 1)) := by
    have q1 : pss (A.set f (p, x + n)) = (q, y) :: pss ((A.set f (p, x + n)).drop (t + 1)) := by
      conv => lhs; rw [split_at ht1]
      rw [pss_app, pss_none tk2, pss_cons, if_pos hy]; rfl
    rw [same2, e2] at q1
    have q2 := (List.cons.inj q1).2
    rw [set_split _ ht1, pss_app, pss_none tk2, List.nil_append, pss_cons, q2]
  refine ⟨⟨fun a ha => ?_, fun a ha => ?_⟩, ?_⟩
  · rw [hcomm, List.take_set_of_le (Nat.le_refl f)] at ha; exact tk1 a ha
  · rw [List.take_set_of_le (Nat.le_refl t)] at ha; exact tk2 a ha
  · rw [e1, e2, set2_cons, g1, g2]
    rcases Int.lt_trichotomy (-x) y with hlt | heq | hgt
    · have hnx : n = -x := by rw [← hn]; unfold payI; rw [if_pos hlt]
      rw [if_pos hlt, if_neg (by omega), if_pos (by omega), hnx]
    · have hnx : n = -x := by omega
      rw [if_neg (by omega), if_pos heq, if_neg (by omega), if_neg (by omega), hnx]
    · have hnx : n = y := by omega
      rw [if_neg (by omega), if_neg (by omega), if_pos (by omega), if_neg (by omega), hnx]
      congr 3
      congr 1
      omega
/-- one currency's row: what each one has there that is not 0 -/
def rowC (l : List Db) (c : ByteArray) : List PA := (parN l).map fun p => (p, psI l (p, c))
def nz (A : List PA) : List PA := A.filter fun a => decide (a.2 ≠ 0)
theorem ngs_nz (A : List PA) : ngs (nz A) = ngs A := by
  induction A with
  | nil => rfl
  | cons a A ih =>
    unfold nz at *
    rw [List.filter_cons]
    by_cases h : a.2 = 0
    · rw [if_neg (by simp [h]), ih, ngs_cons, if_neg (by omega)]
    · rw [if_pos (by simp [h]), ngs_cons, ngs_cons, ih]
theorem pss_nz (A : List PA) : pss (nz A) = pss A := by
  induction A with
  | nil => rfl
  | cons a A ih =>
    unfold nz at *
    rw [List.filter_cons]
    by_cases h : a.2 = 0
    · rw [if_neg (by simp [h]), ih, pss_cons, if_neg (by omega)]
    · rw [if_pos (by simp [h]), pss_cons, pss_cons, ih]
def tagC (c : ByteArray) (r : List (ByteArray × ByteArray × Int)) : List Db := r.map fun t => ((c, t.1, t.2.1), t.2.2)
def setA (A : List PA) : List (ByteArray × ByteArray × Int) := set2 (ngs A) (pss A)
/-- netted all at once -/
def netN (l : List Db) : List Db := (curN l).flatMap fun c => tagC c (setA (rowC l c))
end Go.Proofs.YtofdnkgieigncaaGreat
namespace Go.Proofs.YtofdnkgieigncaaGreat
open Go.SL
/-! ### netted all at once: by groups; what it keeps: plain -/
def grp (A : List (SK × Int)) : List PA := A.map fun x => (x.1.1, x.2)
def netLf : Nat → List (SK × Int) → List Db
  | 0, _ => []
  | _, [] => []
  | f + 1, x :: r => tagC x.1.2 (setA (grp (x :: r.takeWhile fun y => decide (y.1.2 = x.1.2)))) ++ netLf f (r.dropWhile fun y => decide (y.1.2 = x.1.2))
theorem netLf_nil (f : Nat) : netLf f [] = [] := by cases f <;> rfl
theorem dropWhile_le {α : Type} (p : α → Bool) (l : List α) : (l.dropWhile p).length ≤ l.length := (List.dropWhile_sublist p).length_le
theorem netLf_fuel : ∀ (f : Nat) (P : List (SK × Int)), P.length ≤ f → netLf f P = netLf P.length P
  | f, [], _ => by rw [netLf_nil, netLf_nil]
  | 0, x :: r, h => by simp at h
  | f + 1, x :: r, h => by
    rw [List.length_cons] at h ⊢
    have h0 := dropWhile_le (fun y => decide (y.1.2 = x.1.2)) r
    unfold netLf
    rw [netLf_fuel f _ (by omega), netLf_fuel r.length _ h0]
def netL (P : List (SK × Int)) : List Db := netLf P.length P
theorem netL_nil : netL [] = [] := rfl
theorem netL_app {A B : List (SK × Int)} {c : ByteArray} (hA : ∀ x ∈ A, x.1.2 = c) (h0 : A ≠ []) (hB : ∀ x, B.head? = some x → x.1.2 ≠ c) : netL (A ++ B) = tagC c (setA (grp A)) ++ netL B := by
  cases A with
  | nil => exact absurd rfl h0
  | cons a A =>
    have ha : a.1.2 = c := hA a List.mem_cons_self
    have hp : ∀ x ∈ A, (fun y : SK × Int => decide (y.1.2 = c)) x = true := fun x hx => by dsimp only; rw [decide_eq_true_eq]; exact hA x (List.mem_cons_of_mem _ hx)
    have hB1 : B.takeWhile (fun y : SK × Int => decide (y.1.2 = c)) = [] ∧ B.dropWhile (fun y : SK × Int => decide (y.1.2 = c)) = B := by
      cases B with
      | nil => exact ⟨rfl, rfl⟩
      | cons b B =>
        have := hB b rfl
        exact ⟨by rw [List.takeWhile_cons, if_neg (by simpa using this)], by rw [List.dropWhile_cons, if_neg (by simpa using this)]⟩
    unfold netL
    rw [List.cons_append, List.length_cons]
    conv => lhs; unfold netLf
    rw [ha, List.takeWhile_append_of_pos hp, List.dropWhile_append_of_pos hp, hB1.1, hB1.2, List.append_nil, netLf_fuel _ _ (by rw [List.length_append]; omega)]
theorem netL_flat {R : ByteArray → List (SK × Int)} (hR : ∀ c, ∀ x ∈ R c, x.1.2 = c) : ∀ {C : List ByteArray}, C.Nodup → netL (C.flatMap R) = C.flatMap fun c => tagC c (setA (grp (R c)))
  | [], _ => rfl
  | c :: C, h => by
    rw [List.nodup_cons] at h
    rw [List.flatMap_cons, List.flatMap_cons, ← netL_flat hR h.2]
    by_cases h0 : R c = []
    · rw [h0]; rfl
    · refine netL_app (hR c) h0 (fun x hx e => ?_)
      have hm := List.mem_of_mem_head? (Option.mem_def.2 hx)
      obtain ⟨c', hc', hx'⟩ := List.mem_flatMap.1 hm
      rw [hR c' x hx'] at e
      exact h.1 (e ▸ hc')
theorem ssn_nodup {l : List ByteArray} (h : SSN l) : l.Nodup := h.imp (fun {a b} h e => by rw [e, lts_irrefl] at h; cases h)
theorem grp_row (l : List Db) (c : ByteArray) : grp ((parN l).flatMap fun p => psF l p c) = nz (rowC l c) := by
  unfold grp nz rowC
  generalize parN l = P
  induction P with
  | nil => rfl
  | cons p P ih =>
    rw [List.flatMap_cons, List.map_append, ih, List.map_cons, List.filter_cons]
    unfold psF
    by_cases h : psI l (p, c) = 0
    · rw [if_neg (by simp [h]), if_neg (by simp [h])]; rfl
    · rw [if_pos h, if_pos (by simp [h])]; rfl
theorem setA_nz (A : List PA) : setA (nz A) = setA A := by unfold setA; rw [ngs_nz, pss_nz]
theorem netN_L (l : List Db) : netN l = netL (posC l) := by
  unfold posC netN
  rw [netL_flat (R := fun c => (parN l).flatMap fun p => psF l p c) (fun c x hx => by
    obtain ⟨p, _, h⟩ := List.mem_flatMap.1 hx
    rw [(psF_in h).1]) (ssn_nodup (curN_spec l).1)]
  congr 1
  funext c
  rw [grp_row, setA_nz]
/-! sums over parties -/
instance decIn (a : ByteArray) (P : List ByteArray) : Decidable (a ∈ P) := @List.instDecidableMemOfLawfulBEq ByteArray instBEqOfDecidableEq inferInstance a P
def sumG {α : Type} (P : List α) (f : α → Int) : Int := (P.map f).sum
theorem sumG_cons {α : Type} (p : α) (P : List α) (f : α → Int) : sumG (p :: P) f = f p + sumG P f := by simp [sumG]
theorem sumG_add {α : Type} (P : List α) (f g : α → Int) : sumG P (fun p => f p + g p) = sumG P f + sumG P g := by
  induction P with
  | nil => rfl
  | cons p P ih => rw [sumG_cons, sumG_cons, sumG_cons, ih]; omega
theorem sumG_sub {α : Type} (P : List α) (f g : α → Int) : sumG P (fun p => f p - g p) = sumG P f - sumG P g := by
  induction P with
  | nil => rfl
  | cons p P ih => rw [sumG_cons, sumG_cons, sumG_cons, ih]; omega
theorem sumG_le {α : Type} {P : List α} {f g : α → Int} (h : ∀ p ∈ P, f p ≤ g p) : sumG P f ≤ sumG P g := by
  induction P with
  | nil => exact Int.le_refl _
  | cons p P ih =>
    rw [sumG_cons, sumG_cons]
    have := h p List.mem_cons_self
    have := ih (fun q hq => h q (List.mem_cons_of_mem _ hq))
    omega
theorem sumG_congr {α : Type} {P : List α} {f g : α → Int} (h : ∀ p ∈ P, f p = g p) : sumG P f = sumG P g := by
  unfold sumG; rw [List.map_congr_left h]
theorem sumG_zero {α : Type} (P : List α) : sumG P (fun _ => 0) = 0 := by
  induction P with
  | nil => rfl
  | cons p P ih => rw [sumG_cons, ih]; rfl
theorem sumG_one {α : Type} [DecidableEq α] (a : α) (n : Int) : ∀ {P : List α}, P.Nodup → sumG P (fun p => if a = p then n else 0) = if a ∈ P then n else 0
  | [], _ => rfl
  | p :: P, h => by
    rw [List.nodup_cons] at h
    rw [sumG_cons, sumG_one a n h.2]
    by_cases e : a = p
    · subst e
      rw [if_pos rfl, if_neg h.1, if_pos List.mem_cons_self]; omega
    · rw [if_neg e]
      by_cases hm : a ∈ P
      · rw [if_pos hm, if_pos (List.mem_cons_of_mem _ hm)]; omega
      · rw [if_neg hm, if_neg (by rw [List.mem_cons]; rintro (q | q); exact e q; exact hm q)]; omega
/-- all debts are between the parties P -/
def among (P : List ByteArray) (l : List Db) : Prop := ∀ d ∈ l, d.1.2.1 ∈ P ∧ d.1.2.2 ∈ P
theorem among_par (l : List Db) : among (parN l) l := fun d hd => ⟨((parN_spec l).2 _).2 ⟨d, hd, .inl rfl⟩, ((parN_spec l).2 _).2 ⟨d, hd, .inr rfl⟩⟩
theorem among_cons {P : List ByteArray} {d : Db} {l : List Db} : among P (d :: l) ↔ (d.1.2.1 ∈ P ∧ d.1.2.2 ∈ P) ∧ among P l := by unfold among; simp
theorem pos_sum (P : List ByteArray) (hP : P.Nodup) (c : ByteArray) : ∀ (l : List Db), among P l → sumG P (fun p => psI l (p, c)) = 0
  | [], _ => sumG_zero P
  | d :: l, h => by
    rw [among_cons] at h
    have e : (fun p => psI (d :: l) (p, c)) = fun p => ((if d.1.2.2 = p then (if d.1.1 = c then d.2 else 0) else 0) - (if d.1.2.1 = p then (if d.1.1 = c then d.2 else 0) else 0)) + psI l (p, c) := by
      funext p
      rw [psI_cons]
      unfold psD
      dsimp only
      by_cases hc : d.1.1 = c
      · simp [hc]
      · simp [hc]
    rw [e, sumG_add, sumG_sub, pos_sum P hP c l h.2, sumG_one _ _ hP, sumG_one _ _ hP, if_pos h.1.1, if_pos h.1.2]
    omega
theorem sumP_row (l : List Db) (c : ByteArray) : sumP (rowC l c) = 0 := by
  have := pos_sum (parN l) (ssn_nodup (parN_spec l).1) c l (among_par l)
  unfold sumP rowC
  rw [List.map_map]
  exact this
theorem set_sums (l : List Db) (c : ByteArray) : sumP (ngs (rowC l c)) = sumP (pss (rowC l c)) := by
  have := ngs_pss_sum (rowC l c)
  rw [sumP_row] at this
  omega
/-- the sum of a currency -/
def sumC (l : List Db) (c : ByteArray) : Int := (l.map fun d => if d.1.1 = c then d.2 else 0).sum
theorem sumC_cons (d : Db) (l : List Db) (c : ByteArray) : sumC (d :: l) c = (if d.1.1 = c then d.2 else 0) + sumC l c := by simp [sumC]
theorem sumC_app (a b : List Db) (c : ByteArray) : sumC (a ++ b) c = sumC a c + sumC b c := by simp [sumC]
theorem sumC_snoc (l : List Db) (d : Db) (c : ByteArray) : sumC (l ++ [d]) c = sumC l c + (if d.1.1 = c then d.2 else 0) := by rw [sumC_app]; simp [sumC]
theorem sumC_tag (c c' : ByteArray) (r : List (ByteArray × ByteArray × Int)) : sumC (tagC c r) c' = if c = c' then sumT r else 0 := by
  induction r with
  | nil => unfold tagC; split <;> rfl
  | cons t r ih =>
    unfold tagC at *
    rw [List.map_cons, sumC_cons, ih, sumT_cons]
    dsimp only
    split <;> omega
theorem psI_tag (c : ByteArray) (s : SK) (r : List (ByteArray × ByteArray × Int)) : psI (tagC c r) s = if c = s.2 then atT r s.1 else 0 := by
  induction r with
  | nil => unfold tagC; split <;> rfl
  | cons t r ih =>
    unfold tagC at *
    rw [List.map_cons, psI_cons, ih, atT_cons]
    unfold psD
    dsimp only
    by_cases h : c = s.2
    · simp [h]
    · simp [h]
theorem flat_only {f : ByteArray → Int} {g : ByteArray → List Db} (c : ByteArray) (F : List Db → Int) (h0 : F [] = 0) (ha : ∀ a b, F (a ++ b) = F a + F b) (hg : ∀ c', F (g c') = if c' = c then f c else 0) : ∀ {C : List ByteArray}, C.Nodup → F (C.flatMap g) = if c ∈ C then f c else 0
  | [], _ => h0
  | c' :: C, h => by
    rw [List.nodup_cons] at h
    rw [List.flatMap_cons, ha, hg, flat_only c F h0 ha hg h.2]
    by_cases e : c' = c
    · subst e
      rw [if_pos rfl, if_neg h.1, if_pos List.mem_cons_self]; omega
    · rw [if_neg e]
      by_cases hm : c ∈ C
      · rw [if_pos hm, if_pos (List.mem_cons_of_mem _ hm)]; omega
      · rw [if_neg hm, if_neg (by rw [List.mem_cons]; rintro (q | q); exact e q.symm; exact hm q)]; omega
theorem psI_out {l : List Db} {p c : ByteArray} (h : c ∉ curN l ∨ p ∉ parN l) : psI l (p, c) = 0 := by
  refine Decidable.byContradiction (fun hn => ?_)
  have := pos_dom (s := (p, c)) hn
  exact h.elim (fun q => q this.2) (fun q => q this.1)
theorem atP_row (l : List Db) (c p : ByteArray) : atP (rowC l c) p = psI l (p, c) := by
  have h : ∀ P : List ByteArray, P.Nodup → atP (P.map fun p => (p, psI l (p, c))) p = if p ∈ P then psI l (p, c) else 0 := by
    intro P hP
    have := sumG_one p (psI l (p, c)) hP
    rw [← this]
    unfold atP sumG
    rw [List.map_map]
    congr 1
    refine List.map_congr_left (fun q _ => ?_)
    dsimp only [Function.comp]
    by_cases e : q = p
    · subst e; rw [if_pos rfl]
    · rw [if_neg e, if_neg (fun x => e x.symm)]
  rw [rowC, h _ (ssn_nodup (parN_spec l).1)]
  split
  · rfl
  · rename_i hn
    exact (psI_out (.inr hn)).symm
/-- netted all at once each position stays -/
theorem netN_pos (l : List Db) (s : SK) : psI (netN l) s = psI l s := by
  obtain ⟨p, c⟩ := s
  have h := flat_only (f := fun c => psI l (p, c)) (g := fun c => tagC c (setA (rowC l c))) c (fun x => psI x (p, c)) rfl (fun a b => psI_app a b _) (fun c' => by
    rw [psI_tag]
    dsimp only
    by_cases e : c' = c
    · subst e
      rw [if_pos rfl, if_pos rfl]
      unfold setA
      rw [set2_at p _ _ (ngs_pos _) (pss_pos _) (set_sums l c'), ngs_pss_at, atP_row]
    · rw [if_neg e, if_neg e]) (ssn_nodup (curN_spec l).1)
  unfold netN
  rw [h]
  split
  · rfl
  · rename_i hn; exact (psI_out (.inl hn)).symm
theorem netN_sum (l : List Db) (c : ByteArray) : sumC (netN l) c = sumP (pss (rowC l c)) := by
  have h := flat_only (f := fun c => sumP (pss (rowC l c))) (g := fun c => tagC c (setA (rowC l c))) c (fun x => sumC x c) rfl (fun a b => sumC_app a b _) (fun c' => by
    rw [sumC_tag]
    by_cases e : c' = c
    · subst e
      rw [if_pos rfl, if_pos rfl]
      unfold setA
      rw [set2_sum _ _ (ngs_pos _) (pss_pos _) (set_sums l c'), set_sums]
    · rw [if_neg e, if_neg e]) (ssn_nodup (curN_spec l).1)
  unfold netN
  rw [h]
  split
  · rfl
  · rename_i hn
    have : pss (rowC l c) = [] := pss_none (fun a ha => by
      obtain ⟨p, _, rfl⟩ := List.mem_map.1 ha
      dsimp only
      rw [psI_out (.inl hn)]
      exact Int.le_refl _)
    rw [this]; rfl
def mx0 (n : Int) : Int := if 0 < n then n else 0
theorem pss_row (l : List Db) (c : ByteArray) : sumP (pss (rowC l c)) = sumG (parN l) (fun p => mx0 (psI l (p, c))) := by
  unfold rowC
  generalize parN l = P
  induction P with
  | nil => rfl
  | cons p P ih =>
    rw [List.map_cons, pss_cons, sumG_cons, ← ih]
    dsimp only [mx0]
    split
    · rw [sumP_cons]
    · omega
/-- no debts that leave the positions sum to less -/
theorem sum_least (P : List ByteArray) (hP : P.Nodup) (c : ByteArray) : ∀ (l : List Db), (∀ d ∈ l, 0 ≤ d.2) → sumG P (fun p => mx0 (psI l (p, c))) ≤ sumC l c
  | [], _ => by rw [sumG_congr (g := fun _ => 0) (fun p _ => by rfl), sumG_zero]; exact Int.le_refl _
  | d :: l, h => by
    have h0 := h d List.mem_cons_self
    have ih := sum_least P hP c l (fun x hx => h x (List.mem_cons_of_mem _ hx))
    have hle : sumG P (fun p => mx0 (psI (d :: l) (p, c))) ≤ sumG P (fun p => (if d.1.2.2 = p then (if d.1.1 = c then d.2 else 0) else 0) + mx0 (psI l (p, c))) := by
      refine sumG_le (fun p _ => ?_)
      rw [psI_cons]
      unfold psD mx0
      dsimp only
      by_cases hc : d.1.1 = c
      · by_cases h1 : d.1.2.2 = p <;> by_cases h2 : d.1.2.1 = p <;> simp only [hc, h1, h2, and_true, and_self, if_true, if_false] <;> split <;> split <;> omega
      · simp only [hc, and_false, if_false]
        split <;> split <;> split <;> omega
    rw [sumG_add, sumG_one _ _ hP] at hle
    rw [sumC_cons]
    have : (if d.1.2.2 ∈ P then (if d.1.1 = c then d.2 else 0) else 0) ≤ (if d.1.1 = c then d.2 else 0) := by
      split
      · exact Int.le_refl _
      · split <;> omega
    omega
theorem netN_least {l X : List Db} (hX : ∀ d ∈ X, 0 ≤ d.2) (h : ∀ s, psI X s = psI l s) (c : ByteArray) : sumC (netN l) c ≤ sumC X c := by
  rw [netN_sum, pss_row]
  refine Int.le_trans (Int.le_of_eq (sumG_congr (fun p _ => ?_))) (sum_least (parN l) (ssn_nodup (parN_spec l).1) c X hX)
  rw [h]
end Go.Proofs.YtofdnkgieigncaaGreat
