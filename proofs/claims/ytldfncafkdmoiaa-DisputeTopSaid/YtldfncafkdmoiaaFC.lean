import Derived.Test.YtldfncafkdmoiaaFB
import Derived.Test.YtldfncafkdmoiaaV0
namespace Go.Proofs.Ytldfncafkdmoiaa
open Go.SL
/-! ### awards: plain -/
def onT (t : ByteArray) (c : Cl) : Bool := decide (c.th = t)
def ofT (l : List Cl) (t : ByteArray) : List Cl := l.filter (onT t)
def stepM (T : List (ByteArray × Cl)) (c : Cl) : List (ByteArray × Cl) := match aget c.th T with
  | none => aput c.th c T
  | some o => if ltJ c o = true then aput c.th c T else T
def bestM (l : List Cl) : List (ByteArray × Cl) := l.foldl stepM []
theorem bestM_snoc (l : List Cl) (c : Cl) : bestM (l ++ [c]) = stepM (bestM l) c := by unfold bestM; rw [List.foldl_append]; rfl
theorem ofT_snoc (l : List Cl) (c : Cl) (t : ByteArray) : ofT (l ++ [c]) t = if c.th = t then ofT l t ++ [c] else ofT l t := by
  unfold ofT
  rw [List.filter_append]
  by_cases h : c.th = t
  · rw [if_pos h]; simp [onT, h]
  · rw [if_neg h]; simp [onT, h]
theorem bestM_spec (l : List Cl) : (akeys (bestM l)).Nodup ∧ ∀ t, aget t (bestM l) = bestC (ofT l t) := by
  induction l using list_snocC with
  | h0 => exact ⟨List.nodup_nil, fun t => rfl⟩
  | h1 l c ih =>
    rw [bestM_snoc]
    unfold stepM
    have hc := ih.2 c.th
    cases hq : aget c.th (bestM l) with
    | none =>
      dsimp only
      refine ⟨nodup_put ih.1, fun t => ?_⟩
      rw [aget_put, ofT_snoc]
      by_cases h : c.th = t
      · rw [if_pos h, if_pos h, bestC_snoc, ← h, ← hc, hq]; rfl
      · rw [if_neg h, if_neg h]; exact ih.2 t
    | some o =>
      dsimp only
      by_cases hb : ltJ c o = true
      · rw [if_pos hb]
        refine ⟨nodup_put ih.1, fun t => ?_⟩
        rw [aget_put, ofT_snoc]
        by_cases h : c.th = t
        · rw [if_pos h, if_pos h, bestC_snoc, ← h, ← hc, hq]
          show _ = if ltJ c o = true then some c else some o
          rw [if_pos hb]
        · rw [if_neg h, if_neg h]; exact ih.2 t
      · rw [if_neg hb]
        refine ⟨ih.1, fun t => ?_⟩
        rw [ofT_snoc]
        by_cases h : c.th = t
        · rw [if_pos h, bestC_snoc, ← h, ← hc, hq]
          show some o = if ltJ c o = true then some c else some o
          rw [if_neg hb]
        · rw [if_neg h]; exact ih.2 t
theorem mem_ofT {l : List Cl} {t : ByteArray} {c : Cl} : c ∈ ofT l t ↔ c ∈ l ∧ c.th = t := by
  unfold ofT
  rw [List.mem_filter]
  simp [onT]
theorem bestM_key {l : List Cl} {t : ByteArray} : t ∈ akeys (bestM l) ↔ ∃ c ∈ l, c.th = t := by
  have h := (bestM_spec l).2 t
  constructor
  · intro hk
    cases hq : aget t (bestM l) with
    | none => exact absurd hk (aget_none.1 hq)
    | some c =>
      rw [hq] at h
      obtain ⟨h1, _⟩ := ((bestC_spec _).2 c).1 h.symm
      exact ⟨c, (mem_ofT.1 h1).1, (mem_ofT.1 h1).2⟩
  · rintro ⟨c, h1, h2⟩
    apply Classical.byContradiction
    intro hk
    rw [aget_none.2 hk] at h
    have := (bestC_spec _).1.1 h.symm
    have hm : c ∈ ofT l t := mem_ofT.2 ⟨h1, h2⟩
    rw [this] at hm
    cases hm
abbrev Aw := ByteArray × ByteArray
def awE (x : Aw) : List D := [.sc (.string x.1), .sc (.string x.2)]
def zC : Cl := ⟨ByteArray.empty, ByteArray.empty, 0, 0, 0⟩
def thingsL (l : List Cl) : List ByteArray := sortS (akeys (bestM l))
def awOf (l : List Cl) (t : ByteArray) : Aw := (t, ((aget t (bestM l)).getD zC).nm)
def awardL (l : List Cl) : List Aw := (thingsL l).map (awOf l)
/-! #### the document's award -/
end Go.Proofs.Ytldfncafkdmoiaa
