/- TopMature: any arguments. -/
import Derived.Test.YtofdnkgieigncaaGreatMI
import Derived.Test.YtofdnkgieigncaaGreatMJ
namespace Go.Proofs.YtofdnkgieigncaaGreat
open Go.SL
theorem topMature_ac (R H : List Int) (sum days F num den : Nat) (base : Bool) (hR : R.length ≤ 140737488351232) (hH : H.length ≤ 140737488351232) (h1 : sum < 4294967296) (hdy : days < 65536) (h2 : F < 65536) (h3 : num < 256) (h4 : den < 256) : AC Tryz.prog 5 [calA R H, .d (.sc (.int .u32 (sum : Int))), .d (.sc (.int .u16 (days : Int))), .d (.sc (.int .u16 (F : Int))), .d (.sc (.int .u8 (num : Int))), .d (.sc (.int .u8 (den : Int))), .d (.sc (.bool base))] [] [] (fun r _ => r = .d (.sc (.bool true))) := by
  by_cases h0 : R.length ≤ 10 ∧ H.length ≤ 30 ∧ calB R H = true
  · obtain ⟨g1, g2, g3⟩ := h0
    have hf : MatF sum days F num den (1 + days % 1000) (1 + sum) (1 + den) := ⟨h1, h2, h3, h4, by omega, by omega, by omega⟩
    cases hx : nextD R H (F + (1 + days % 1000)) with
    | none => exact matLate_ac R H sum days F num den base _ _ _ hf hdy g1 g2 g3 hx
    | some v =>
      have hn := nxF_some hx
      obtain ⟨u, rfl⟩ : ∃ u : Nat, v = (u : Int) := ⟨v.toNat, by omega⟩
      have hu : u ≤ 1048576 := by have := Nat.mod_lt days (show 1000 > 0 by omega); omega
      cases base with
      | true => exact matYesT_ac R H sum days F num den _ _ _ u hf hdy g1 g2 g3 hx (by omega) hu hn.2.2
      | false => exact matYesF_ac R H sum days F num den _ _ _ u hf hdy g1 g2 g3 hx (by omega) hu hn.2.2
  · exact matNo_ac R H sum days F num den base hR hH h0
end Go.Proofs.YtofdnkgieigncaaGreat
