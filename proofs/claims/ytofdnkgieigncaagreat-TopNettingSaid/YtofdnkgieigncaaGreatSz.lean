/- The layer 'SL': own rows read by builtins: append(own, own...), own == nil. -/
import Derived.Test.YtofdnkgieigncaaGreatSy
import Derived.Test.YtofdnkgieigncaaGreatSv
namespace Go.SL
open Go.RowKit Go.MapKept
section
variable {P : Program} {O : Org} {T : Tab P} {Q : Exit → Env → Hp → Prop} {env : Env} {h : Hp} {all rest : List Oper} {o : Oper}
/-! ### maps whose order is not told -/
theorem Rel.same1 {a : Act} {w : World} {G : Ctx} {m : Nat} {o1 o2 : AObj} (r : Rel O env h a w G) (hh : hget h m = some o1) (hn1 : names o1 = []) (hn2 : names o2 = []) (ho : ObjRep w (XX O h G) G m o2) : Rel O env ((m, some o2) :: h) a w G := by
  have conv : ∀ j o', hget ((m, some o2) :: h) j = some o' → ∃ o0, hget h j = some o0 ∧ names o' = names o0 := by
    intro j o' h1
    rw [hget_cons] at h1
    by_cases e : m = j
    · subst e
      rw [if_pos rfl] at h1
      cases h1
      exact ⟨_, hh, by rw [hn1, hn2]⟩
    · rw [if_neg e] at h1
      exact ⟨o', h1, rfl⟩
  have hO : ∀ b, Own ((m, some o2) :: h) G b → Own h G b := by
    intro b ⟨j, o', h1, q, hq, hb⟩
    obtain ⟨o0, h2, h3⟩ := conv j o' h1
    exact ⟨j, o0, h2, q, by rw [← h3]; exact hq, hb⟩
  have hX : ∀ b, b < w.heap.size → XX O ((m, some o2) :: h) G b → XX O h G b := fun b _ hx => hx.imp (fun q => q) (hO b)
  refine ⟨r.size, r.dfr, fun t => (r.env t).ext (Ext.refl (fun _ => False) w) (fun _ _ h => h.elim) hX (GStep.refl G), fun j o' h1 => ?_, fun j o1 q j' o2 q' b h1 hq h2 hq' e1 e2 => ?_, r.ext, fun b hb => r.own b (hO b hb), r.xlt, r.ids⟩
  · rw [hget_cons] at h1
    by_cases e : m = j
    · subst e
      rw [if_pos rfl] at h1
      cases h1
      exact ho.mono hX
    · rw [if_neg e] at h1
      exact (r.obj j o' h1).mono hX
  · obtain ⟨p1, g1, g2⟩ := conv j o1 h1
    obtain ⟨p2, g3, g4⟩ := conv j' o2 h2
    exact r.dist j p1 q j' p2 q' b g1 (by rw [← g2]; exact hq) g3 (by rw [← g4]; exact hq') e1 e2
end
end Go.SL
