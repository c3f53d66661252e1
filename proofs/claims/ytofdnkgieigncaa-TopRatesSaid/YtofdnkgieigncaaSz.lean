/- The layer 'SL': own rows read by builtins: append(own, own...), own == nil. -/
import Derived.Test.YtofdnkgieigncaaSy
import Derived.Test.YtofdnkgieigncaaSv
namespace Go.SL
open Go.RowKit Go.MapKept
section
variable {P : Program} {O : Org} {T : Tab P} {Q : Exit → Env → Hp → Prop} {env : Env} {h : Hp} {all rest : List Oper} {o : Oper}
/-! ### maps whose order is not told -/
theorem Rel.same1 {a : Act} {w : World} {G : Ctx} {m : Nat} {o1 o2 : AObj} (r : Rel O env h a w G) (hh : hget h m = some o1) (hn1 : names o1 = []) (hn2 : names o2 = []) (ho : ObjRep w (XX O h G) G m o2) : Rel O env ((m, some o2) :: h) a w G := by
  have conv : ∀ j o', hget ((m, some o2) :: h) j = some o' → ∃ o0, hget h j = some o0 ∧ names o' = names o0 := by
    intro j o' h1
    rw [hget_cons] at h1
    by_cases e : m = j
    · subst e
      rw [if_pos rfl] at h1
      cases h1
      exact ⟨_, hh, by rw [hn1, hn2]⟩
    · rw [if_neg e] at h1
      exact ⟨o', h1, rfl⟩
  have hO : ∀ b, Own ((m, some o2) :: h) G b → Own h G b := by
    intro b ⟨j, o', h1, q, hq, hb⟩
    obtain ⟨o0, h2, h3⟩ := conv j o' h1
    exact ⟨j, o0, h2, q, by rw [← h3]; exact hq, hb⟩
  have hX : ∀ b, b < w.heap.size → XX O ((m, some o2) :: h) G b → XX O h G b := fun b _ hx => hx.imp (fun q => q) (hO b)
  refine ⟨r.size, r.dfr, fun t => (r.env t).ext (Ext.refl (fun _ => False) w) (fun _ _ h => h.elim) hX (GStep.refl G), fun j o' h1 => ?_, fun j o1 q j' o2 q' b h1 hq h2 hq' e1 e2 => ?_, r.ext, fun b hb => r.own b (hO b hb), r.xlt, r.ids⟩
  · rw [hget_cons] at h1
    by_cases e : m = j
    · subst e
      rw [if_pos rfl] at h1
      cases h1
      exact ho.mono hX
    · rw [if_neg e] at h1
      exact (r.obj j o' h1).mono hX
  · obtain ⟨p1, g1, g2⟩ := conv j o1 h1
    obtain ⟨p2, g3, g4⟩ := conv j' o2 h2
    exact r.dist j p1 q j' p2 q' b g1 (by rw [← g2]; exact hq) g3 (by rw [← g4]; exact hq') e1 e2
theorem Rel.toP {a : Act} {w : World} {G : Ctx} {m kt et : Nat} {es es0 : List (Value × AV)} (r : Rel O env h a w G) (hh : hget h m = some (.map kt et es none)) (hp : es.Perm es0) : Rel O env ((m, some (.mapP kt et es0)) :: h) a w G := by
  obtain ⟨b, ents, clock, h1, h2, h3, h4, h5, h6, _⟩ := r.obj m _ hh
  exact r.same1 hh rfl rfl ⟨es, hp, b, ents, clock, h1, h2, h3, h4, h5, h6⟩
/-- the order is forgotten -/
theorem AW_toP {c : Code} (m : Nat) {kt et : Nat} {es : List (Value × AV)} (es0 : List (Value × AV)) (hh : hget h m = some (.map kt et es none)) (hp : es.Perm es0) (K : AW P O c Q env ((m, some (.mapP kt et es0)) :: h)) : AW P O c Q env h :=
  fun a w G r => K a w G (r.toP hh hp)
theorem perm_map_inv {α β : Type} {f : α → β} {xs ys : List β} (h : xs.Perm ys) : ∀ l : List α, ys = l.map f → ∃ v : List α, v.Perm l ∧ xs = v.map f := by
  induction h with
  | nil => intro l e; exact ⟨l, List.Perm.refl _, e⟩
  | cons x _ ih =>
    intro l e
    cases l with
    | nil => cases e
    | cons a l =>
      rw [List.map_cons] at e
      injection e with e1 e2
      obtain ⟨v, h1, h2⟩ := ih l e2
      exact ⟨a :: v, h1.cons a, by rw [List.map_cons, ← e1, h2]⟩
  | swap x y r =>
    intro l e
    match l, e with
    | a :: b :: l, e =>
      simp only [List.map_cons, List.cons.injEq] at e
      exact ⟨b :: a :: l, List.Perm.swap a b l, by simp only [List.map_cons]; rw [e.1, e.2.1, e.2.2]⟩
  | trans _ _ i1 i2 =>
    intro l e
    obtain ⟨v, h1, h2⟩ := i2 l e
    obtain ⟨u, h3, h4⟩ := i1 v h2
    exact ⟨u, h3.trans h1, h4⟩
end
end Go.SL
