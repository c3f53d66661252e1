import Derived.Test.YtofdnkgieigncaaGreatWE
namespace Go.Proofs.YtofdnkgieigncaaGreat
open Go.SL
/-! ### the document's rings: plain -/
/-- what a list of debts may be while rings are cleared -/
theorem may_of {d x : Db} (h : mayD d = true) (e : d.1 = x.1) (h1 : 1 ≤ x.2) (h2 : x.2 ≤ 1099511627776) : mayD x = true := by
  unfold mayD amtB at *
  simp only [Bool.and_eq_true, Bool.not_eq_true', leb_t] at *
  rw [← e]
  refine ⟨h.1, h.2.1, h.2.2.1, h1, h.2.2.2.2.1, ?_⟩
  have := h.2.2.2.2.2
  first
    | exact ⟨by omega, h2⟩
    | exact h2
    | (simp only [decide_eq_true_eq] at *; omega)
theorem fit_x {l X : List Db} {F : DK → Int} (hl : OkD l) (h : Told X F) (h1 : ∀ k, F k ≤ mx0 (netI l k)) : ∀ x ∈ X, 1 ≤ x.2 ∧ x.2 ≤ 1099511627776 ∧ ∃ d ∈ l, d.1 = x.1 := fun x hx => by
  obtain ⟨a, b⟩ := (h.2 x).1 hx
  have hk := h1 x.1
  have ht := hl.top x.1
  have hm : mx0 (netI l x.1) ≤ 1099511627776 := by unfold mx0; split <;> omega
  refine ⟨by omega, by omega, ow_pos_in (k := x.1) (tabN_pos (c := x.1.1) (p := x.1.2.1) (q := x.1.2.2) hl.one ?_)⟩
  unfold tabN
  show 0 < mx0 (netI l x.1)
  omega
theorem fit_len {l X : List Db} {F : DK → Int} (hl : OkD l) (h : Told X F) (h1 : ∀ k, F k ≤ mx0 (netI l k)) : X.length ≤ l.length := by
  have := nodup_le h.nodup (S := l.map (·.1)) (fun k hk => by
    obtain ⟨x, hx, rfl⟩ := List.mem_map.1 hk
    obtain ⟨d, hd, e⟩ := (fit_x hl h h1 x hx).2.2
    exact List.mem_map.2 ⟨d, hd, e⟩)
  rwa [List.length_map, List.length_map] at this
theorem fit_may {l X : List Db} {F : DK → Int} (hl : OkD l) (hm : l.all mayD = true) (h : Told X F) (h1 : ∀ k, F k ≤ mx0 (netI l k)) : X.all mayD = true := by
  rw [List.all_eq_true]
  intro x hx
  obtain ⟨a, b, d, hd, e⟩ := fit_x hl h h1 x hx
  exact may_of (all_may hm d hd) e a b
end Go.Proofs.YtofdnkgieigncaaGreat
namespace Go.Proofs.YtofdnkgieigncaaGreat
open Go.SL
section
variable {P : Program} {T : Tab P} {O : Org} {env : Env} {h : Hp} {o : Oper}
end
/-! ### the document's Rings: the walk -/












end Go.Proofs.YtofdnkgieigncaaGreat
namespace Go.Proofs.YtofdnkgieigncaaGreat
open Go.SL
/-! ### awake -/
theorem net_ok (l : List Db) (hl : l.length ≤ 4096) (h : l.all mayD = true) (hb : ¬ badS l) : AC Tryz.prog 15 [.d (.sl 4 (l.map dbE))] [] [] (fun r _ => r = .tup [.d (.sl 4 ((netN l).map dbE)), .d (.sc (.int .i64 0))]) :=
  (net_ac l hl h).mono (fun r _ hr => by
    rcases hr with ⟨e, _⟩ | ⟨_, e⟩
    · exact absurd e hb
    · exact e)
end Go.Proofs.YtofdnkgieigncaaGreat
