import Derived.Test.YtaejikoicbbeeaaWF
namespace Go.Proofs.Ytaejikoicbbeeaa
open Go.SL
/-! ### the document's rings: plain -/
/-- what a list of debts may be while rings are cleared -/
theorem may_of {d x : Db} (h : mayD d = true) (e : d.1 = x.1) (h1 : 1 ≤ x.2) (h2 : x.2 ≤ 1099511627776) : mayD x = true := by
  unfold mayD amtB at *
  simp only [Bool.and_eq_true, Bool.not_eq_true', leb_t] at *
  rw [← e]
  refine ⟨h.1, h.2.1, h.2.2.1, h1, h.2.2.2.2.1, ?_⟩
  have := h.2.2.2.2.2
  first
    | exact ⟨by omega, h2⟩
    | exact h2
    | (simp only [decide_eq_true_eq] at *; omega)
theorem fit_x {l X : List Db} {F : DK → Int} (hl : OkD l) (h : Told X F) (h1 : ∀ k, F k ≤ mx0 (netI l k)) : ∀ x ∈ X, 1 ≤ x.2 ∧ x.2 ≤ 1099511627776 ∧ ∃ d ∈ l, d.1 = x.1 := fun x hx => by
  obtain ⟨a, b⟩ := (h.2 x).1 hx
  have hk := h1 x.1
  have ht := hl.top x.1
  have hm : mx0 (netI l x.1) ≤ 1099511627776 := by unfold mx0; split <;> omega
  refine ⟨by omega, by omega, ow_pos_in (k := x.1) (tabN_pos (c := x.1.1) (p := x.1.2.1) (q := x.1.2.2) hl.one ?_)⟩
  unfold tabN
  show 0 < mx0 (netI l x.1)
  omega
theorem fit_len {l X : List Db} {F : DK → Int} (hl : OkD l) (h : Told X F) (h1 : ∀ k, F k ≤ mx0 (netI l k)) : X.length ≤ l.length := by
  have := nodup_le h.nodup (S := l.map (·.1)) (fun k hk => by
    obtain ⟨x, hx, rfl⟩ := List.mem_map.1 hk
    obtain ⟨d, hd, e⟩ := (fit_x hl h h1 x hx).2.2
    exact List.mem_map.2 ⟨d, hd, e⟩)
  rwa [List.length_map, List.length_map] at this
end Go.Proofs.Ytaejikoicbbeeaa
namespace Go.Proofs.Ytaejikoicbbeeaa
open Go.SL
section
variable {P : Program} {T : Tab P} {O : Org} {env : Env} {h : Hp} {o : Oper}
end
/-! ### the document's Rings: the walk -/












end Go.Proofs.Ytaejikoicbbeeaa
namespace Go.Proofs.Ytaejikoicbbeeaa
open Go.SL
/-! ### awake -/
def exD : List Db := [((⟨#[69, 85, 82]⟩, ⟨#[97]⟩, ⟨#[98]⟩), 5), ((⟨#[69, 85, 82]⟩, ⟨#[98]⟩, ⟨#[99]⟩), 5), ((⟨#[69, 85, 82]⟩, ⟨#[99]⟩, ⟨#[97]⟩), 3)]
def exR : List Db := [((⟨#[69, 85, 82]⟩, ⟨#[97]⟩, ⟨#[98]⟩), 2), ((⟨#[69, 85, 82]⟩, ⟨#[98]⟩, ⟨#[99]⟩), 2)]
def exN : List Db := [((⟨#[69, 85, 82]⟩, ⟨#[97]⟩, ⟨#[99]⟩), 2)]
theorem ex_may : exD.all mayD = true := by decide +kernel
theorem ex_par : (parN exD).length ≤ 8 := by decide +kernel
theorem ex_badN : ¬ badN exD := net_grid (may_one ex_may) (by decide +kernel)
theorem ex_badS : ¬ badS exD := fun ⟨s, hs⟩ => by
  have hne : psI exD s ≠ 0 := by omega
  obtain ⟨a, b⟩ := pos_dom hne
  have h : ∀ p ∈ parN exD, ∀ c ∈ curN exD, -1099511627776 ≤ psI exD (p, c) ∧ psI exD (p, c) ≤ 1099511627776 := by decide +kernel
  have h2 := h s.1 a s.2 b
  have e : psI exD (s.1, s.2) = psI exD s := rfl
  omega
theorem ex_rings : ringsN exD = exR := by decide +kernel
theorem ex_gone : goneN exD = 9 := by decide +kernel
theorem ex_net : netN exD = exN := by decide +kernel
theorem ex_same : sameP exR exN = true := by decide +kernel
theorem ex_pos : (posN (mF exD)).length = 2 := by decide +kernel
theorem net_ok (l : List Db) (hl : l.length ≤ 4096) (h : l.all mayD = true) (hb : ¬ badS l) : AC Try.prog 11 [.d (.sl 4 (l.map dbE))] [] [] (fun r _ => r = .tup [.d (.sl 4 ((netN l).map dbE)), .d (.sc (.int .i64 0))]) :=
  (net_ac l hl h).mono (fun r _ hr => by
    rcases hr with ⟨e, _⟩ | ⟨_, e⟩
    · exact absurd e hb
    · exact e)
theorem net_bad (l : List Db) (hl : l.length ≤ 4096) (h : l.all mayD = true) (hb : badS l) : AC Try.prog 11 [.d (.sl 4 (l.map dbE))] [] [] (fun r _ => r = .tup [.d (.sl 4 []), .d (.sc (.int .i64 3))]) :=
  (net_ac l hl h).mono (fun r _ hr => by
    rcases hr with ⟨_, e⟩ | ⟨e, _⟩
    · exact e
    · exact absurd hb e)
set_option maxRecDepth 10000 in
set_option maxHeartbeats 4000000 in
theorem awake_ac : AC Try.prog 7 [] [] [] (fun r _ => r = .d (.sc (.bool true))) := by
  have cr := ringsOk_ac exD (by decide) ex_may ex_badN ex_par
  unfold ringsV at cr
  rw [ex_rings, ex_gone] at cr
  have cn := net_ok exD (by decide) ex_may ex_badS
  rw [ex_net] at cn
  have c1 := rSame_ac exR exR (by decide)
  rw [sameB_self] at c1
  have c2 := rSame_ac exN exN (by decide)
  rw [sameB_self] at c2
  have c3 := same_ac exR exN (by decide) (by decide)
  rw [ex_same] at c3
  have c4 := position_ac exD (by decide)
  have hlen : ((posN (mF exD)).map enE).length = 2 := by rw [List.length_map]; exact ex_pos
  have hlen2 := ex_pos
  generalize posN (mF exD) = W at *
  have e1 : eqb (0 : Int) 0 = true := eqb_t.2 rfl
  have e2 : eqb (9 : Int) 9 = true := eqb_t.2 rfl
  have e3 : eqb ((W.length : Nat) : Int) 2 = true := by rw [hlen2]; exact eqb_t.2 rfl
  refine AC_enter Try.func7 rfl Try.ntmps7 (rv := [.tmp 0]) rfl rfl (by simp) (fun w X G => ?_)
  repeat' (first | ((with_reducible refine gA ?_); (first | refine AW_seq ?_ | refine AW_region ?_ | refine AW_ret ?_)) | ((with_reducible refine gS ?_); refine Es_s (T := Try.tab) rfl rfl rfl rfl ?_) | (((with_reducible refine gS ?_); apply Es_q); rfl; (first | rfl | (refine w_tt ?_; assumption)); (first | refine LStep_call (cr) rfl rfl rfl rfl | refine LStep_call (cn) rfl rfl rfl rfl | refine LStep_call (c1) rfl rfl rfl rfl | refine LStep_call (c2) rfl rfl rfl rfl | refine LStep_call (c3) rfl rfl rfl rfl | refine LStep_call (c4) rfl rfl rfl rfl)) | (((with_reducible refine gS ?_); apply Es_q); rfl; (first | rfl | (refine w_tt ?_; assumption)); (first | refine LStep_simp (T := Try.tab) rfl rfl | refine LStep_lenM (T := Try.tab) rfl rfl rfl rfl | (refine LStep_pickT rfl rfl ?_ rfl rfl; assumption) | (refine LStep_lit (T := Try.tab) rfl rfl rfl rfl rfl rfl rfl rfl ?_; (refine Nat.le_of_ble_eq_true ?_; rfl)) | refine LStep_buildN (T := Try.tab) rfl rfl rfl rfl rfl rfl rfl)) | (with_reducible refine Es_nil ?_) | (with_reducible refine then_n ?_) | ((with_reducible refine gR ?_); first | refine ret1 rfl ?_ | refine ret2 rfl rfl ?_ | refine ret0 ?_ | refine end1 rfl ?_ | refine end0 ?_))
  all_goals first
    | (rw [e3]; done)
    | trace_state
end Go.Proofs.Ytaejikoicbbeeaa
