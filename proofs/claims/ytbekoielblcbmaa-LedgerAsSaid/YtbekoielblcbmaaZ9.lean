import Derived.Test.YtbekoielblcbmaaZ8
import Derived.Test.YtbekoielblcbmaaTa
namespace Go.Proofs.Ytbekoielblcbmaa
open Go.SL
/-! ### LedgerAs -/
theorem asP_facts {s : Led} (h0 : ∀ p ∈ s.A, p.2.held = 0 ∧ p.2.bal = 0) (hn : s.Num) (hP : s.P = []) (l : List Post) (hl : ∀ p ∈ l, p.entries.length ≤ 64 ∧ ∀ e ∈ p.entries, e.in40) (hc : l.length ≤ 4096) :
    (∀ p ∈ (asP s l).A, p.2.held = 0 ∧ -(70368744177664 * (l.length : Int)) ≤ p.2.bal ∧ p.2.bal ≤ 70368744177664 * (l.length : Int)) ∧ (asP s l).Num ∧ (∀ p ∈ (asP s l).P, p.entries.length ≤ 64) ∧ (asP s l).P.length = l.length := by
  induction l using list_snoc with
  | h0 => exact ⟨fun p hp => by obtain ⟨h1, h2⟩ := h0 p hp; simp [h1, h2], hn, fun p hp => (by have hp : p ∈ s.P := hp; rw [hP] at hp; cases hp), by show s.P.length = 0; rw [hP]; rfl⟩
  | h1 l q ih =>
    rw [List.length_append, List.length_singleton] at hc
    obtain ⟨i1, i2, i3, i4⟩ := ih (fun p hp => hl p (List.mem_append.2 (.inl hp))) (by omega)
    obtain ⟨g1, g2⟩ := hl q (by simp)
    rw [asP_snoc]
    refine ⟨fun p hp => ?_, enterS_num i2 _ _, fun p hp => ?_, ?_⟩
    · have hp : p ∈ enterA (chgL q.entries) (asP s l).A := hp
      rw [enterA_bk g2 (by omega) (fun p hp => by have := i1 p hp; omega)] at hp
      obtain ⟨r, hr, rfl⟩ := List.mem_map.1 hp
      obtain ⟨k1, k2, k3⟩ := i1 r hr
      have := esum_in g2 r.1
      rw [List.length_append, List.length_singleton]
      exact ⟨k1, by simp only; omega, by simp only; omega⟩
    · rcases List.mem_append.1 hp with hp | hp
      · exact i3 p hp
      · simp only [List.mem_singleton] at hp
        subst hp
        exact g1
    · show ((asP s l).P ++ [_]).length = _
      rw [List.length_append, List.length_append, i4]; rfl
theorem as0_zero (s : Led) : ∀ p ∈ (as0 s).A, p.2.held = 0 ∧ p.2.bal = 0 := by
  intro p hp
  obtain ⟨q, _, rfl⟩ := List.mem_map.1 hp
  exact ⟨rfl, rfl⟩
theorem as0_num (s : Led) : (as0 s).Num := fun j p hp => by simp [as0] at hp
set_option maxRecDepth 20000 in
set_option maxHeartbeats 4000000 in
theorem ras_ac (s : Led) (H : List Hld) (n : Int) (hs : s.Ok) (hg : s.Good) : AC Try.prog 28 [docA s.A s.P H, .d (.sc (.int .i64 n))] [] [] (fun r _ => r = docA (asS s n).A (asS s n).P []) := by
  have hlA := hs.lA
  have hlP := hs.lP
  obtain ⟨m1, m2⟩ := maxmin n s.P.length
  obtain ⟨m, hm⟩ := Int.eq_ofNat_of_zero_le m1
  rw [hm] at m2
  have m2 : m ≤ s.P.length := by omega
  have hAs : asS s n = asP (as0 s) (s.P.take m) := by unfold asS; rw [hm, Int.toNat_natCast]
  have hin : ∀ k : Nat, k < m → k < s.P.length ∧ (k : Int) < n := fun k hk => by
    unfold maxI minI at hm
    split at hm <;> split at hm <;> exact ⟨by omega, by omega⟩
  have hout : m < s.P.length → n ≤ (m : Int) := fun hk => by
    unfold maxI minI at hm
    split at hm <;> split at hm <;> omega
  rw [hAs]
  refine AC_enterC Try.tab Try.func28 rfl Try.ntmps28 (a0 := 4) (t0 := 45) rfl rfl (by simp) (fun w X G => ?_)
  repeat' (first | ((with_reducible refine gA ?_); (first | refine AW_seq ?_ | refine AW_region ?_ | refine AW_block ?_)) | (((with_reducible refine gS ?_); apply Es_q); rfl; rfl; refine LStep_buildC (T := Try.tab) (out' := [_, .d (.sl 3 []), .d (.sl 4 [])]) rfl rfl rfl rfl rfl rfl ⟨.refl _, .nil 3, .nil 4, trivial⟩) | ((with_reducible refine gS ?_); refine Es_s (T := Try.tab) rfl rfl rfl rfl ?_) | (refine Es_skip rfl ?_ rfl ?_; (first | rfl | (refine w_tf ?_; assumption) | (refine w_ft ?_; assumption))) | (((with_reducible refine gS ?_); apply Es_xs); rfl; rfl; (first | refine LStep_boxN rfl rfl rfl rfl rfl rfl | refine LStep_allocN (T := Try.tab) rfl rfl rfl rfl rfl rfl); rfl) | (((with_reducible refine gS ?_); apply Es_xn); rfl; rfl; (refine LStep_storeN (T := Try.tab) rfl rfl rfl rfl rfl rfl rfl ?_ rfl; (refine Nat.le_of_ble_eq_true ?_; rfl)); rfl) | (with_reducible refine Es_nil ?_) | (with_reducible refine then_n ?_))
  refine AW_openCell 84 4 5 0 2000 rfl rfl rfl rfl rfl ?_
  refine AW_forE (S := Nat) (fun k => k ≤ s.A.length) (fun k => [(6, .d (.sc (.int .i64 (k : Nat))))]) (fun k => [(5, some (.cells [.own 2000 (((s.A.take k).map rsA).map daE).length, .d (.sl 3 []), .d (.sl 4 [])])), (2000, some (.arr 84 4 (((s.A.take k).map rsA).map daE)))]) (fun k => s.A.length - k) 0 (by omega) (by (repeat' (first | exact trivial | exact rfl | (refine ⟨Or.inl rfl, ?_⟩) | (refine ⟨Or.inr rfl, ?_⟩) | (refine ⟨Or.inr trivial, ?_⟩) | (refine ⟨rfl, ?_⟩) | (refine ⟨?_, ?_⟩)))) (by (repeat' (first | exact trivial | exact rfl | (refine ⟨Or.inl rfl, ?_⟩) | (refine ⟨Or.inr rfl, ?_⟩) | (refine ⟨Or.inr trivial, ?_⟩) | (refine ⟨rfl, ?_⟩) | (refine ⟨?_, ?_⟩)))) ?_
  intro k hkl
  by_cases hlt : k < s.A.length
  · obtain ⟨p, hp, _⟩ := drop_at hlt
    have hst : ((s.A.take (k + 1)).map rsA).map daE = ((s.A.take k).map rsA).map daE ++ [daE (rsA p)] := by rw [take_at hp]; simp
    have hll : (((s.A.take k).map rsA).map daE).length ≤ 4096 := by simp only [List.length_map, List.length_take]; omega
    generalize ((s.A.take k).map rsA).map daE = B at hst hll ⊢
    repeat' (first | ((with_reducible refine gA ?_); (first | refine AW_seq ?_ | refine AW_region ?_ | (refine AW_cond rfl (fun hc => ?_) (fun hc => ?_) <;> try (exfalso; simp only [cmpL] at hc; omega)) | refine AW_block ?_ | refine AW_skip ?_)) | ((with_reducible refine gS ?_); refine Es_s (T := Try.tab) rfl rfl rfl rfl ?_) | (((with_reducible refine gS ?_); apply Es_xs); rfl; rfl; (refine LStep_append (T := Try.tab) rfl rfl rfl rfl rfl rfl rfl rfl rfl rfl ?_ ?_ ?_; rfl; (simp only [List.length_cons, List.length_nil]; omega); (unfold maxLen; simp only [List.length_cons, List.length_nil]; omega)); rfl) | (((with_reducible refine gS ?_); apply Es_q); rfl; rfl; (first | refine LStep_lenM (T := Try.tab) rfl rfl rfl rfl | (refine LStep_add rfl rfl rfl rfl ?_; (refine IntWalk.i64_in _ ?_; first | omega | (simp only [cmps] at *; omega))) | (refine LStep_indexM (T := Try.tab) (c := ?_) rfl rfl rfl rfl rfl rfl ?_; rotate_left; assumption) | (refine LStep_lit (T := Try.tab) rfl rfl rfl rfl rfl rfl rfl rfl ?_; (refine Nat.le_of_ble_eq_true ?_; rfl)))) | (refine Es_skip rfl ?_ rfl ?_; (first | rfl | (refine w_tf ?_; assumption) | (refine w_ft ?_; assumption))) | (((with_reducible refine gS ?_); apply Es_xs); rfl; rfl; refine LStep_allocN (T := Try.tab) rfl rfl rfl rfl rfl rfl; rfl) | (((with_reducible refine gS ?_); apply Es_xn); rfl; rfl; (refine LStep_storeN (T := Try.tab) rfl rfl rfl rfl rfl rfl rfl ?_ rfl; (refine Nat.le_of_ble_eq_true ?_; rfl)); rfl) | (with_reducible refine Es_nil ?_) | (with_reducible refine then_n ?_) | (with_reducible refine block_n ?_))
    refine ⟨k + 1, by omega, by omega, by (repeat' (first | exact trivial | exact rfl | (refine ⟨Or.inl rfl, ?_⟩) | (refine ⟨Or.inr rfl, ?_⟩) | (refine ⟨Or.inr trivial, ?_⟩) | (refine ⟨rfl, ?_⟩) | (refine ⟨?_, ?_⟩))), by (repeat' (first | exact trivial | exact rfl | (refine ⟨Or.inl rfl, ?_⟩) | (refine ⟨Or.inr rfl, ?_⟩) | (refine ⟨Or.inr trivial, ?_⟩) | (refine ⟨rfl, ?_⟩) | (refine ⟨?_, ?_⟩))), ?_, by (repeat' (first | exact trivial | exact rfl | (refine ⟨Or.inl rfl, ?_⟩) | (refine ⟨Or.inr rfl, ?_⟩) | (refine ⟨Or.inr trivial, ?_⟩) | (refine ⟨rfl, ?_⟩) | (refine ⟨?_, ?_⟩)))⟩
    rw [hst]
    exact ⟨rfl, rfl, trivial⟩
  have : k = s.A.length := by omega
  subst this
  rw [List.take_length]
  clear hkl hlt
  repeat' (first | ((with_reducible refine gA ?_); refine AW_freezeCell 5 0 (id := 2000) rfl rfl rfl rfl ?_) | ((with_reducible refine gA ?_); (first | refine AW_seq ?_ | refine AW_region ?_ | (refine AW_cond rfl (fun hc => ?_) (fun hc => ?_) <;> try (exfalso; simp only [cmpL] at hc; omega)) | refine AW_block ?_ | refine AW_exit ?_)) | ((with_reducible refine gS ?_); refine Es_s (T := Try.tab) rfl rfl rfl rfl ?_) | (((with_reducible refine gS ?_); apply Es_q); rfl; rfl; refine LStep_lenM (T := Try.tab) rfl rfl rfl rfl) | (with_reducible refine Es_nil ?_) | (with_reducible refine then_n ?_) | (with_reducible refine then_e ?_) | ((with_reducible refine block_e ?_ ?_); rfl))
  refine AW_forE (S := Nat) (fun k => k ≤ m) (fun k => [(8, .d (.sc (.int .i64 (k : Nat))))]) (fun k => [(5, some (.cells [.d (.sl 4 ((asP (as0 s) (s.P.take k)).A.map daE)), .d (.sl 3 ((asP (as0 s) (s.P.take k)).P.map Post.enc)), .d (.sl 4 [])]))]) (fun k => m - k) 0 (by omega) (by (repeat' (first | exact trivial | exact rfl | (refine ⟨Or.inl rfl, ?_⟩) | (refine ⟨Or.inr rfl, ?_⟩) | (refine ⟨Or.inr trivial, ?_⟩) | (refine ⟨rfl, ?_⟩) | (refine ⟨?_, ?_⟩)))) (by (repeat' (first | exact trivial | exact rfl | (refine ⟨Or.inl rfl, ?_⟩) | (refine ⟨Or.inr rfl, ?_⟩) | (refine ⟨Or.inr trivial, ?_⟩) | (refine ⟨rfl, ?_⟩) | (refine ⟨?_, ?_⟩)))) ?_
  intro k hkl
  have hgo : ∀ p ∈ s.P.take k, p.entries.length ≤ 64 ∧ ∀ e ∈ p.entries, e.in40 := fun p hp => by
    obtain ⟨g1, g2⟩ := hg p (List.mem_of_mem_take hp)
    exact ⟨g1, fun e he => (g2 e he).1⟩
  obtain ⟨f1, f2, f3, f4⟩ := asP_facts (as0_zero s) (as0_num s) rfl (s.P.take k) hgo (by rw [List.length_take]; omega)
  have f5 := (asP_keys (as0 s) (s.P.take k)).1
  by_cases hlt : k < m
  · obtain ⟨hk1, hk2⟩ := hin k hlt
    obtain ⟨p, hp, _⟩ := drop_at hk1
    obtain ⟨g1, g2⟩ := hg p (List.mem_of_getElem? hp)
    have hst : asP (as0 s) (s.P.take (k + 1)) = enterS (asP (as0 s) (s.P.take k)) p.text p.entries := by rw [take_at hp, asP_snoc]
    have hkeys : akeys (asP (as0 s) (s.P.take k)).A = akeys s.A := f5.trans (rs_keys s.A)
    rw [List.length_take] at f1 f4
    generalize asP (as0 s) (s.P.take k) = t at f1 f4 hst hkeys ⊢
    have hb : ∀ p ∈ t.A, -4611686018427387904 ≤ p.2.bal ∧ p.2.bal ≤ 4611686018427387904 := fun p hp => by have := f1 p hp; omega
    have hi40 : ∀ e ∈ p.entries, e.in40 := fun e he => (g2 e he).1
    have hlt2 : t.A.length = s.A.length := by have := congrArg List.length hkeys; simpa [akeys] using this
    have cb := rbook_ac t.A t.P [] p.text p.entries (by omega) (by omega) g1 hi40 (fun e he => keys_has hkeys (g2 e he).2) (by rw [hkeys]; exact hs.nA) hb
    rw [← enterA_bk hi40 g1 hb] at cb
    repeat' (first | ((with_reducible refine gA ?_); (first | refine AW_seq ?_ | refine AW_region ?_ | refine AW_regionD Try.mixed ?_ | refine AW_condF rfl ?_ | (refine AW_cond rfl (fun hc => ?_) (fun hc => ?_) <;> try (exfalso; simp only [cmpL] at hc; omega)) | refine AW_block ?_ | refine AW_ret ?_ | refine AW_skip ?_ | refine AW_exit ?_)) | (first | ((with_reducible refine gS ?_); refine Es_s (T := Try.tab) rfl rfl rfl rfl ?_) | ((with_reducible refine gD ?_); refine Ed_s (T := Try.tab) rfl rfl rfl rfl ?_)) | ((first | ((with_reducible refine gS ?_); apply Es_q) | ((with_reducible refine gD ?_); apply Ed_q)); rfl; (first | rfl | (refine w_tt ?_; assumption)); refine LStep_call (cb) rfl rfl rfl rfl) | ((first | ((with_reducible refine gS ?_); apply Es_q) | ((with_reducible refine gD ?_); apply Ed_q)); rfl; (first | rfl | (refine w_tt ?_; assumption)); (first | refine LStep_simp (T := Try.tab) rfl rfl | refine LStep_lenM (T := Try.tab) rfl rfl rfl rfl | (refine LStep_add rfl rfl rfl rfl ?_; (refine IntWalk.i64_in _ ?_; first | omega | (simp only [cmps] at *; omega))) | (refine LStep_pickT rfl rfl ?_ rfl rfl; assumption) | (refine LStep_pickF rfl rfl ?_ rfl rfl; assumption) | (refine LStep_indexM (T := Try.tab) (c := ?_) rfl rfl rfl rfl rfl rfl ?_; rotate_left; assumption))) | (refine Es_skip rfl ?_ rfl ?_; (first | rfl | (refine w_tf ?_; assumption) | (refine w_ft ?_; assumption))) | ((first | ((with_reducible refine gS ?_); apply Es_xn) | ((with_reducible refine gD ?_); apply Ed_xn)); rfl; rfl; (refine LStep_storeN (T := Try.tab) rfl rfl rfl rfl rfl rfl rfl ?_ rfl; (refine Nat.le_of_ble_eq_true ?_; rfl)); rfl) | (refine Es_split rfl ?_ (fun _ => ?_) (fun _ => ?_); ((fail_if_success (refine und_t ?_; assumption)); (fail_if_success (refine und_f ?_; assumption)); exact trivial)) | (with_reducible refine Es_nil ?_) | ((with_reducible refine Ed_nil ?_ ?_); kernel_rfl) | (with_reducible refine then_n ?_) | (with_reducible refine then_e ?_) | (with_reducible refine block_n ?_) | ((with_reducible refine block_e ?_ ?_); rfl) | ((with_reducible refine gC ?_); first | refine retC1 rfl ?_ | refine endC1 rfl ?_))
    all_goals simp only [cmps] at *
    all_goals first
      | (exfalso; omega)
      | (refine ⟨k + 1, by omega, by omega, by (repeat' (first | exact trivial | exact rfl | (refine ⟨Or.inl rfl, ?_⟩) | (refine ⟨Or.inr rfl, ?_⟩) | (refine ⟨Or.inr trivial, ?_⟩) | (refine ⟨rfl, ?_⟩) | (refine ⟨?_, ?_⟩))), by (repeat' (first | exact trivial | exact rfl | (refine ⟨Or.inl rfl, ?_⟩) | (refine ⟨Or.inr rfl, ?_⟩) | (refine ⟨Or.inr trivial, ?_⟩) | (refine ⟨rfl, ?_⟩) | (refine ⟨?_, ?_⟩))), ?_, by (repeat' (first | exact trivial | exact rfl | (refine ⟨Or.inl rfl, ?_⟩) | (refine ⟨Or.inr rfl, ?_⟩) | (refine ⟨Or.inr trivial, ?_⟩) | (refine ⟨rfl, ?_⟩) | (refine ⟨?_, ?_⟩)))⟩; rw [hst]; (repeat' (first | exact trivial | exact rfl | (refine ⟨Or.inl rfl, ?_⟩) | (refine ⟨Or.inr rfl, ?_⟩) | (refine ⟨Or.inr trivial, ?_⟩) | (refine ⟨rfl, ?_⟩) | (refine ⟨?_, ?_⟩))))
  have : k = m := by omega
  subst this
  clear hkl hlt
  by_cases hk : k < s.P.length
  · have := hout hk
    repeat' (first | ((with_reducible refine gA ?_); (first | refine AW_seq ?_ | refine AW_region ?_ | refine AW_condF rfl ?_ | (refine AW_cond rfl (fun hc => ?_) (fun hc => ?_) <;> try (exfalso; simp only [cmpL] at hc; omega)) | refine AW_ret ?_ | refine AW_exit ?_)) | ((with_reducible refine gS ?_); refine Es_s (T := Try.tab) rfl rfl rfl rfl ?_) | (((with_reducible refine gS ?_); apply Es_q); rfl; (first | rfl | (refine w_tt ?_; assumption)); (first | refine LStep_simp (T := Try.tab) rfl rfl | refine LStep_lenM (T := Try.tab) rfl rfl rfl rfl | (refine LStep_pickT rfl rfl ?_ rfl rfl; assumption) | (refine LStep_pickF rfl rfl ?_ rfl rfl; assumption))) | (refine Es_skip rfl ?_ rfl ?_; (first | rfl | (refine w_tf ?_; assumption) | (refine w_ft ?_; assumption))) | (((with_reducible refine gS ?_); apply Es_xn); rfl; rfl; (refine LStep_storeN (T := Try.tab) rfl rfl rfl rfl rfl rfl rfl ?_ rfl; (refine Nat.le_of_ble_eq_true ?_; rfl)); rfl) | (refine Es_split rfl ?_ (fun _ => ?_) (fun _ => ?_); ((fail_if_success (refine und_t ?_; assumption)); (fail_if_success (refine und_f ?_; assumption)); exact trivial)) | (with_reducible refine Es_nil ?_) | (with_reducible refine then_n ?_) | (with_reducible refine then_e ?_) | ((with_reducible refine block_e ?_ ?_); rfl) | ((with_reducible refine gC ?_); first | refine retC1 rfl ?_ | refine endC1 rfl ?_))
    all_goals simp only [cmps] at *
    all_goals first
      | (exfalso; omega)
      | rfl
  · repeat' (first | ((with_reducible refine gA ?_); (first | refine AW_seq ?_ | refine AW_region ?_ | refine AW_regionD Try.mixed ?_ | refine AW_condF rfl ?_ | (refine AW_cond rfl (fun hc => ?_) (fun hc => ?_) <;> try (exfalso; simp only [cmpL] at hc; omega)) | refine AW_block ?_ | refine AW_ret ?_ | refine AW_skip ?_ | refine AW_exit ?_)) | (first | ((with_reducible refine gS ?_); refine Es_s (T := Try.tab) rfl rfl rfl rfl ?_) | ((with_reducible refine gD ?_); refine Ed_s (T := Try.tab) rfl rfl rfl rfl ?_)) | ((first | ((with_reducible refine gS ?_); apply Es_q) | ((with_reducible refine gD ?_); apply Ed_q)); rfl; (first | rfl | (refine w_tt ?_; assumption)); (first | refine LStep_simp (T := Try.tab) rfl rfl | refine LStep_lenM (T := Try.tab) rfl rfl rfl rfl | (refine LStep_pickT rfl rfl ?_ rfl rfl; assumption) | (refine LStep_pickF rfl rfl ?_ rfl rfl; assumption))) | ((first | refine Es_skip rfl ?_ rfl ?_ | refine Ed_skip rfl ?_ rfl ?_); (first | rfl | (refine w_tf ?_; assumption) | (refine w_ft ?_; assumption))) | ((first | ((with_reducible refine gS ?_); apply Es_xn) | ((with_reducible refine gD ?_); apply Ed_xn)); rfl; rfl; (refine LStep_storeN (T := Try.tab) rfl rfl rfl rfl rfl rfl rfl ?_ rfl; (refine Nat.le_of_ble_eq_true ?_; rfl)); rfl) | (refine Es_split rfl ?_ (fun _ => ?_) (fun _ => ?_); ((fail_if_success (refine und_t ?_; assumption)); (fail_if_success (refine und_f ?_; assumption)); exact trivial)) | (with_reducible refine Es_nil ?_) | (with_reducible refine then_n ?_) | (with_reducible refine then_e ?_) | ((with_reducible refine block_e ?_ ?_); rfl) | ((with_reducible refine gC ?_); first | refine retC1 rfl ?_ | refine endC1 rfl ?_))
    all_goals simp only [cmps] at *
    all_goals first
      | (exfalso; omega)
      | rfl
theorem sameQ_ac (s : Led) (H : List Hld) (hs : s.Ok) (hd : DocH s H) (hheld : ∀ p ∈ s.A, wrp .i64 (hsumL p.1 H) = p.2.held) (he : ∀ p ∈ s.P, p.entries.length ≤ 1048576) (hnum : s.Num) :
    AC Try.prog 21 [.ptr 1000 0, docA s.A s.P H] (hLQ 1000 1001 1002 1003 s) [1000, 1001, 1002, 1003] (fun r h' => r = .d (.sc (.bool true)) ∧ SubH (hLQ 1000 1001 1002 1003 s) h') := by
  refine AC.unP (m := 1001) (kt := 75) (et := 77) (es0 := emap k2V aV s.A) (fun es r h' => r = .d (.sc (.bool true)) ∧ SubH [(1000, some (.cells [.mp 1001, .own 1002 (s.P.map Post.enc).length, .mp 1003])), (1001, some (.map 75 77 es none)), (1002, some (.arr 55 3 (s.P.map Post.enc))), (1003, some (.map 9 67 (emap sV hV s.H) none))] h') rfl (fun es hes => ?_) (fun es r h' ⟨q, a1, a2, a3, a4, _⟩ => ?_)
  · obtain ⟨v, hv, rfl⟩ := perm_map_inv hes s.A rfl
    have h1 := same_ac ⟨v, s.P, s.H⟩ s H hs ⟨hv, rfl, List.Perm.refl _⟩ hd hheld he hnum
    refine h1.heap (fun i => ?_)
    by_cases h1 : 1001 = i
    · subst h1
      rfl
    · unfold hL hLQ
      simp only [hget_cons, if_neg h1]
  · refine ⟨a2, q, ?_, ?_, ?_, ?_, trivial⟩
    · exact (hget_cons _ _ _ _).trans ((if_neg (by decide)).trans a1)
    · rfl
    · exact (hget_cons _ _ _ _).trans ((if_neg (by decide)).trans a3)
    · exact (hget_cons _ _ _ _).trans ((if_neg (by decide)).trans a4)
theorem as_doc {s : Led} {H : List Hld} (hd : DocH s H) (n : Int) : DocH (asS s n) [] := by
  obtain ⟨h1, h2, _⟩ := asP_keys (as0 s) (s.P.take (maxI 0 (minI n (s.P.length : Int))).toNat)
  refine ⟨?_, nm_keys hd.nm (h1.trans (rs_keys s.A))⟩
  unfold asS mvals
  rw [h2]
  exact List.Perm.refl _
theorem as_same {s : Led} {H : List Hld} (hs : s.Ok) (hg : s.Good) (hd : DocH s H) (n : Int) : AC Try.prog 21 [.ptr 1000 0, docA (asS s n).A (asS s n).P []] (hLQ 1000 1001 1002 1003 (asS s n)) [1000, 1001, 1002, 1003] (fun r h' => r = .d (.sc (.bool true)) ∧ SubH (hLQ 1000 1001 1002 1003 (asS s n)) h') := by
  have hlP := hs.lP
  have hf : _ ∧ (asS s n).Num ∧ _ ∧ _ := asP_facts (as0_zero s) (as0_num s) rfl (s.P.take (maxI 0 (minI n (s.P.length : Int))).toNat) (fun p hp => by
    obtain ⟨g1, g2⟩ := hg p (List.mem_of_mem_take hp)
    exact ⟨g1, fun e he => (g2 e he).1⟩) (by rw [List.length_take]; omega)
  obtain ⟨f1, f2, f3, f4⟩ := hf
  refine sameQ_ac (asS s n) [] (as_ok hs n) (as_doc hd n) (fun p hp => ?_) (fun p hp => by have := f3 p hp; omega) f2
  rw [(f1 p hp).1]
  exact wrp0
theorem as_all (s : Led) : asS s ((s.P.length : Int) + 5) = asS s (s.P.length : Int) := by
  have h1 : maxI 0 (minI ((s.P.length : Int) + 5) (s.P.length : Int)) = (s.P.length : Int) := by unfold maxI minI; split <;> split <;> omega
  have h2 : maxI 0 (minI (s.P.length : Int) (s.P.length : Int)) = (s.P.length : Int) := by unfold maxI minI; split <;> split <;> omega
  unfold asS
  rw [h1, h2]
set_option maxRecDepth 20000 in
set_option maxHeartbeats 8000000 in
theorem asl_ac (l : List Act) (n : Int) (hl : l.length ≤ 140737488351232) (hk : ∀ x ∈ l, 0 ≤ x.kind) : AC Try.prog 7 [.d (.sl 6 (l.map Act.enc)), .d (.sc (.int .i64 n))] [] [] (fun r _ => r = .d (.sc (.bool true))) := by
  have cf := few_ac l hl
  cases hfew : fewL l with
  | false =>
    rw [hfew] at cf
    refine AC_enter Try.func7 rfl Try.ntmps7 (rv := [.tmp 4]) rfl rfl (by simp) (fun w X G => ?_)
    repeat' (first | ((with_reducible refine gA ?_); (first | refine AW_seq ?_ | refine AW_region ?_ | refine AW_condT rfl ?_ | refine AW_ret ?_)) | ((with_reducible refine gS ?_); refine Es_s (T := Try.tab) rfl rfl rfl rfl ?_) | (((with_reducible refine gS ?_); apply Es_q); rfl; rfl; (first | refine LStep_call (awake_ac) rfl rfl rfl rfl | refine LStep_call (cf) rfl rfl rfl rfl)) | (((with_reducible refine gS ?_); apply Es_q); rfl; rfl; refine LStep_simp (T := Try.tab) rfl rfl) | (with_reducible refine Es_nil ?_) | (with_reducible refine then_n ?_) | (with_reducible refine then_r ?_) | ((with_reducible refine gR ?_); first | refine ret1 rfl ?_ | refine ret2 rfl rfl ?_ | refine ret0 ?_ | refine end1 rfl ?_ | refine end0 ?_))
    rfl
  | true =>
  rw [hfew] at cf
  obtain ⟨l1, l2⟩ := few_more2 hfew
  have l3 := few_len hfew
  have cp := played_ac l hfew hk
  refine AC_enter Try.func7 rfl Try.ntmps7 (rv := [.tmp 4]) rfl rfl (by simp) (fun w X G => ?_)
  repeat' (first | ((with_reducible refine gA ?_); (first | refine AW_seq ?_ | refine AW_region ?_ | refine AW_condF rfl ?_ | refine AW_block ?_ | refine AW_skip ?_)) | (((with_reducible refine gS ?_); apply Es_q); rfl; rfl; refine LStep_buildC (T := Try.tab) (out' := [.d (.sl 4 []), .d (.sl 3 []), .d (.sl 4 [])]) rfl rfl rfl rfl rfl rfl ⟨.nil 4, .nil 3, .nil 4, trivial⟩) | ((with_reducible refine gS ?_); refine Es_s (T := Try.tab) rfl rfl rfl rfl ?_) | (((with_reducible refine gS ?_); apply Es_q); rfl; rfl; (first | refine LStep_call (awake_ac) rfl rfl rfl rfl | refine LStep_call (cf) rfl rfl rfl rfl)) | (((with_reducible refine gS ?_); apply Es_q); rfl; rfl; (first | refine LStep_simp (T := Try.tab) rfl rfl | refine LStep_lenM (T := Try.tab) rfl rfl rfl rfl)) | (refine Es_skip rfl ?_ rfl ?_; (first | rfl | (refine w_tf ?_; assumption) | (refine w_ft ?_; assumption))) | (((with_reducible refine gS ?_); apply Es_xs); rfl; rfl; refine LStep_allocN (T := Try.tab) rfl rfl rfl rfl rfl rfl; rfl) | (((with_reducible refine gS ?_); apply Es_xn); rfl; rfl; (refine LStep_storeN (T := Try.tab) rfl rfl rfl rfl rfl rfl rfl ?_ rfl; (refine Nat.le_of_ble_eq_true ?_; rfl)); rfl) | (with_reducible refine Es_nil ?_) | (with_reducible refine then_n ?_))
  clear cf
  refine AW_forE (S := Nat × List Hld) (fun t => t.1 ≤ l.length ∧ DocH (playS Led0 (l.take t.1)) t.2) (fun t => [(20, .d (.sc (.int .i64 (t.1 : Nat))))]) (fun t => ([(5, some (AObj.cells [AV.d (.sl 4 ((playS Led0 (l.take t.1)).A.map daE)), AV.d (.sl 3 ((playS Led0 (l.take t.1)).P.map Post.enc)), AV.d (.sl 4 (t.2.map Hld.enc))]))] : Hp)) (fun t => l.length - t.1) (0, []) ⟨by simp, Led0_doc⟩ (by (repeat' (first | exact trivial | exact rfl | (refine ⟨Or.inl rfl, ?_⟩) | (refine ⟨Or.inr rfl, ?_⟩) | (refine ⟨Or.inr trivial, ?_⟩) | (refine ⟨rfl, ?_⟩) | (refine ⟨?_, ?_⟩)))) ⟨rfl, trivial⟩ ?_
  intro ⟨k, H⟩ ⟨hkl, hd⟩
  dsimp only at hkl hd ⊢
  by_cases hlt : k < l.length
  · obtain ⟨x, hx, _⟩ := drop_at hlt
    have hxm := List.mem_of_getElem? hx
    have hx1 := l2 x hxm
    have hx2 := l3 x hxm
    have hxk := hk x hxm
    have o1 := playS_ok Led0_ok (l.take k)
    have o2 := playS_inv Led0_ok Led0_inv (l.take k)
    obtain ⟨z1, z2, z3⟩ := playS_sizes (l.take k)
    rw [List.length_take] at z1 z2 z3
    have t1 : playS Led0 (l.take (k + 1)) = doS (playS Led0 (l.take k)) x := by rw [take_at hx, playS_snoc]
    generalize playS Led0 (l.take k) = s at hd o1 o2 t1 z1 z2 z3 ⊢
    obtain ⟨H', hd', cw⟩ := want_ac s H x o1 o2 hd hxk (by omega) (by omega) (by omega) (by omega) (by omega)
    repeat' (first | ((with_reducible refine gA ?_); (first | refine AW_seq ?_ | refine AW_region ?_ | (refine AW_cond rfl (fun hc => ?_) (fun hc => ?_) <;> try (exfalso; simp only [cmpL] at hc; omega)) | refine AW_block ?_ | refine AW_skip ?_)) | ((with_reducible refine gS ?_); refine Es_s (T := Try.tab) rfl rfl rfl rfl ?_) | (((with_reducible refine gS ?_); apply Es_q); rfl; rfl; refine LStep_call (cw) rfl rfl rfl rfl) | (((with_reducible refine gS ?_); apply Es_q); rfl; rfl; (first | (refine LStep_add rfl rfl rfl rfl ?_; (refine IntWalk.i64_in _ ?_; first | omega | (simp only [cmps] at *; omega))) | (refine LStep_indexM (T := Try.tab) (c := ?_) rfl rfl rfl rfl rfl rfl ?_; rotate_left; assumption))) | (refine Es_skip rfl ?_ rfl ?_; (first | rfl | (refine w_tf ?_; assumption) | (refine w_ft ?_; assumption))) | (((with_reducible refine gS ?_); apply Es_xs); rfl; rfl; refine LStep_allocN (T := Try.tab) rfl rfl rfl rfl rfl rfl; rfl) | (((with_reducible refine gS ?_); apply Es_xn); rfl; rfl; (refine LStep_storeN (T := Try.tab) rfl rfl rfl rfl rfl rfl rfl ?_ rfl; (refine Nat.le_of_ble_eq_true ?_; rfl)); rfl) | (with_reducible refine Es_nil ?_) | (with_reducible refine then_n ?_) | (with_reducible refine block_n ?_))
    refine ⟨(k + 1, H'), ⟨by dsimp only; omega, by dsimp only; rw [t1]; exact hd'⟩, by dsimp only; omega, by (repeat' (first | exact trivial | exact rfl | (refine ⟨Or.inl rfl, ?_⟩) | (refine ⟨Or.inr rfl, ?_⟩) | (refine ⟨Or.inr trivial, ?_⟩) | (refine ⟨rfl, ?_⟩) | (refine ⟨?_, ?_⟩))), by (repeat' (first | exact trivial | exact rfl | (refine ⟨Or.inl rfl, ?_⟩) | (refine ⟨Or.inr rfl, ?_⟩) | (refine ⟨Or.inr trivial, ?_⟩) | (refine ⟨rfl, ?_⟩) | (refine ⟨?_, ?_⟩))), ?_, by (repeat' (first | exact trivial | exact rfl | (refine ⟨Or.inl rfl, ?_⟩) | (refine ⟨Or.inr rfl, ?_⟩) | (refine ⟨Or.inr trivial, ?_⟩) | (refine ⟨rfl, ?_⟩) | (refine ⟨?_, ?_⟩)))⟩
    dsimp only
    rw [t1]
    exact ⟨rfl, trivial⟩
  have : k = l.length := by omega
  subst this
  rw [List.take_length] at hd ⊢
  clear hkl hlt
  have hs := playS_ok Led0_ok l
  have hg := playS_good Led0_good Led0_ok l
  have hv := playS_inv Led0_ok Led0_inv l
  have hn := playS_num Led0_num l
  generalize playS Led0 l = s at cp hs hg hv hn hd ⊢
  have hlP := hs.lP
  have ca := as_ac s n hs hg
  have cb := as_ac s ((s.P.length : Int) + 5) hs hg
  rw [as_all] at cb
  have ra := ras_ac s H n hs hg
  have rb := ras_ac s H (s.P.length : Int) hs hg
  have sa := as_same hs hg hd n
  have sb := as_same hs hg hd (s.P.length : Int)
  have cs := same_ac s s H hs (Led.Eqv.refl _) hd (fun p hp => doc_held hd hs hv hp) (fun p hp => by have := (hg p hp).1; omega) hn
  generalize asS s n = a at ca ra sa
  generalize asS s (s.P.length : Int) = b at cb rb sb
  repeat' (first | ((with_reducible refine gA ?_); (first | refine AW_seq ?_ | refine AW_region ?_ | refine AW_regionD Try.mixed ?_ | (refine AW_cond rfl (fun hc => ?_) (fun hc => ?_) <;> try (exfalso; simp only [cmpL] at hc; omega)) | refine AW_ret ?_ | refine AW_exit ?_)) | (first | ((with_reducible refine gS ?_); refine Es_s (T := Try.tab) rfl rfl rfl rfl ?_) | ((with_reducible refine gD ?_); refine Ed_s (T := Try.tab) rfl rfl rfl rfl ?_)) | ((first | ((with_reducible refine gS ?_); apply Es_q) | ((with_reducible refine gD ?_); apply Ed_q)); rfl; rfl; (first | refine LStep_call (ra) rfl rfl rfl rfl | refine LStep_call (rb) rfl rfl rfl rfl)) | ((first | ((with_reducible refine gS ?_); apply Es_xg) | ((with_reducible refine gD ?_); apply Ed_xg)); rfl; rfl; (first | refine LStep_callHN [] [(5, 33), (5001, 3301), (5002, 3302), (5003, 3303)] cp rfl rfl trivial rfl trivial rfl rfl | refine LStep_callHN [(1000, 33), (1001, 3301), (1002, 3302), (1003, 3303)] [(10, 36), (6001, 3601), (6002, 3602), (6003, 3603)] ca rfl rfl ⟨rfl, rfl, rfl, rfl, trivial⟩ rfl ⟨trivial, trivial, rfl, trivial, trivial⟩ rfl rfl | refine LStep_callHN [(1000, 36), (1001, 3601), (1002, 3602), (1003, 3603)] [] sa rfl rfl ⟨rfl, rfl, rfl, rfl, trivial⟩ rfl ⟨trivial, trivial, rfl, trivial, trivial⟩ rfl rfl | refine LStep_callHN [(1000, 33), (1001, 3301), (1002, 3302), (1003, 3303)] [] cs rfl rfl ⟨rfl, rfl, rfl, rfl, trivial⟩ rfl ⟨trivial, trivial, rfl, trivial, trivial⟩ rfl rfl | refine LStep_callHN [(1000, 33), (1001, 3301), (1002, 3302), (1003, 3303)] [(10, 52), (6001, 5201), (6002, 5202), (6003, 5203)] cb rfl rfl ⟨rfl, rfl, rfl, rfl, trivial⟩ rfl ⟨trivial, trivial, rfl, trivial, trivial⟩ rfl rfl | refine LStep_callHN [(1000, 52), (1001, 5201), (1002, 5202), (1003, 5203)] [] sb rfl rfl ⟨rfl, rfl, rfl, rfl, trivial⟩ rfl ⟨trivial, trivial, rfl, trivial, trivial⟩ rfl rfl); rfl) | (((with_reducible refine gD ?_); apply Ed_q); rfl; rfl; (first | refine LStep_simp (T := Try.tab) rfl rfl | refine LStep_lenM (T := Try.tab) rfl rfl rfl rfl | (refine LStep_add rfl rfl rfl rfl ?_; (refine IntWalk.i64_in _ ?_; first | omega | (simp only [cmps] at *; omega))))) | (with_reducible refine Es_nil ?_) | ((with_reducible refine Ed_nil ?_ ?_); kernel_rfl) | (with_reducible refine then_n ?_) | (with_reducible refine then_e ?_) | ((with_reducible refine block_e ?_ ?_); rfl) | ((with_reducible refine gR ?_); first | refine ret1 rfl ?_ | refine ret2 rfl rfl ?_ | refine ret0 ?_ | refine end1 rfl ?_ | refine end0 ?_))
  all_goals rfl
end Go.Proofs.Ytbekoielblcbmaa
