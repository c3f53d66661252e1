import Derived.Test.YtldfncafkdmoiaaFO
import Derived.Test.YtldfncafkdmoiaaFM
import Derived.Test.YtldfncafkdmoiaaFF
namespace Go.Proofs.Ytldfncafkdmoiaa
open Go.SL
/-! ### the document's Same, Awards; awake -/
set_option maxRecDepth 10000 in
set_option maxHeartbeats 2000000 in
theorem psame_ac (a b : List Int) (ha : a.length ≤ 1048576) (hb : b.length ≤ 1048576) : AC Try.prog 21 [.d (.sl 1 (a.map nI)), .d (.sl 1 (b.map nI))] [] [] (fun r _ => r = .d (.sc (.bool (decide (a = b))))) := by
  by_cases hl : a.length = b.length
  · have g0 : (!(eqb (a.length : Nat) (b.length : Nat))) = false := by rw [eqb_t.2 (by omega)]; rfl
    refine AC_enter Try.func21 rfl Try.ntmps21 (rv := [.tmp 4]) rfl rfl (by simp) (fun w X G => ?_)
    repeat' (first | ((with_reducible refine gA ?_); (first | refine AW_seq ?_ | refine AW_region ?_ | (refine AW_condN rfl ?_ ?_; assumption) | refine AW_block ?_ | refine AW_skip ?_)) | ((with_reducible refine gS ?_); refine Es_s (T := Try.tab) rfl rfl rfl rfl ?_) | (((with_reducible refine gS ?_); apply Es_q); rfl; rfl; refine LStep_lenM (T := Try.tab) rfl rfl rfl rfl) | (with_reducible refine Es_nil ?_) | (with_reducible refine then_n ?_))
    refine AW_forE (S := Nat) (fun k => k ≤ a.length ∧ a.take k = b.take k) (fun k => [(5, .d (.sc (.int .i64 (k : Nat))))]) (fun _ => []) (fun k => a.length - k) 0 ⟨by omega, rfl⟩ (by (repeat' (first | exact trivial | exact rfl | (refine ⟨Or.inl rfl, ?_⟩) | (refine ⟨Or.inr rfl, ?_⟩) | (refine ⟨Or.inr trivial, ?_⟩) | (refine ⟨rfl, ?_⟩) | (refine ⟨?_, ?_⟩)))) (by (repeat' (first | exact trivial | exact rfl | (refine ⟨Or.inl rfl, ?_⟩) | (refine ⟨Or.inr rfl, ?_⟩) | (refine ⟨Or.inr trivial, ?_⟩) | (refine ⟨rfl, ?_⟩) | (refine ⟨?_, ?_⟩)))) ?_
    intro k ⟨hk, ht⟩
    by_cases hlt : k < a.length
    · obtain ⟨x, hx, _⟩ := drop_at hlt
      obtain ⟨y, hy, _⟩ := drop_at (l := b) (k := k) (by omega)
      have g1 : ltb (k : Nat) (a.length : Nat) = true := by rw [ltb_t]; omega
      by_cases he : x = y
      · subst he
        have g2 : (!(eqb x x)) = false := by rw [eqb_t.2 rfl]; rfl
        repeat' (first | ((with_reducible refine gA ?_); (first | refine AW_seq ?_ | refine AW_region ?_ | refine AW_regionD Try.mixed ?_ | (refine AW_condY rfl ?_ ?_; assumption) | (refine AW_condN rfl ?_ ?_; assumption) | refine AW_block ?_ | refine AW_skip ?_)) | (first | ((with_reducible refine gS ?_); refine Es_s (T := Try.tab) rfl rfl rfl rfl ?_) | ((with_reducible refine gD ?_); refine Ed_s (T := Try.tab) rfl rfl rfl rfl ?_)) | ((first | ((with_reducible refine gS ?_); apply Es_q) | ((with_reducible refine gD ?_); apply Ed_q)); rfl; rfl; (first | refine LStep_lenM (T := Try.tab) rfl rfl rfl rfl | (refine LStep_add rfl rfl rfl rfl ?_; (refine IntWalk.i64_in _ ?_; first | omega | (simp only [cmps] at *; omega))) | (refine LStep_indexM (T := Try.tab) (c := ?_) rfl rfl rfl rfl rfl rfl ?_; rotate_left; assumption))) | (with_reducible refine Es_nil ?_) | ((with_reducible refine Ed_nil ?_ ?_); kernel_rfl) | (with_reducible refine then_n ?_) | (with_reducible refine block_n ?_))
        all_goals first
          | (refine ⟨k + 1, ⟨by omega, by rw [take_at hx, take_at hy, ht]⟩, by omega, by (repeat' (first | exact trivial | exact rfl | (refine ⟨Or.inl rfl, ?_⟩) | (refine ⟨Or.inr rfl, ?_⟩) | (refine ⟨Or.inr trivial, ?_⟩) | (refine ⟨rfl, ?_⟩) | (refine ⟨?_, ?_⟩))), by (repeat' (first | exact trivial | exact rfl | (refine ⟨Or.inl rfl, ?_⟩) | (refine ⟨Or.inr rfl, ?_⟩) | (refine ⟨Or.inr trivial, ?_⟩) | (refine ⟨rfl, ?_⟩) | (refine ⟨?_, ?_⟩))), by (repeat' (first | exact trivial | exact rfl | (refine ⟨Or.inl rfl, ?_⟩) | (refine ⟨Or.inr rfl, ?_⟩) | (refine ⟨Or.inr trivial, ?_⟩) | (refine ⟨rfl, ?_⟩) | (refine ⟨?_, ?_⟩))), by (repeat' (first | exact trivial | exact rfl | (refine ⟨Or.inl rfl, ?_⟩) | (refine ⟨Or.inr rfl, ?_⟩) | (refine ⟨Or.inr trivial, ?_⟩) | (refine ⟨rfl, ?_⟩) | (refine ⟨?_, ?_⟩)))⟩; done)
          | trace_state
      · have g2 : (!(eqb x y)) = true := by rw [eqb_f.2 he]; rfl
        have hne : a ≠ b := by
          rintro rfl
          rw [hx] at hy
          exact he (Option.some.inj hy)
        rw [decide_eq_false hne]
        repeat' (first | ((with_reducible refine gA ?_); (first | refine AW_seq ?_ | refine AW_region ?_ | refine AW_regionD Try.mixed ?_ | (refine AW_condY rfl ?_ ?_; assumption) | refine AW_block ?_ | refine AW_ret ?_ | refine AW_skip ?_)) | (first | ((with_reducible refine gS ?_); refine Es_s (T := Try.tab) rfl rfl rfl rfl ?_) | ((with_reducible refine gD ?_); refine Ed_s (T := Try.tab) rfl rfl rfl rfl ?_)) | ((first | ((with_reducible refine gS ?_); apply Es_q) | ((with_reducible refine gD ?_); apply Ed_q)); rfl; rfl; (first | refine LStep_lenM (T := Try.tab) rfl rfl rfl rfl | (refine LStep_indexM (T := Try.tab) (c := ?_) rfl rfl rfl rfl rfl rfl ?_; rotate_left; assumption))) | (with_reducible refine Es_nil ?_) | ((with_reducible refine Ed_nil ?_ ?_); kernel_rfl) | (with_reducible refine then_n ?_) | (with_reducible refine then_r ?_) | (with_reducible refine block_r ?_) | ((with_reducible refine gR ?_); first | refine ret1 rfl ?_ | refine ret2 rfl rfl ?_ | refine ret0 ?_ | refine end1 rfl ?_ | refine end0 ?_))
        all_goals first
          | rfl
          | trace_state
    · have : k = a.length := by omega
      subst this
      have g1 : ltb (a.length : Nat) (a.length : Nat) = false := by rw [ltb_f]; omega
      have he : a = b := by rw [List.take_length, hl, List.take_length] at ht; exact ht
      rw [decide_eq_true he]
      repeat' (first | ((with_reducible refine gA ?_); (first | refine AW_seq ?_ | refine AW_region ?_ | (refine AW_condN rfl ?_ ?_; assumption) | refine AW_ret ?_ | refine AW_exit ?_)) | ((with_reducible refine gS ?_); refine Es_s (T := Try.tab) rfl rfl rfl rfl ?_) | (((with_reducible refine gS ?_); apply Es_q); rfl; rfl; refine LStep_lenM (T := Try.tab) rfl rfl rfl rfl) | (with_reducible refine Es_nil ?_) | (with_reducible refine then_n ?_) | (with_reducible refine then_e ?_) | ((with_reducible refine block_e ?_ ?_); rfl) | ((with_reducible refine gR ?_); first | refine ret1 rfl ?_ | refine ret2 rfl rfl ?_ | refine ret0 ?_ | refine end1 rfl ?_ | refine end0 ?_))
      all_goals first
        | rfl
        | trace_state
  · have hne : a ≠ b := by rintro rfl; exact hl rfl
    have g0 : (!(eqb (a.length : Nat) (b.length : Nat))) = true := by rw [eqb_f.2 (by omega)]; rfl
    rw [decide_eq_false hne]
    refine AC_enter Try.func21 rfl Try.ntmps21 (rv := [.tmp 4]) rfl rfl (by simp) (fun w X G => ?_)
    repeat' (first | ((with_reducible refine gA ?_); (first | refine AW_seq ?_ | refine AW_region ?_ | (refine AW_condY rfl ?_ ?_; assumption) | refine AW_ret ?_)) | ((with_reducible refine gS ?_); refine Es_s (T := Try.tab) rfl rfl rfl rfl ?_) | (((with_reducible refine gS ?_); apply Es_q); rfl; rfl; refine LStep_lenM (T := Try.tab) rfl rfl rfl rfl) | (with_reducible refine Es_nil ?_) | (with_reducible refine then_n ?_) | (with_reducible refine then_r ?_) | ((with_reducible refine gR ?_); first | refine ret1 rfl ?_ | refine ret2 rfl rfl ?_ | refine ret0 ?_ | refine end1 rfl ?_ | refine end0 ?_))
    all_goals first
      | rfl
      | trace_state
theorem eqS_aw : eqS Try.tab 5 49 = some [2, 2] := by kernel_rfl
theorem eqG_aw : Try.prog.eqGuardType Try.prog.depth 49 = false := by kernel_rfl
def awB (x y : Aw) : Bool := eqs x.1 y.1 && (eqs x.2 y.2 && true)
theorem awB_eq {x y : Aw} : awB x y = decide (x = y) := by
  rw [Bool.eq_iff_iff, decide_eq_true_eq]
  simp only [awB, Bool.and_eq_true, Bool.and_true, eqs_t]
  exact ⟨fun h => Prod.ext h.1 h.2, fun h => by subst h; exact ⟨rfl, rfl⟩⟩
set_option maxRecDepth 10000 in
set_option maxHeartbeats 2000000 in
theorem awards_ac (a b : List Aw) (ha : a.length ≤ 1048576) (hb : b.length ≤ 1048576) : AC Try.prog 23 [.d (.sl 2 (a.map awE)), .d (.sl 2 (b.map awE))] [] [] (fun r _ => r = .d (.sc (.bool (decide (a = b))))) := by
  by_cases hl : a.length = b.length
  · have g0 : (!(eqb (a.length : Nat) (b.length : Nat))) = false := by rw [eqb_t.2 (by omega)]; rfl
    refine AC_enter Try.func23 rfl Try.ntmps23 (rv := [.tmp 4]) rfl rfl (by simp) (fun w X G => ?_)
    repeat' (first | ((with_reducible refine gA ?_); (first | refine AW_seq ?_ | refine AW_region ?_ | (refine AW_condN rfl ?_ ?_; assumption) | refine AW_block ?_ | refine AW_skip ?_)) | ((with_reducible refine gS ?_); refine Es_s (T := Try.tab) rfl rfl rfl rfl ?_) | (((with_reducible refine gS ?_); apply Es_q); rfl; rfl; refine LStep_lenM (T := Try.tab) rfl rfl rfl rfl) | (with_reducible refine Es_nil ?_) | (with_reducible refine then_n ?_))
    refine AW_forE (S := Nat) (fun k => k ≤ a.length ∧ a.take k = b.take k) (fun k => [(5, .d (.sc (.int .i64 (k : Nat))))]) (fun _ => []) (fun k => a.length - k) 0 ⟨by omega, rfl⟩ (by (repeat' (first | exact trivial | exact rfl | (refine ⟨Or.inl rfl, ?_⟩) | (refine ⟨Or.inr rfl, ?_⟩) | (refine ⟨Or.inr trivial, ?_⟩) | (refine ⟨rfl, ?_⟩) | (refine ⟨?_, ?_⟩)))) (by (repeat' (first | exact trivial | exact rfl | (refine ⟨Or.inl rfl, ?_⟩) | (refine ⟨Or.inr rfl, ?_⟩) | (refine ⟨Or.inr trivial, ?_⟩) | (refine ⟨rfl, ?_⟩) | (refine ⟨?_, ?_⟩)))) ?_
    intro k ⟨hk, ht⟩
    by_cases hlt : k < a.length
    · obtain ⟨x, hx, _⟩ := drop_at hlt
      obtain ⟨y, hy, _⟩ := drop_at (l := b) (k := k) (by omega)
      have g1 : ltb (k : Nat) (a.length : Nat) = true := by rw [ltb_t]; omega
      have hq : awB x y = decide (x = y) := awB_eq
      by_cases he : x = y
      · subst he
        have g2 : (!(awB x x)) = false := by rw [hq, decide_eq_true rfl]; rfl
        repeat' (first | ((with_reducible refine gA ?_); (first | refine AW_seq ?_ | refine AW_region ?_ | refine AW_regionD Try.mixed ?_ | (refine AW_condY rfl ?_ ?_; assumption) | (refine AW_condN rfl ?_ ?_; assumption) | refine AW_block ?_ | refine AW_skip ?_)) | (first | ((with_reducible refine gS ?_); refine Es_s (T := Try.tab) rfl rfl rfl rfl ?_) | ((with_reducible refine gD ?_); refine Ed_s (T := Try.tab) rfl rfl rfl rfl ?_)) | ((first | ((with_reducible refine gS ?_); apply Es_q) | ((with_reducible refine gD ?_); apply Ed_q)); rfl; rfl; refine LStep_neqAgg (T := Try.tab) eqS_aw eqG_aw (by omega) rfl rfl rfl rfl rfl rfl) | ((first | ((with_reducible refine gS ?_); apply Es_q) | ((with_reducible refine gD ?_); apply Ed_q)); rfl; rfl; (first | refine LStep_lenM (T := Try.tab) rfl rfl rfl rfl | (refine LStep_add rfl rfl rfl rfl ?_; (refine IntWalk.i64_in _ ?_; first | omega | (simp only [cmps] at *; omega))) | (refine LStep_indexM (T := Try.tab) (c := ?_) rfl rfl rfl rfl rfl rfl ?_; rotate_left; assumption))) | (with_reducible refine Es_nil ?_) | ((with_reducible refine Ed_nil ?_ ?_); kernel_rfl) | (with_reducible refine then_n ?_) | (with_reducible refine block_n ?_))
        all_goals first
          | (refine ⟨k + 1, ⟨by omega, by rw [take_at hx, take_at hy, ht]⟩, by omega, by (repeat' (first | exact trivial | exact rfl | (refine ⟨Or.inl rfl, ?_⟩) | (refine ⟨Or.inr rfl, ?_⟩) | (refine ⟨Or.inr trivial, ?_⟩) | (refine ⟨rfl, ?_⟩) | (refine ⟨?_, ?_⟩))), by (repeat' (first | exact trivial | exact rfl | (refine ⟨Or.inl rfl, ?_⟩) | (refine ⟨Or.inr rfl, ?_⟩) | (refine ⟨Or.inr trivial, ?_⟩) | (refine ⟨rfl, ?_⟩) | (refine ⟨?_, ?_⟩))), by (repeat' (first | exact trivial | exact rfl | (refine ⟨Or.inl rfl, ?_⟩) | (refine ⟨Or.inr rfl, ?_⟩) | (refine ⟨Or.inr trivial, ?_⟩) | (refine ⟨rfl, ?_⟩) | (refine ⟨?_, ?_⟩))), by (repeat' (first | exact trivial | exact rfl | (refine ⟨Or.inl rfl, ?_⟩) | (refine ⟨Or.inr rfl, ?_⟩) | (refine ⟨Or.inr trivial, ?_⟩) | (refine ⟨rfl, ?_⟩) | (refine ⟨?_, ?_⟩)))⟩; done)
          | trace_state
      · have g2 : (!(awB x y)) = true := by rw [hq, decide_eq_false he]; rfl
        have hne : a ≠ b := by
          rintro rfl
          rw [hx] at hy
          exact he (Option.some.inj hy)
        rw [decide_eq_false hne]
        repeat' (first | ((with_reducible refine gA ?_); (first | refine AW_seq ?_ | refine AW_region ?_ | refine AW_regionD Try.mixed ?_ | (refine AW_condY rfl ?_ ?_; assumption) | refine AW_block ?_ | refine AW_ret ?_ | refine AW_skip ?_)) | (first | ((with_reducible refine gS ?_); refine Es_s (T := Try.tab) rfl rfl rfl rfl ?_) | ((with_reducible refine gD ?_); refine Ed_s (T := Try.tab) rfl rfl rfl rfl ?_)) | ((first | ((with_reducible refine gS ?_); apply Es_q) | ((with_reducible refine gD ?_); apply Ed_q)); rfl; rfl; refine LStep_neqAgg (T := Try.tab) eqS_aw eqG_aw (by omega) rfl rfl rfl rfl rfl rfl) | ((first | ((with_reducible refine gS ?_); apply Es_q) | ((with_reducible refine gD ?_); apply Ed_q)); rfl; rfl; (first | refine LStep_lenM (T := Try.tab) rfl rfl rfl rfl | (refine LStep_indexM (T := Try.tab) (c := ?_) rfl rfl rfl rfl rfl rfl ?_; rotate_left; assumption))) | (with_reducible refine Es_nil ?_) | ((with_reducible refine Ed_nil ?_ ?_); kernel_rfl) | (with_reducible refine then_n ?_) | (with_reducible refine then_r ?_) | (with_reducible refine block_r ?_) | ((with_reducible refine gR ?_); first | refine ret1 rfl ?_ | refine ret2 rfl rfl ?_ | refine ret0 ?_ | refine end1 rfl ?_ | refine end0 ?_))
        all_goals first
          | rfl
          | trace_state
    · have : k = a.length := by omega
      subst this
      have g1 : ltb (a.length : Nat) (a.length : Nat) = false := by rw [ltb_f]; omega
      have he : a = b := by rw [List.take_length, hl, List.take_length] at ht; exact ht
      rw [decide_eq_true he]
      repeat' (first | ((with_reducible refine gA ?_); (first | refine AW_seq ?_ | refine AW_region ?_ | (refine AW_condN rfl ?_ ?_; assumption) | refine AW_ret ?_ | refine AW_exit ?_)) | ((with_reducible refine gS ?_); refine Es_s (T := Try.tab) rfl rfl rfl rfl ?_) | (((with_reducible refine gS ?_); apply Es_q); rfl; rfl; refine LStep_lenM (T := Try.tab) rfl rfl rfl rfl) | (with_reducible refine Es_nil ?_) | (with_reducible refine then_n ?_) | (with_reducible refine then_e ?_) | ((with_reducible refine block_e ?_ ?_); rfl) | ((with_reducible refine gR ?_); first | refine ret1 rfl ?_ | refine ret2 rfl rfl ?_ | refine ret0 ?_ | refine end1 rfl ?_ | refine end0 ?_))
      all_goals first
        | rfl
        | trace_state
  · have hne : a ≠ b := by rintro rfl; exact hl rfl
    have g0 : (!(eqb (a.length : Nat) (b.length : Nat))) = true := by rw [eqb_f.2 (by omega)]; rfl
    rw [decide_eq_false hne]
    refine AC_enter Try.func23 rfl Try.ntmps23 (rv := [.tmp 4]) rfl rfl (by simp) (fun w X G => ?_)
    repeat' (first | ((with_reducible refine gA ?_); (first | refine AW_seq ?_ | refine AW_region ?_ | (refine AW_condY rfl ?_ ?_; assumption) | refine AW_ret ?_)) | ((with_reducible refine gS ?_); refine Es_s (T := Try.tab) rfl rfl rfl rfl ?_) | (((with_reducible refine gS ?_); apply Es_q); rfl; rfl; refine LStep_lenM (T := Try.tab) rfl rfl rfl rfl) | (with_reducible refine Es_nil ?_) | (with_reducible refine then_n ?_) | (with_reducible refine then_r ?_) | ((with_reducible refine gR ?_); first | refine ret1 rfl ?_ | refine ret2 rfl rfl ?_ | refine ret0 ?_ | refine end1 rfl ?_ | refine end0 ?_))
    all_goals first
      | rfl
      | trace_state
/-! ### the example -/
def exL : List Cl := [⟨⟨#[97]⟩, ⟨#[120]⟩, 1, 0, 4⟩, ⟨⟨#[98]⟩, ⟨#[120]⟩, 4, 0, 6⟩, ⟨⟨#[99]⟩, ⟨#[121]⟩, 4, 0, 6⟩]
theorem spl_ex : spl exL 10 := by
  intro u ws hu h0 hl hw hs
  have hl3 : ws.length ≤ 3 := hl
  have hw6 : ∀ x ∈ ws, x ≤ 6 := fun x hx => by
    obtain ⟨c, hc, rfl⟩ := hw x hx
    simp only [exL, List.mem_cons, List.not_mem_nil, or_false] at hc
    rcases hc with rfl | rfl | rfl <;> decide
  have lr : (shR u ws.sum ws).length = ws.length := by unfold shR; rw [List.length_map]
  refine split_ac u ws (by omega) h0 (by omega) (fun x hx => by have := hw6 x hx; omega) (fun _ => by omega) (fun w hx => ?_) (srtR20 _ _ lr (by omega))
  have h6 := hw6 w hx
  have hb : u * w ≤ 60 := Nat.mul_le_mul hu h6
  rw [Nat.div_eq_of_lt (by omega), Nat.mod_eq_of_lt (a := u * w) (b := 18446744073709551616) (by omega)]
  exact div64z_ac _ _ (by omega) (by omega)
theorem ex_may : exL.all mayC = true := by decide +kernel
theorem ex_mon : monN exL 10 5 = ([4, 3, 3], 0) := by decide +kernel
theorem ex_keys : akeys (bestM exL) = [⟨#[120]⟩, ⟨#[121]⟩] := by decide +kernel
theorem sortS_id {l : List ByteArray} (h : l.Pairwise fun x y => lts y x = false) : sortS l = l :=
  (sortS_perm l).eq_of_pairwise (le := fun x y => lts y x = false) (fun a b _ _ h1 h2 => lts_tri h2 h1) (sortS_sorted l) h
theorem ex_aw : awardL exL = [(⟨#[120]⟩, ⟨#[97]⟩), (⟨#[121]⟩, ⟨#[99]⟩)] := by
  have h1 : thingsL exL = [⟨#[120]⟩, ⟨#[121]⟩] := by
    unfold thingsL
    rw [ex_keys]
    exact sortS_id (by decide +kernel)
  unfold awardL
  rw [h1]
  decide +kernel
theorem ex_why : whyS ⟨⟨#[97]⟩, ⟨#[120]⟩, 1, 0, 4⟩ ⟨⟨#[98]⟩, ⟨#[120]⟩, 4, 0, 6⟩ = ⟨#[114, 105, 103, 104, 116]⟩ := by decide +kernel
end Go.Proofs.Ytldfncafkdmoiaa
