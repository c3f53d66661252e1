import Derived.Test.YtjlblnplofgpnaaGreatDoorDL
import Derived.Test.YtjlblnplofgpnaaGreatDoorDP
import Derived.Test.YtjlblnplofgpnaaGreatDoorAE
namespace Go.Proofs.YtjlblnplofgpnaaGreatDoor
open Go.SL
/-! ### the document's layer 14: Moments, Margins; layer 15: Lean, Safe, ahead, less -/
def momD (a b c d : Int) : List (List D) := [[.sc (.int .i64 a)], [.sc (.int .i64 b)], [.sc (.int .i64 c)], [.sc (.int .i64 d)]]
set_option maxRecDepth 10000 in
set_option maxHeartbeats 4000000 in
theorem rMoments_ac (S : Ship) (L : List Load) (hS : shipOk S = true) (hf : ∀ x ∈ L, fitOne S x = true) (hl : L.length ≤ 4096) : AC Tryz.prog 123 [.agg S.cs, .d (.sl 7 (L.map Load.enc))] [] [] (fun r _ => r = .d (.sl 1 (momD (sLong S L) (sCross S L) (sUp L) (wsum L)))) := by
  have hi : (1 ≤ S.bays ∧ S.bays ≤ 32) ∧ (1 ≤ S.rows ∧ S.rows ≤ 32) ∧ (1 ≤ S.tiers ∧ S.tiers ≤ 32) := by
    have h := hS
    simp only [shipOk, Bool.and_eq_true, frB_t] at h
    omega
  have z1 : sLong S (L.take 0) = 0 := rfl
  have z2 : sCross S (L.take 0) = 0 := rfl
  have z3 : sUp (L.take 0) = 0 := rfl
  have z4 : wsum (L.take 0) = 0 := rfl
  refine AC_enter Tryz.func123 rfl Tryz.ntmps123 (rv := [.tmp 4]) rfl rfl (by simp) (fun w X G => ?_)
  repeat' (first | ((with_reducible refine gA ?_); (first | refine AW_seq ?_ | refine AW_region ?_ | refine AW_block ?_)) | ((with_reducible refine gS ?_); refine Es_s (T := Tryz.tab) rfl rfl rfl rfl ?_) | (refine Es_skip rfl ?_ rfl ?_; (first | rfl | (refine w_tf ?_; assumption) | (refine w_ft ?_; assumption))) | (((with_reducible refine gS ?_); apply Es_xs); rfl; rfl; refine LStep_boxN rfl rfl rfl rfl rfl rfl; rfl) | (with_reducible refine Es_nil ?_) | (with_reducible refine then_n ?_))
  refine AW_forE (S := Nat) (fun k => k ≤ L.length) (fun k => [(9, .d (.sc (.int .i64 (k : Nat)))), (5, .d (.sc (.int .i64 (sLong S (L.take k))))), (6, .d (.sc (.int .i64 (sCross S (L.take k))))), (7, .d (.sc (.int .i64 (sUp (L.take k))))), (8, .d (.sc (.int .i64 (wsum (L.take k)))))]) (fun _ => []) (fun k => L.length - k) 0 (by omega) (by rw [z1, z2, z3, z4]; (repeat' (first | exact trivial | exact rfl | (refine ⟨Or.inl rfl, ?_⟩) | (refine ⟨Or.inr rfl, ?_⟩) | (refine ⟨Or.inr trivial, ?_⟩) | (refine ⟨rfl, ?_⟩) | (refine ⟨?_, ?_⟩)))) (by (repeat' (first | exact trivial | exact rfl | (refine ⟨Or.inl rfl, ?_⟩) | (refine ⟨Or.inr rfl, ?_⟩) | (refine ⟨Or.inr trivial, ?_⟩) | (refine ⟨rfl, ?_⟩) | (refine ⟨?_, ?_⟩)))) ?_
  intro k hk
  by_cases hlt : k < L.length
  · obtain ⟨x, hx, _⟩ := drop_at hlt
    have hta := take_at hx
    have hfa : ∀ y ∈ L.take k, fitOne S y = true := fun y hy => hf y (List.mem_of_mem_take hy)
    have hfa' : ∀ y ∈ L.take (k + 1), fitOne S y = true := fun y hy => hf y (List.mem_of_mem_take hy)
    have q1 : sLong S (L.take (k + 1)) = sLong S (L.take k) + x.w * (2 * x.sl.b - S.bays + 1) := by rw [hta]; simp [sLong, mLong]
    have q2 : sCross S (L.take (k + 1)) = sCross S (L.take k) + x.w * (2 * x.sl.r - S.rows + 1) := by rw [hta]; simp [sCross, mCross]
    have q3 : sUp (L.take (k + 1)) = sUp (L.take k) + x.w * x.sl.t := by rw [hta]; simp [sUp, mUp]
    have q4 : wsum (L.take (k + 1)) = wsum (L.take k) + x.w := by rw [hta, wsum_app]; simp [wsum]
    have b1 := moms_in hS hfa (by rw [List.length_take]; omega)
    have b2 := moms_in hS hfa' (by rw [List.length_take]; omega)
    rw [q1, q2, q3, q4] at b2
    have hxo := fitOne_t.1 (hf x (List.mem_of_getElem? hx))
    have p1 := mul_in (w := x.w) (q := 2 * x.sl.b - S.bays + 1) (by omega) (by omega)
    have p2 := mul_in (w := x.w) (q := 2 * x.sl.r - S.rows + 1) (by omega) (by omega)
    have p3 := mul_in (w := x.w) (q := x.sl.t) (by omega) (by omega)
    have g1 : ltb (k : Nat) (L.length : Nat) = true := by rw [ltb_t]; omega
    generalize sLong S (L.take k) = u1 at *
    generalize sCross S (L.take k) = u2 at *
    generalize sUp (L.take k) = u3 at *
    generalize wsum (L.take k) = u4 at *
    clear hfa z1 z2 z3 z4 hf hfa'
    repeat' (first | ((with_reducible refine gA ?_); (first | refine AW_seq ?_ | refine AW_region ?_ | refine AW_regionD Tryz.mixed ?_ | (refine AW_condY rfl ?_ ?_; assumption) | refine AW_block ?_ | refine AW_skip ?_)) | (first | ((with_reducible refine gS ?_); refine Es_s (T := Tryz.tab) rfl rfl rfl rfl ?_) | ((with_reducible refine gD ?_); refine Ed_s (T := Tryz.tab) rfl rfl rfl rfl ?_)) | ((first | ((with_reducible refine gS ?_); apply Es_q) | ((with_reducible refine gD ?_); apply Ed_q)); rfl; rfl; (first | refine LStep_lenM (T := Tryz.tab) rfl rfl rfl rfl | (refine LStep_add rfl rfl rfl rfl ?_; (refine IntWalk.i64_in _ ?_; first | omega | (simp only [cmps] at *; omega))) | (refine LStep_sub rfl rfl rfl rfl ?_; (refine IntWalk.i64_in _ ?_; first | omega | (simp only [cmps] at *; omega))) | (refine LStep_mul rfl rfl rfl rfl ?_; (refine IntWalk.i64_in _ ?_; first | omega | (simp only [cmps] at *; omega))) | (refine LStep_indexM (T := Tryz.tab) (c := ?_) rfl rfl rfl rfl rfl rfl ?_; rotate_left; assumption))) | (with_reducible refine Es_nil ?_) | ((with_reducible refine Ed_nil ?_ ?_); kernel_rfl) | (with_reducible refine then_n ?_) | (with_reducible refine block_n ?_))
    all_goals first
      | (refine ⟨k + 1, by omega, by omega, ?_, by (repeat' (first | exact trivial | exact rfl | (refine ⟨Or.inl rfl, ?_⟩) | (refine ⟨Or.inr rfl, ?_⟩) | (refine ⟨Or.inr trivial, ?_⟩) | (refine ⟨rfl, ?_⟩) | (refine ⟨?_, ?_⟩))), by (repeat' (first | exact trivial | exact rfl | (refine ⟨Or.inl rfl, ?_⟩) | (refine ⟨Or.inr rfl, ?_⟩) | (refine ⟨Or.inr trivial, ?_⟩) | (refine ⟨rfl, ?_⟩) | (refine ⟨?_, ?_⟩))), by (repeat' (first | exact trivial | exact rfl | (refine ⟨Or.inl rfl, ?_⟩) | (refine ⟨Or.inr rfl, ?_⟩) | (refine ⟨Or.inr trivial, ?_⟩) | (refine ⟨rfl, ?_⟩) | (refine ⟨?_, ?_⟩)))⟩
         rw [q1, q2, q3, q4]; (repeat' (first | exact trivial | exact rfl | (refine ⟨Or.inl rfl, ?_⟩) | (refine ⟨Or.inr rfl, ?_⟩) | (refine ⟨Or.inr trivial, ?_⟩) | (refine ⟨rfl, ?_⟩) | (refine ⟨?_, ?_⟩))))
      | trace_state
  · have : k = L.length := by omega
    subst this
    have g1 : ltb (L.length : Nat) (L.length : Nat) = false := by rw [ltb_f]; omega
    rw [List.take_length]
    repeat' (first | ((with_reducible refine gA ?_); (first | refine AW_seq ?_ | refine AW_region ?_ | (refine AW_condN rfl ?_ ?_; assumption) | refine AW_ret ?_ | refine AW_exit ?_)) | ((with_reducible refine gS ?_); refine Es_s (T := Tryz.tab) rfl rfl rfl rfl ?_) | (((with_reducible refine gS ?_); apply Es_q); rfl; rfl; (first | refine LStep_lenM (T := Tryz.tab) rfl rfl rfl rfl | (refine LStep_lit (T := Tryz.tab) rfl rfl rfl rfl rfl rfl rfl rfl ?_; (refine Nat.le_of_ble_eq_true ?_; rfl)))) | (with_reducible refine Es_nil ?_) | (with_reducible refine then_n ?_) | (with_reducible refine then_e ?_) | ((with_reducible refine block_e ?_ ?_); rfl) | ((with_reducible refine gR ?_); first | refine ret1 rfl ?_ | refine ret2 rfl rfl ?_ | refine ret0 ?_ | refine end1 rfl ?_ | refine end0 ?_))
    all_goals first
      | rfl
      | trace_state
theorem fitAll {S : Ship} {L : List Load} (h : fitL S L = true) : shipOk S = true ∧ (∀ x ∈ L, fitOne S x = true) ∧ L.length ≤ 4096 := by
  unfold fitL at h
  simp only [Bool.and_eq_true, decide_eq_true_eq, List.all_eq_true] at h
  exact ⟨h.1, h.2.2.1, h.2.1⟩
set_option maxRecDepth 10000 in
set_option maxHeartbeats 4000000 in
theorem rLean_ac (S : Ship) (L : List Load) (h : fitL S L = true) : AC Tryz.prog 89 [.agg S.cs, .d (.sl 7 (L.map Load.enc))] [] [] (fun r _ => r = .d (.sc (.int .i64 (leanL S L)))) := by
  obtain ⟨h1, h2, h3⟩ := fitAll h
  have cm := rMoments_ac S L h1 h2 h3
  have b1 := moms_in h1 h2 h3
  have c1 := rSize_ac (sLong S L) (by omega)
  have c2 := rSize_ac (sCross S L) (by omega)
  have m1 := maxI_in b1.1
  have m2 := maxI_in b1.2.1
  unfold leanL
  unfold momD at cm
  generalize maxI (sLong S L) (-(sLong S L)) = v1 at *
  generalize maxI (sCross S L) (-(sCross S L)) = v2 at *
  generalize sLong S L = u1 at *
  generalize sCross S L = u2 at *
  clear h h1 h2 h3
  refine AC_enter Tryz.func89 rfl Tryz.ntmps89 (rv := [.tmp 4]) rfl rfl (by simp) (fun w X G => ?_)
  repeat' (first | ((with_reducible refine gA ?_); (first | refine AW_seq ?_ | refine AW_region ?_ | refine AW_regionD Tryz.mixed ?_ | refine AW_ret ?_)) | (first | ((with_reducible refine gS ?_); refine Es_s (T := Tryz.tab) rfl rfl rfl rfl ?_) | ((with_reducible refine gD ?_); refine Ed_s (T := Tryz.tab) rfl rfl rfl rfl ?_)) | ((first | ((with_reducible refine gS ?_); apply Es_q) | ((with_reducible refine gD ?_); apply Ed_q)); rfl; rfl; (first | refine LStep_call (cm) rfl rfl rfl rfl | refine LStep_call (c1) rfl rfl rfl rfl | refine LStep_call (c2) rfl rfl rfl rfl)) | ((first | ((with_reducible refine gS ?_); apply Es_q) | ((with_reducible refine gD ?_); apply Ed_q)); rfl; rfl; (first | (refine LStep_add rfl rfl rfl rfl ?_; (refine IntWalk.i64_in _ ?_; first | omega | (simp only [cmps] at *; omega))) | (refine LStep_index (T := Tryz.tab) (c := ?_) rfl rfl rfl rfl rfl rfl ?_ ?_; rotate_left; omega; (first | assumption | rfl)))) | (refine Es_skip rfl ?_ rfl ?_; (first | rfl | (refine w_tf ?_; assumption) | (refine w_ft ?_; assumption))) | (((with_reducible refine gS ?_); apply Es_xs); rfl; rfl; refine LStep_boxN rfl rfl rfl rfl rfl rfl; rfl) | (with_reducible refine Es_nil ?_) | ((with_reducible refine Ed_nil ?_ ?_); kernel_rfl) | (with_reducible refine then_n ?_) | ((with_reducible refine gR ?_); first | refine ret1 rfl ?_ | refine ret2 rfl rfl ?_ | refine ret0 ?_ | refine end1 rfl ?_ | refine end0 ?_))
  all_goals first
    | rfl
    | trace_state
def marD (a b c d : Int) : List (List D) := [[.sc (.int .i64 a)], [.sc (.int .i64 b)], [.sc (.int .i64 c)], [.sc (.int .i64 d)]]
set_option maxRecDepth 10000 in
set_option maxHeartbeats 4000000 in
theorem rMargins_ac (S : Ship) (L : List Load) (h : fitL S L = true) : AC Tryz.prog 92 [.agg S.cs, .d (.sl 7 (L.map Load.enc))] [] [] (fun r _ => r = .d (.sl 1 (marD (S.trim * wsum L - maxI (sLong S L) (-(sLong S L))) (S.list * wsum L - maxI (sCross S L) (-(sCross S L))) (S.up * wsum L - sUp L) (S.most - wsum L)))) := by
  obtain ⟨h1, h2, h3⟩ := fitAll h
  have hi := ship_in2 h1
  have cm := rMoments_ac S L h1 h2 h3
  have b1 := moms_in h1 h2 h3
  have c1 := rSize_ac (sLong S L) (by omega)
  have c2 := rSize_ac (sCross S L) (by omega)
  have m1 := maxI_in b1.1
  have m2 := maxI_in b1.2.1
  have p1 := big_in hi.1 b1.2.2.2
  have p2 := big_in hi.2.1 b1.2.2.2
  have p3 := big_in hi.2.2.1 b1.2.2.2
  unfold marD
  unfold momD at cm
  generalize maxI (sLong S L) (-(sLong S L)) = v1 at *
  generalize maxI (sCross S L) (-(sCross S L)) = v2 at *
  generalize sLong S L = u1 at *
  generalize sCross S L = u2 at *
  generalize sUp L = u3 at *
  generalize wsum L = u4 at *
  clear h h1 h2 h3
  refine AC_enter Tryz.func92 rfl Tryz.ntmps92 (rv := [.tmp 4]) rfl rfl (by simp) (fun w X G => ?_)
  repeat' (first | ((with_reducible refine gA ?_); (first | refine AW_seq ?_ | refine AW_region ?_ | refine AW_regionD Tryz.mixed ?_ | refine AW_ret ?_)) | (first | ((with_reducible refine gS ?_); refine Es_s (T := Tryz.tab) rfl rfl rfl rfl ?_) | ((with_reducible refine gD ?_); refine Ed_s (T := Tryz.tab) rfl rfl rfl rfl ?_)) | ((first | ((with_reducible refine gS ?_); apply Es_q) | ((with_reducible refine gD ?_); apply Ed_q)); rfl; rfl; (first | refine LStep_call (cm) rfl rfl rfl rfl | refine LStep_call (c1) rfl rfl rfl rfl | refine LStep_call (c2) rfl rfl rfl rfl)) | ((first | ((with_reducible refine gS ?_); apply Es_q) | ((with_reducible refine gD ?_); apply Ed_q)); rfl; rfl; (first | (refine LStep_sub rfl rfl rfl rfl ?_; (refine IntWalk.i64_in _ ?_; first | omega | (simp only [cmps] at *; omega))) | (refine LStep_mul rfl rfl rfl rfl ?_; (refine IntWalk.i64_in _ ?_; first | omega | (simp only [cmps] at *; omega))) | (refine LStep_index (T := Tryz.tab) (c := ?_) rfl rfl rfl rfl rfl rfl ?_ ?_; rotate_left; omega; (first | assumption | rfl)) | (refine LStep_lit (T := Tryz.tab) rfl rfl rfl rfl rfl rfl rfl rfl ?_; (refine Nat.le_of_ble_eq_true ?_; rfl)))) | (refine Es_skip rfl ?_ rfl ?_; (first | rfl | (refine w_tf ?_; assumption) | (refine w_ft ?_; assumption))) | (((with_reducible refine gS ?_); apply Es_xs); rfl; rfl; refine LStep_boxN rfl rfl rfl rfl rfl rfl; rfl) | (with_reducible refine Es_nil ?_) | ((with_reducible refine Ed_nil ?_ ?_); kernel_rfl) | (with_reducible refine then_n ?_) | ((with_reducible refine gR ?_); first | refine ret1 rfl ?_ | refine ret2 rfl rfl ?_ | refine ret0 ?_ | refine end1 rfl ?_ | refine end0 ?_))
  all_goals first
    | rfl
    | trace_state
set_option maxRecDepth 10000 in
set_option maxHeartbeats 4000000 in
theorem rSafe_ac (S : Ship) (L : List Load) (hs : S.nm.size ≤ 9007199254740992) (hL : L.length ≤ 140737488351232) : AC Tryz.prog 51 [.agg S.cs, .d (.sl 7 (L.map Load.enc))] [] [] (fun r _ => r = .d (.sc (.int .i64 (safeE S L)))) := by
  have c1 := rFit_ac S L hs hL
  unfold safeE
  cases e1 : fitL S L with
  | false =>
    rw [e1] at c1
    refine AC_enter Tryz.func51 rfl Tryz.ntmps51 (rv := [.tmp 4]) rfl rfl (by simp) (fun w X G => ?_)
    repeat' (first | ((with_reducible refine gA ?_); (first | refine AW_seq ?_ | refine AW_region ?_ | refine AW_condT rfl ?_ | refine AW_ret ?_)) | ((with_reducible refine gS ?_); refine Es_s (T := Tryz.tab) rfl rfl rfl rfl ?_) | (((with_reducible refine gS ?_); apply Es_q); rfl; rfl; refine LStep_call (c1) rfl rfl rfl rfl) | (refine Es_skip rfl ?_ rfl ?_; (first | rfl | (refine w_tf ?_; assumption) | (refine w_ft ?_; assumption))) | (((with_reducible refine gS ?_); apply Es_xs); rfl; rfl; refine LStep_boxN rfl rfl rfl rfl rfl rfl; rfl) | (with_reducible refine Es_nil ?_) | (with_reducible refine then_n ?_) | (with_reducible refine then_r ?_) | ((with_reducible refine gR ?_); first | refine ret1 rfl ?_ | refine ret2 rfl rfl ?_ | refine ret0 ?_ | refine end1 rfl ?_ | refine end0 ?_))
    all_goals first
      | rfl
      | trace_state
  | true =>
    rw [e1] at c1
    have c2 := rMargins_ac S L e1
    rw [if_neg (by decide)]
    unfold sfE
    unfold marD at c2
    generalize S.trim * wsum L - maxI (sLong S L) (-sLong S L) = v1 at *
    generalize S.list * wsum L - maxI (sCross S L) (-sCross S L) = v2 at *
    generalize S.up * wsum L - sUp L = v3 at *
    generalize S.most - wsum L = v4 at *
    clear e1
    refine AC_enter Tryz.func51 rfl Tryz.ntmps51 (rv := [.tmp 4]) rfl rfl (by simp) (fun w X G => ?_)
    repeat' (first | ((with_reducible refine gA ?_); (first | refine AW_seq ?_ | refine AW_region ?_ | refine AW_condT rfl ?_ | refine AW_condF rfl ?_ | (refine AW_cond rfl (fun hc => ?_) (fun hc => ?_) <;> try (exfalso; simp only [cmpL] at hc; omega)) | refine AW_ret ?_ | refine AW_skip ?_)) | ((with_reducible refine gS ?_); refine Es_s (T := Tryz.tab) rfl rfl rfl rfl ?_) | (((with_reducible refine gS ?_); apply Es_q); rfl; (first | rfl | (refine w_ff ?_; assumption)); (first | refine LStep_call (c1) rfl rfl rfl rfl | refine LStep_call (c2) rfl rfl rfl rfl)) | (((with_reducible refine gS ?_); apply Es_q); rfl; (first | rfl | (refine w_ff ?_; assumption)); (first | refine LStep_simp (T := Tryz.tab) rfl rfl | (refine LStep_pickT rfl rfl ?_ rfl rfl; assumption) | (refine LStep_pickF rfl rfl ?_ rfl rfl; assumption) | (refine LStep_index (T := Tryz.tab) (c := ?_) rfl rfl rfl rfl rfl rfl ?_ ?_; rotate_left; omega; (first | assumption | rfl)))) | (refine Es_skip rfl ?_ rfl ?_; (first | rfl | (refine w_tf ?_; assumption) | (refine w_ft ?_; assumption))) | (((with_reducible refine gS ?_); apply Es_xs); rfl; rfl; refine LStep_boxN rfl rfl rfl rfl rfl rfl; rfl) | (refine Es_split rfl ?_ (fun _ => ?_) (fun _ => ?_); ((fail_if_success (refine und_t ?_; assumption)); (fail_if_success (refine und_f ?_; assumption)); exact trivial)) | (with_reducible refine Es_nil ?_) | (with_reducible refine then_n ?_) | (with_reducible refine then_r ?_) | ((with_reducible refine gR ?_); first | refine ret1 rfl ?_ | refine ret2 rfl rfl ?_ | refine ret0 ?_ | refine end1 rfl ?_ | refine end0 ?_))
    all_goals simp only [cmps] at *
    all_goals first
      | (rw [if_pos (by omega)]; done)
      | (rw [if_neg (by omega), if_pos (by omega)]; done)
      | (rw [if_neg (by omega), if_neg (by omega)]; done)
      | (exfalso; omega)
      | trace_state
def aheadS (a b : Sl) : Bool := decide (a.t < b.t ∨ (a.t = b.t ∧ (a.b < b.b ∨ (a.b = b.b ∧ a.r < b.r))))
set_option maxRecDepth 10000 in
theorem rahead_ac (a b : Sl) : AC Tryz.prog 90 [slA a, slA b] [] [] (fun r _ => r = .d (.sc (.bool (aheadS a b)))) := by
  unfold aheadS
  refine AC_enter Tryz.func90 rfl Tryz.ntmps90 (rv := [.tmp 4]) rfl rfl (by simp) (fun w X G => ?_)
  repeat' (first | ((with_reducible refine gA ?_); (first | refine AW_seq ?_ | refine AW_region ?_ | (refine AW_cond rfl (fun hc => ?_) (fun hc => ?_) <;> try (exfalso; simp only [cmpL] at hc; omega)) | refine AW_ret ?_ | refine AW_skip ?_)) | ((with_reducible refine gS ?_); refine Es_s (T := Tryz.tab) rfl rfl rfl rfl ?_) | (refine Es_skip rfl ?_ rfl ?_; (first | rfl | (refine w_tf ?_; assumption) | (refine w_ft ?_; assumption))) | (((with_reducible refine gS ?_); apply Es_xs); rfl; rfl; refine LStep_boxN rfl rfl rfl rfl rfl rfl; rfl) | (with_reducible refine Es_nil ?_) | (with_reducible refine then_n ?_) | (with_reducible refine then_r ?_) | ((with_reducible refine gR ?_); first | refine ret1 rfl ?_ | refine ret2 rfl rfl ?_ | refine ret0 ?_ | refine end1 rfl ?_ | refine end0 ?_))
  all_goals simp only [cmps] at *
  all_goals first
    | (refine congrArg (fun b => AV.d (D.sc (Value.bool b))) ?_; rw [ltb_d, decide_eq_decide]; omega)
    | trace_state
theorem ltO_w {a b : Load} (h1 : a.p = b.p) (h2 : a.w ≠ b.w) : ltb b.w a.w = ltO a b := by
  rw [Bool.eq_iff_iff, ltO_t, ltb_t]
  refine ⟨fun h => .inr ⟨h1, .inl h⟩, fun h => ?_⟩
  rcases h with h | ⟨_, h | ⟨h, _⟩⟩ <;> omega
theorem ltO_p {a b : Load} (h1 : a.p ≠ b.p) : ltb b.p a.p = ltO a b := by
  rw [Bool.eq_iff_iff, ltO_t, ltb_t]
  refine ⟨fun h => .inl h, fun h => ?_⟩
  rcases h with h | ⟨h, _⟩ <;> omega
set_option maxRecDepth 10000 in
theorem rless_ac (a b : Load) : AC Tryz.prog 46 [.agg a.cs2, .agg b.cs2] [] [] (fun r _ => r = .d (.sc (.bool (ltO a b)))) := by
  refine AC_enter Tryz.func46 rfl Tryz.ntmps46 (rv := [.tmp 4]) rfl rfl (by simp) (fun w X G => ?_)
  by_cases h1 : a.p = b.p
  · by_cases h2 : a.w = b.w
    · have e : ltO a b = lts a.box b.box := by
        rw [Bool.eq_iff_iff, ltO_t]
        constructor
        · rintro (h | ⟨_, h | ⟨_, h⟩⟩)
          · omega
          · omega
          · exact h
        · exact fun h => .inr ⟨h1, .inr ⟨h2, h⟩⟩
      rw [e]
      repeat' (first | ((with_reducible refine gA ?_); (first | refine AW_seq ?_ | refine AW_region ?_ | (refine AW_cond rfl (fun hc => ?_) (fun hc => ?_) <;> try (exfalso; simp only [cmpL] at hc; omega)) | refine AW_ret ?_ | refine AW_skip ?_)) | ((with_reducible refine gS ?_); refine Es_s (T := Tryz.tab) rfl rfl rfl rfl ?_) | (refine Es_skip rfl ?_ rfl ?_; (first | rfl | (refine w_tf ?_; assumption) | (refine w_ft ?_; assumption))) | (((with_reducible refine gS ?_); apply Es_xs); rfl; rfl; refine LStep_boxN rfl rfl rfl rfl rfl rfl; rfl) | (with_reducible refine Es_nil ?_) | (with_reducible refine then_n ?_) | ((with_reducible refine gR ?_); first | refine ret1 rfl ?_ | refine ret2 rfl rfl ?_ | refine ret0 ?_ | refine end1 rfl ?_ | refine end0 ?_))
      all_goals simp only [cmps] at *
      all_goals first
        | (exfalso; omega)
        | rfl
        | trace_state
    · repeat' (first | ((with_reducible refine gA ?_); (first | refine AW_seq ?_ | refine AW_region ?_ | (refine AW_cond rfl (fun hc => ?_) (fun hc => ?_) <;> try (exfalso; simp only [cmpL] at hc; omega)) | refine AW_ret ?_ | refine AW_skip ?_)) | ((with_reducible refine gS ?_); refine Es_s (T := Tryz.tab) rfl rfl rfl rfl ?_) | (refine Es_skip rfl ?_ rfl ?_; (first | rfl | (refine w_tf ?_; assumption) | (refine w_ft ?_; assumption))) | (((with_reducible refine gS ?_); apply Es_xs); rfl; rfl; refine LStep_boxN rfl rfl rfl rfl rfl rfl; rfl) | (with_reducible refine Es_nil ?_) | (with_reducible refine then_n ?_) | (with_reducible refine then_r ?_) | ((with_reducible refine gR ?_); first | refine ret1 rfl ?_ | refine ret2 rfl rfl ?_ | refine ret0 ?_ | refine end1 rfl ?_ | refine end0 ?_))
      all_goals simp only [cmps] at *
      all_goals first
        | (exfalso; omega)
        | (refine congrArg (fun b => AV.d (D.sc (Value.bool b))) ?_; exact ltO_w h1 h2)
        | trace_state
  · repeat' (first | ((with_reducible refine gA ?_); (first | refine AW_seq ?_ | refine AW_region ?_ | (refine AW_cond rfl (fun hc => ?_) (fun hc => ?_) <;> try (exfalso; simp only [cmpL] at hc; omega)) | refine AW_ret ?_)) | ((with_reducible refine gS ?_); refine Es_s (T := Tryz.tab) rfl rfl rfl rfl ?_) | (refine Es_skip rfl ?_ rfl ?_; (first | rfl | (refine w_tf ?_; assumption) | (refine w_ft ?_; assumption))) | (((with_reducible refine gS ?_); apply Es_xs); rfl; rfl; refine LStep_boxN rfl rfl rfl rfl rfl rfl; rfl) | (with_reducible refine Es_nil ?_) | (with_reducible refine then_n ?_) | (with_reducible refine then_r ?_) | ((with_reducible refine gR ?_); first | refine ret1 rfl ?_ | refine ret2 rfl rfl ?_ | refine ret0 ?_ | refine end1 rfl ?_ | refine end0 ?_))
    all_goals simp only [cmps] at *
    all_goals first
      | (exfalso; omega)
      | (refine congrArg (fun b => AV.d (D.sc (Value.bool b))) ?_; exact ltO_p h1)
      | trace_state
end Go.Proofs.YtjlblnplofgpnaaGreatDoor
namespace Go.Proofs.YtjlblnplofgpnaaGreatDoor
open Go.SL
/-! ### the document's Order, Sorted, put -/
theorem insL_stop {lt : Load → Load → Bool} {x : Load} {B : List Load} (hB : ∀ y, B[0]? = some y → lt x y = true) : ∀ {A : List Load}, (∀ y ∈ A, lt x y = false) → insL lt x (A ++ B) = A ++ x :: B
  | [], _ => by
    cases B with
    | nil => rfl
    | cons y B =>
      show insL lt x (y :: B) = _
      unfold insL
      rw [if_pos (hB y rfl)]
      rfl
  | y :: A, h => by
    rw [List.cons_append]
    unfold insL
    rw [if_neg (by rw [h y List.mem_cons_self]; decide), insL_stop hB (fun z hz => h z (List.mem_cons_of_mem _ hz))]
    rfl
theorem insO_at {x : Load} {M : List Load} {k : Nat} (hk : k ≤ M.length) (h1 : ∀ y ∈ M.take k, ltO x y = false) (h2 : ∀ y, M[k]? = some y → ltO x y = true) : (insL ltO x M).map Load.enc = [] ++ ((M.take ((k : Nat) : Int).toNat).drop (0 : Int).toNat).map Load.enc ++ [x.enc] ++ ((M.take (((M.map Load.enc).length : Nat) : Int).toNat).drop ((k : Nat) : Int).toNat).map Load.enc := by
  have h := insL_stop (lt := ltO) (x := x) (A := M.take k) (B := M.drop k) (fun y hy => h2 y (by rw [List.getElem?_drop] at hy; exact hy)) h1
  rw [List.take_append_drop] at h
  rw [h]
  simp
set_option maxRecDepth 10000 in
set_option maxHeartbeats 8000000 in
theorem rOrder_ac (l : List Load) (hl : l.length ≤ 1048576) : AC Tryz.prog 16 [.d (.sl 7 (l.map Load.enc))] [] [] (fun r _ => r = .d (.sl 7 ((isL ltO l).map Load.enc))) := by
  refine AC_enter Tryz.func16 rfl Tryz.ntmps16 (rv := [.tmp 2]) rfl rfl (by simp) (fun w X G => ?_)
  repeat' (first | ((with_reducible refine gA ?_); (first | refine AW_seq ?_ | refine AW_region ?_ | refine AW_block ?_)) | ((with_reducible refine gS ?_); refine Es_s (T := Tryz.tab) rfl rfl rfl rfl ?_) | (((with_reducible refine gS ?_); apply Es_q); rfl; rfl; (refine LStep_lit (T := Tryz.tab) rfl rfl rfl rfl rfl rfl rfl rfl ?_; (refine Nat.le_of_ble_eq_true ?_; rfl))) | (with_reducible refine Es_nil ?_) | (with_reducible refine then_n ?_))
  refine AW_forE (S := Nat) (fun i => i ≤ l.length) (fun i => [(4, .d (.sc (.int .i64 (i : Nat)))), (3, .d (.sl 7 ((isL ltO (l.take i)).map Load.enc)))]) (fun _ => []) (fun i => l.length - i) 0 (by omega) (by (repeat' (first | exact trivial | exact rfl | (refine ⟨Or.inl rfl, ?_⟩) | (refine ⟨Or.inr rfl, ?_⟩) | (refine ⟨Or.inr trivial, ?_⟩) | (refine ⟨rfl, ?_⟩) | (refine ⟨?_, ?_⟩)))) (by (repeat' (first | exact trivial | exact rfl | (refine ⟨Or.inl rfl, ?_⟩) | (refine ⟨Or.inr rfl, ?_⟩) | (refine ⟨Or.inr trivial, ?_⟩) | (refine ⟨rfl, ?_⟩) | (refine ⟨?_, ?_⟩)))) ?_
  intro i hi
  by_cases hlt : i < l.length
  · obtain ⟨x, hx, _⟩ := drop_at hlt
    have hst : isL ltO (l.take (i + 1)) = insL ltO x (isL ltO (l.take i)) := by rw [take_at hx, isL_snoc]
    have hml : (isL ltO (l.take i)).length ≤ 1048576 := by rw [(isL_perm _).length_eq, List.length_take]; omega
    have g1 : ltb (i : Nat) (l.length : Nat) = true := by rw [ltb_t]; omega
    generalize isL ltO (l.take i) = M at *
    repeat' (first | ((with_reducible refine gA ?_); (first | refine AW_seq ?_ | refine AW_region ?_ | (refine AW_condY rfl ?_ ?_; assumption) | refine AW_block ?_ | refine AW_skip ?_)) | ((with_reducible refine gS ?_); refine Es_s (T := Tryz.tab) rfl rfl rfl rfl ?_) | (((with_reducible refine gS ?_); apply Es_q); rfl; rfl; refine LStep_lenM (T := Tryz.tab) rfl rfl rfl rfl) | (with_reducible refine Es_nil ?_) | (with_reducible refine then_n ?_))
    refine AW_forE (S := Nat) (fun k => k ≤ M.length ∧ ∀ y ∈ M.take k, ltO x y = false) (fun k => [(5, .d (.sc (.int .i64 (k : Nat))))]) (fun _ => []) (fun k => M.length - k) 0 ⟨by omega, by simp⟩ (by (repeat' (first | exact trivial | exact rfl | (refine ⟨Or.inl rfl, ?_⟩) | (refine ⟨Or.inr rfl, ?_⟩) | (refine ⟨Or.inr trivial, ?_⟩) | (refine ⟨rfl, ?_⟩) | (refine ⟨?_, ?_⟩)))) (by (repeat' (first | exact trivial | exact rfl | (refine ⟨Or.inl rfl, ?_⟩) | (refine ⟨Or.inr rfl, ?_⟩) | (refine ⟨Or.inr trivial, ?_⟩) | (refine ⟨rfl, ?_⟩) | (refine ⟨?_, ?_⟩)))) ?_
    intro k ⟨hk, hf⟩
    have fin : (∀ y, M[k]? = some y → ltO x y = true) → (isL ltO (l.take (i + 1))).map Load.enc = [] ++ ((M.take ((k : Nat) : Int).toNat).drop (0 : Int).toNat).map Load.enc ++ [x.enc] ++ ((M.take (((M.map Load.enc).length : Nat) : Int).toNat).drop ((k : Nat) : Int).toNat).map Load.enc := fun h => by
      rw [hst]; exact insO_at hk hf h
    have hb1 : ((M.take ((k : Nat) : Int).toNat).drop (0 : Int).toNat).length ≤ 1048576 := by simp; omega
    have hb2 : ((M.take ((M.length : Nat) : Int).toNat).drop ((k : Nat) : Int).toNat).length ≤ 1048576 := by simp; omega
    by_cases hlk : k < M.length
    · obtain ⟨y, hy, _⟩ := drop_at hlk
      have cl := rless_ac x y
      have g2 : ltb (k : Nat) (M.length : Nat) = true := by rw [ltb_t]; omega
      cases e : ltO x y with
      | false =>
        rw [e] at cl
        repeat' (first | ((with_reducible refine gA ?_); (first | refine AW_seq ?_ | refine AW_region ?_ | refine AW_regionD Tryz.mixed ?_ | refine AW_condT rfl ?_ | refine AW_block ?_ | refine AW_skip ?_)) | (first | ((with_reducible refine gS ?_); refine Es_s (T := Tryz.tab) rfl rfl rfl rfl ?_) | ((with_reducible refine gD ?_); refine Ed_s (T := Tryz.tab) rfl rfl rfl rfl ?_)) | ((first | ((with_reducible refine gS ?_); apply Es_q) | ((with_reducible refine gD ?_); apply Ed_q)); rfl; (first | rfl | (refine w_tt ?_; assumption)); refine LStep_call (cl) rfl rfl rfl rfl) | ((first | ((with_reducible refine gS ?_); apply Es_q) | ((with_reducible refine gD ?_); apply Ed_q)); rfl; (first | rfl | (refine w_tt ?_; assumption)); (first | refine LStep_simp (T := Tryz.tab) rfl rfl | refine LStep_lenM (T := Tryz.tab) rfl rfl rfl rfl | (refine LStep_add rfl rfl rfl rfl ?_; (refine IntWalk.i64_in _ ?_; first | omega | (simp only [cmps] at *; omega))) | (refine LStep_pickT rfl rfl ?_ rfl rfl; assumption) | (refine LStep_indexM (T := Tryz.tab) (c := ?_) rfl rfl rfl rfl rfl rfl ?_; rotate_left; assumption))) | (with_reducible refine Es_nil ?_) | ((with_reducible refine Ed_nil ?_ ?_); kernel_rfl) | (with_reducible refine then_n ?_) | (with_reducible refine block_n ?_))
        all_goals first
          | (refine ⟨k + 1, ⟨by omega, fun z hz => ?_⟩, by omega, by (repeat' (first | exact trivial | exact rfl | (refine ⟨Or.inl rfl, ?_⟩) | (refine ⟨Or.inr rfl, ?_⟩) | (refine ⟨Or.inr trivial, ?_⟩) | (refine ⟨rfl, ?_⟩) | (refine ⟨?_, ?_⟩))), by (repeat' (first | exact trivial | exact rfl | (refine ⟨Or.inl rfl, ?_⟩) | (refine ⟨Or.inr rfl, ?_⟩) | (refine ⟨Or.inr trivial, ?_⟩) | (refine ⟨rfl, ?_⟩) | (refine ⟨?_, ?_⟩))), by (repeat' (first | exact trivial | exact rfl | (refine ⟨Or.inl rfl, ?_⟩) | (refine ⟨Or.inr rfl, ?_⟩) | (refine ⟨Or.inr trivial, ?_⟩) | (refine ⟨rfl, ?_⟩) | (refine ⟨?_, ?_⟩))), by (repeat' (first | exact trivial | exact rfl | (refine ⟨Or.inl rfl, ?_⟩) | (refine ⟨Or.inr rfl, ?_⟩) | (refine ⟨Or.inr trivial, ?_⟩) | (refine ⟨rfl, ?_⟩) | (refine ⟨?_, ?_⟩)))⟩
             rw [take_at hy] at hz
             rcases List.mem_append.1 hz with q | q
             · exact hf z q
             · rw [List.mem_singleton.1 q]; exact e)
          | trace_state
      | true =>
        rw [e] at cl
        have fin := fin (fun z hz => by rw [hy] at hz; rw [← Option.some.inj hz]; exact e)
        repeat' (first | ((with_reducible refine gA ?_); (first | refine AW_seq ?_ | refine AW_region ?_ | refine AW_regionD Tryz.mixed ?_ | refine AW_condF rfl ?_ | refine AW_exit ?_)) | (first | ((with_reducible refine gS ?_); refine Es_s (T := Tryz.tab) rfl rfl rfl rfl ?_) | ((with_reducible refine gD ?_); refine Ed_s (T := Tryz.tab) rfl rfl rfl rfl ?_)) | ((first | ((with_reducible refine gS ?_); apply Es_q) | ((with_reducible refine gD ?_); apply Ed_q)); rfl; (first | rfl | (refine w_tt ?_; assumption)); refine LStep_call (cl) rfl rfl rfl rfl) | ((first | ((with_reducible refine gS ?_); apply Es_xs) | ((with_reducible refine gD ?_); apply Ed_xs)); rfl; (first | rfl | (refine w_tt ?_; assumption)); (first | (refine LStep_litOwn (T := Tryz.tab) (len := 0) rfl rfl rfl rfl rfl rfl rfl rfl rfl rfl ?_ ?_; (refine Nat.le_of_ble_eq_true ?_; rfl); (unfold maxLen; omega)) | (refine LStep_appendD (T := Tryz.tab) (dst := 45) 31 rfl rfl rfl rfl rfl rfl rfl rfl rfl rfl rfl ?_ ?_ ?_; rfl; (simp only [List.length_map, List.length_nil, List.length_cons, List.length_append]; omega); (unfold maxLen; simp only [List.length_map, List.length_nil, List.length_cons, List.length_append]; omega)) | (refine LStep_append (T := Tryz.tab) rfl rfl rfl rfl rfl rfl rfl rfl rfl rfl ?_ ?_ ?_; rfl; (simp only [List.length_map, List.length_nil, List.length_cons, List.length_append]; omega); (unfold maxLen; simp only [List.length_map, List.length_nil, List.length_cons, List.length_append]; omega))); rfl) | ((first | ((with_reducible refine gS ?_); apply Es_q) | ((with_reducible refine gD ?_); apply Ed_q)); rfl; (first | rfl | (refine w_tt ?_; assumption)); (first | refine LStep_simp (T := Tryz.tab) rfl rfl | refine LStep_lenM (T := Tryz.tab) rfl rfl rfl rfl | (refine LStep_add rfl rfl rfl rfl ?_; (refine IntWalk.i64_in _ ?_; first | omega | (simp only [cmps] at *; omega))) | (refine LStep_pickT rfl rfl ?_ rfl rfl; assumption) | (refine LStep_indexM (T := Tryz.tab) (c := ?_) rfl rfl rfl rfl rfl rfl ?_; rotate_left; assumption) | (refine LStep_partM (T := Tryz.tab) rfl rfl rfl rfl rfl rfl rfl ?_ ?_ ?_; omega; (first | omega | (simp only [List.length_map]; omega)); (first | omega | (simp only [List.length_map]; omega))) | (refine LStep_lit (T := Tryz.tab) rfl rfl rfl rfl rfl rfl rfl rfl ?_; (refine Nat.le_of_ble_eq_true ?_; rfl)))) | (with_reducible refine Es_nil ?_) | ((with_reducible refine Ed_nil ?_ ?_); kernel_rfl) | (with_reducible refine then_n ?_) | (with_reducible refine then_e ?_) | (with_reducible refine block_n ?_) | ((with_reducible refine block_e ?_ ?_); rfl))
        all_goals first
          | (refine ⟨i + 1, by omega, by omega, ?_, by (repeat' (first | exact trivial | exact rfl | (refine ⟨Or.inl rfl, ?_⟩) | (refine ⟨Or.inr rfl, ?_⟩) | (refine ⟨Or.inr trivial, ?_⟩) | (refine ⟨rfl, ?_⟩) | (refine ⟨?_, ?_⟩))), by (repeat' (first | exact trivial | exact rfl | (refine ⟨Or.inl rfl, ?_⟩) | (refine ⟨Or.inr rfl, ?_⟩) | (refine ⟨Or.inr trivial, ?_⟩) | (refine ⟨rfl, ?_⟩) | (refine ⟨?_, ?_⟩))), by (repeat' (first | exact trivial | exact rfl | (refine ⟨Or.inl rfl, ?_⟩) | (refine ⟨Or.inr rfl, ?_⟩) | (refine ⟨Or.inr trivial, ?_⟩) | (refine ⟨rfl, ?_⟩) | (refine ⟨?_, ?_⟩)))⟩
             rw [fin]; (repeat' (first | exact trivial | exact rfl | (refine ⟨Or.inl rfl, ?_⟩) | (refine ⟨Or.inr rfl, ?_⟩) | (refine ⟨Or.inr trivial, ?_⟩) | (refine ⟨rfl, ?_⟩) | (refine ⟨?_, ?_⟩))))
          | trace_state
    · have : k = M.length := by omega
      subst this
      have fin := fin (fun z hz => by rw [List.getElem?_eq_none (by omega)] at hz; cases hz)
      have g2 : ltb (M.length : Nat) (M.length : Nat) = false := by rw [ltb_f]; omega
      repeat' (first | ((with_reducible refine gA ?_); (first | refine AW_seq ?_ | refine AW_region ?_ | refine AW_regionD Tryz.mixed ?_ | refine AW_condF rfl ?_ | refine AW_exit ?_)) | (first | ((with_reducible refine gS ?_); refine Es_s (T := Tryz.tab) rfl rfl rfl rfl ?_) | ((with_reducible refine gD ?_); refine Ed_s (T := Tryz.tab) rfl rfl rfl rfl ?_)) | ((first | ((with_reducible refine gS ?_); apply Es_xs) | ((with_reducible refine gD ?_); apply Ed_xs)); rfl; rfl; (first | (refine LStep_litOwn (T := Tryz.tab) (len := 0) rfl rfl rfl rfl rfl rfl rfl rfl rfl rfl ?_ ?_; (refine Nat.le_of_ble_eq_true ?_; rfl); (unfold maxLen; omega)) | (refine LStep_appendD (T := Tryz.tab) (dst := 45) 31 rfl rfl rfl rfl rfl rfl rfl rfl rfl rfl rfl ?_ ?_ ?_; rfl; (simp only [List.length_map, List.length_nil, List.length_cons, List.length_append]; omega); (unfold maxLen; simp only [List.length_map, List.length_nil, List.length_cons, List.length_append]; omega)) | (refine LStep_append (T := Tryz.tab) rfl rfl rfl rfl rfl rfl rfl rfl rfl rfl ?_ ?_ ?_; rfl; (simp only [List.length_map, List.length_nil, List.length_cons, List.length_append]; omega); (unfold maxLen; simp only [List.length_map, List.length_nil, List.length_cons, List.length_append]; omega))); rfl) | ((first | ((with_reducible refine gS ?_); apply Es_q) | ((with_reducible refine gD ?_); apply Ed_q)); rfl; rfl; (first | refine LStep_lenM (T := Tryz.tab) rfl rfl rfl rfl | (refine LStep_add rfl rfl rfl rfl ?_; (refine IntWalk.i64_in _ ?_; first | omega | (simp only [cmps] at *; omega))) | (refine LStep_pickF rfl rfl ?_ rfl rfl; assumption) | (refine LStep_indexM (T := Tryz.tab) (c := ?_) rfl rfl rfl rfl rfl rfl ?_; rotate_left; assumption) | (refine LStep_partM (T := Tryz.tab) rfl rfl rfl rfl rfl rfl rfl ?_ ?_ ?_; omega; (first | omega | (simp only [List.length_map]; omega)); (first | omega | (simp only [List.length_map]; omega))) | (refine LStep_lit (T := Tryz.tab) rfl rfl rfl rfl rfl rfl rfl rfl ?_; (refine Nat.le_of_ble_eq_true ?_; rfl)))) | (refine Ed_skip rfl ?_ rfl ?_; (first | rfl | (refine w_tf ?_; assumption) | (refine w_ft ?_; assumption))) | (with_reducible refine Es_nil ?_) | ((with_reducible refine Ed_nil ?_ ?_); kernel_rfl) | (with_reducible refine then_n ?_) | (with_reducible refine then_e ?_) | (with_reducible refine block_n ?_) | ((with_reducible refine block_e ?_ ?_); rfl))
      all_goals first
        | (refine ⟨i + 1, by omega, by omega, ?_, by (repeat' (first | exact trivial | exact rfl | (refine ⟨Or.inl rfl, ?_⟩) | (refine ⟨Or.inr rfl, ?_⟩) | (refine ⟨Or.inr trivial, ?_⟩) | (refine ⟨rfl, ?_⟩) | (refine ⟨?_, ?_⟩))), by (repeat' (first | exact trivial | exact rfl | (refine ⟨Or.inl rfl, ?_⟩) | (refine ⟨Or.inr rfl, ?_⟩) | (refine ⟨Or.inr trivial, ?_⟩) | (refine ⟨rfl, ?_⟩) | (refine ⟨?_, ?_⟩))), by (repeat' (first | exact trivial | exact rfl | (refine ⟨Or.inl rfl, ?_⟩) | (refine ⟨Or.inr rfl, ?_⟩) | (refine ⟨Or.inr trivial, ?_⟩) | (refine ⟨rfl, ?_⟩) | (refine ⟨?_, ?_⟩)))⟩
           rw [fin]; (repeat' (first | exact trivial | exact rfl | (refine ⟨Or.inl rfl, ?_⟩) | (refine ⟨Or.inr rfl, ?_⟩) | (refine ⟨Or.inr trivial, ?_⟩) | (refine ⟨rfl, ?_⟩) | (refine ⟨?_, ?_⟩))))
        | trace_state
  · have : i = l.length := by omega
    subst this
    have g1 : ltb (l.length : Nat) (l.length : Nat) = false := by rw [ltb_f]; omega
    rw [List.take_length]
    repeat' (first | ((with_reducible refine gA ?_); (first | refine AW_seq ?_ | refine AW_region ?_ | (refine AW_condN rfl ?_ ?_; assumption) | refine AW_ret ?_ | refine AW_exit ?_)) | ((with_reducible refine gS ?_); refine Es_s (T := Tryz.tab) rfl rfl rfl rfl ?_) | (((with_reducible refine gS ?_); apply Es_q); rfl; rfl; refine LStep_lenM (T := Tryz.tab) rfl rfl rfl rfl) | (with_reducible refine Es_nil ?_) | (with_reducible refine then_n ?_) | (with_reducible refine then_e ?_) | ((with_reducible refine block_e ?_ ?_); rfl) | ((with_reducible refine gR ?_); first | refine ret1 rfl ?_ | refine ret2 rfl rfl ?_ | refine ret0 ?_ | refine end1 rfl ?_ | refine end0 ?_))
    all_goals first
      | rfl
      | trace_state
theorem lsort_snoc (L : List Load) (x : Load) : lsort (L ++ [x]) = insD x (lsort L) := by unfold lsort; rw [List.foldl_append]; rfl
theorem lsort_len (L : List Load) : (lsort L).length = L.length := by
  induction L using lsnoc with
  | h0 => rfl
  | h1 L x ih => rw [lsort_snoc, (insD_perm x _).length_eq, List.length_cons, ih, List.length_append]; rfl
set_option maxRecDepth 10000 in
set_option maxHeartbeats 2000000 in
theorem rSorted_ac (l : List Load) (hl : l.length ≤ 1048576) : AC Tryz.prog 52 [.d (.sl 7 (l.map Load.enc))] [] [] (fun r _ => r = .d (.sl 7 ((lsort l).map Load.enc))) := by
  refine AC_enter Tryz.func52 rfl Tryz.ntmps52 (rv := [.tmp 2]) rfl rfl (by simp) (fun w X G => ?_)
  repeat' (first | ((with_reducible refine gA ?_); (first | refine AW_seq ?_ | refine AW_region ?_ | refine AW_block ?_)) | ((with_reducible refine gS ?_); refine Es_s (T := Tryz.tab) rfl rfl rfl rfl ?_) | (((with_reducible refine gS ?_); apply Es_q); rfl; rfl; (refine LStep_lit (T := Tryz.tab) rfl rfl rfl rfl rfl rfl rfl rfl ?_; (refine Nat.le_of_ble_eq_true ?_; rfl))) | (with_reducible refine Es_nil ?_) | (with_reducible refine then_n ?_))
  refine AW_forE (S := Nat) (fun i => i ≤ l.length) (fun i => [(4, .d (.sc (.int .i64 (i : Nat)))), (3, .d (.sl 7 ((lsort (l.take i)).map Load.enc)))]) (fun _ => []) (fun i => l.length - i) 0 (by omega) (by (repeat' (first | exact trivial | exact rfl | (refine ⟨Or.inl rfl, ?_⟩) | (refine ⟨Or.inr rfl, ?_⟩) | (refine ⟨Or.inr trivial, ?_⟩) | (refine ⟨rfl, ?_⟩) | (refine ⟨?_, ?_⟩)))) (by (repeat' (first | exact trivial | exact rfl | (refine ⟨Or.inl rfl, ?_⟩) | (refine ⟨Or.inr rfl, ?_⟩) | (refine ⟨Or.inr trivial, ?_⟩) | (refine ⟨rfl, ?_⟩) | (refine ⟨?_, ?_⟩)))) ?_
  intro i hi
  by_cases hlt : i < l.length
  · obtain ⟨x, hx, _⟩ := drop_at hlt
    have hst : lsort (l.take (i + 1)) = insD x (lsort (l.take i)) := by rw [take_at hx, lsort_snoc]
    have cp := rPut_ac (lsort (l.take i)) x (by rw [lsort_len, List.length_take]; omega)
    have g1 : ltb (i : Nat) (l.length : Nat) = true := by rw [ltb_t]; omega
    rw [← hst] at cp
    generalize lsort (l.take i) = M at *
    repeat' (first | ((with_reducible refine gA ?_); (first | refine AW_seq ?_ | refine AW_region ?_ | (refine AW_condY rfl ?_ ?_; assumption) | refine AW_block ?_ | refine AW_skip ?_)) | ((with_reducible refine gS ?_); refine Es_s (T := Tryz.tab) rfl rfl rfl rfl ?_) | (((with_reducible refine gS ?_); apply Es_q); rfl; rfl; refine LStep_call (cp) rfl rfl rfl rfl) | (((with_reducible refine gS ?_); apply Es_q); rfl; rfl; (first | refine LStep_lenM (T := Tryz.tab) rfl rfl rfl rfl | (refine LStep_add rfl rfl rfl rfl ?_; (refine IntWalk.i64_in _ ?_; first | omega | (simp only [cmps] at *; omega))) | (refine LStep_indexM (T := Tryz.tab) (c := ?_) rfl rfl rfl rfl rfl rfl ?_; rotate_left; assumption))) | (with_reducible refine Es_nil ?_) | (with_reducible refine then_n ?_) | (with_reducible refine block_n ?_))
    all_goals first
      | (refine ⟨i + 1, by omega, by omega, by (repeat' (first | exact trivial | exact rfl | (refine ⟨Or.inl rfl, ?_⟩) | (refine ⟨Or.inr rfl, ?_⟩) | (refine ⟨Or.inr trivial, ?_⟩) | (refine ⟨rfl, ?_⟩) | (refine ⟨?_, ?_⟩))), by (repeat' (first | exact trivial | exact rfl | (refine ⟨Or.inl rfl, ?_⟩) | (refine ⟨Or.inr rfl, ?_⟩) | (refine ⟨Or.inr trivial, ?_⟩) | (refine ⟨rfl, ?_⟩) | (refine ⟨?_, ?_⟩))), by (repeat' (first | exact trivial | exact rfl | (refine ⟨Or.inl rfl, ?_⟩) | (refine ⟨Or.inr rfl, ?_⟩) | (refine ⟨Or.inr trivial, ?_⟩) | (refine ⟨rfl, ?_⟩) | (refine ⟨?_, ?_⟩))), by (repeat' (first | exact trivial | exact rfl | (refine ⟨Or.inl rfl, ?_⟩) | (refine ⟨Or.inr rfl, ?_⟩) | (refine ⟨Or.inr trivial, ?_⟩) | (refine ⟨rfl, ?_⟩) | (refine ⟨?_, ?_⟩)))⟩; done)
      | trace_state
  · have : i = l.length := by omega
    subst this
    have g1 : ltb (l.length : Nat) (l.length : Nat) = false := by rw [ltb_f]; omega
    rw [List.take_length]
    repeat' (first | ((with_reducible refine gA ?_); (first | refine AW_seq ?_ | refine AW_region ?_ | (refine AW_condN rfl ?_ ?_; assumption) | refine AW_ret ?_ | refine AW_exit ?_)) | ((with_reducible refine gS ?_); refine Es_s (T := Tryz.tab) rfl rfl rfl rfl ?_) | (((with_reducible refine gS ?_); apply Es_q); rfl; rfl; refine LStep_lenM (T := Tryz.tab) rfl rfl rfl rfl) | (with_reducible refine Es_nil ?_) | (with_reducible refine then_n ?_) | (with_reducible refine then_e ?_) | ((with_reducible refine block_e ?_ ?_); rfl) | ((with_reducible refine gR ?_); first | refine ret1 rfl ?_ | refine ret2 rfl rfl ?_ | refine ret0 ?_ | refine end1 rfl ?_ | refine end0 ?_))
    all_goals first
      | rfl
      | trace_state
theorem insT_stop {x : ByteArray} {B : List ByteArray} (hB : ∀ y, B[0]? = some y → lts y x = false) : ∀ {A : List ByteArray}, (∀ y ∈ A, lts y x = true) → insT x (A ++ B) = A ++ x :: B
  | [], _ => by
    cases B with
    | nil => rfl
    | cons y B =>
      show insT x (y :: B) = _
      unfold insT
      rw [if_neg (by rw [hB y rfl]; decide)]
      rfl
  | y :: A, h => by
    rw [List.cons_append]
    unfold insT
    rw [if_pos (h y List.mem_cons_self), insT_stop hB (fun z hz => h z (List.mem_cons_of_mem _ hz))]
    rfl
theorem insT_at {x : ByteArray} {M : List ByteArray} {k : Nat} (hk : k ≤ M.length) (h1 : ∀ y ∈ M.take k, lts y x = true) (h2 : ∀ y, M[k]? = some y → lts y x = false) : (insT x M).map sN = [] ++ ((M.take ((k : Nat) : Int).toNat).drop (0 : Int).toNat).map sN ++ [sN x] ++ ((M.take (((M.map sN).length : Nat) : Int).toNat).drop ((k : Nat) : Int).toNat).map sN := by
  have h := insT_stop (x := x) (A := M.take k) (B := M.drop k) (fun y hy => h2 y (by rw [List.getElem?_drop] at hy; exact hy)) h1
  rw [List.take_append_drop] at h
  rw [h]
  simp
set_option maxRecDepth 10000 in
set_option maxHeartbeats 8000000 in
theorem rputT_ac (M : List ByteArray) (x : ByteArray) (hl : M.length ≤ 1048576) : AC Tryz.prog 50 [.d (.sl 1 (M.map sN)), .d (.sc (.string x))] [] [] (fun r _ => r = .d (.sl 1 ((insT x M).map sN))) := by
  refine AC_enter Tryz.func50 rfl Tryz.ntmps50 (rv := [.tmp 4]) rfl rfl (by simp) (fun w X G => ?_)
  repeat' (first | ((with_reducible refine gA ?_); (first | refine AW_seq ?_ | refine AW_region ?_ | refine AW_block ?_)) | ((with_reducible refine gS ?_); refine Es_s (T := Tryz.tab) rfl rfl rfl rfl ?_) | (with_reducible refine Es_nil ?_) | (with_reducible refine then_n ?_))
  refine AW_forE (S := Nat) (fun k => k ≤ M.length ∧ ∀ y ∈ M.take k, lts y x = true) (fun k => [(5, .d (.sc (.int .i64 (k : Nat))))]) (fun _ => []) (fun k => M.length - k) 0 ⟨by omega, by simp⟩ (by (repeat' (first | exact trivial | exact rfl | (refine ⟨Or.inl rfl, ?_⟩) | (refine ⟨Or.inr rfl, ?_⟩) | (refine ⟨Or.inr trivial, ?_⟩) | (refine ⟨rfl, ?_⟩) | (refine ⟨?_, ?_⟩)))) (by (repeat' (first | exact trivial | exact rfl | (refine ⟨Or.inl rfl, ?_⟩) | (refine ⟨Or.inr rfl, ?_⟩) | (refine ⟨Or.inr trivial, ?_⟩) | (refine ⟨rfl, ?_⟩) | (refine ⟨?_, ?_⟩)))) ?_
  intro k ⟨hk, hf⟩
  have fin := insT_at hk hf
  have hb1 : ((M.take ((k : Nat) : Int).toNat).drop (0 : Int).toNat).length ≤ 1048576 := by simp; omega
  have hb2 : ((M.take ((M.length : Nat) : Int).toNat).drop ((k : Nat) : Int).toNat).length ≤ 1048576 := by simp; omega
  by_cases hlk : k < M.length
  · obtain ⟨y, hy, _⟩ := drop_at hlk
    have g2 : ltb (k : Nat) (M.length : Nat) = true := by rw [ltb_t]; omega
    cases e : lts y x with
    | true =>
      repeat' (first | ((with_reducible refine gA ?_); (first | refine AW_seq ?_ | refine AW_region ?_ | (refine AW_condY rfl ?_ ?_; assumption) | refine AW_block ?_ | refine AW_skip ?_)) | ((with_reducible refine gS ?_); refine Es_s (T := Tryz.tab) rfl rfl rfl rfl ?_) | (((with_reducible refine gS ?_); apply Es_q); rfl; (first | rfl | (refine w_tt ?_; assumption)); (first | refine LStep_simp (T := Tryz.tab) rfl rfl | refine LStep_lenM (T := Tryz.tab) rfl rfl rfl rfl | (refine LStep_add rfl rfl rfl rfl ?_; (refine IntWalk.i64_in _ ?_; first | omega | (simp only [cmps] at *; omega))) | (refine LStep_pickT rfl rfl ?_ rfl rfl; assumption) | (refine LStep_indexM (T := Tryz.tab) (c := ?_) rfl rfl rfl rfl rfl rfl ?_; rotate_left; assumption))) | (with_reducible refine Es_nil ?_) | (with_reducible refine then_n ?_) | (with_reducible refine block_n ?_))
      all_goals first
        | (refine ⟨k + 1, ⟨by omega, fun z hz => ?_⟩, by omega, by (repeat' (first | exact trivial | exact rfl | (refine ⟨Or.inl rfl, ?_⟩) | (refine ⟨Or.inr rfl, ?_⟩) | (refine ⟨Or.inr trivial, ?_⟩) | (refine ⟨rfl, ?_⟩) | (refine ⟨?_, ?_⟩))), by (repeat' (first | exact trivial | exact rfl | (refine ⟨Or.inl rfl, ?_⟩) | (refine ⟨Or.inr rfl, ?_⟩) | (refine ⟨Or.inr trivial, ?_⟩) | (refine ⟨rfl, ?_⟩) | (refine ⟨?_, ?_⟩))), by (repeat' (first | exact trivial | exact rfl | (refine ⟨Or.inl rfl, ?_⟩) | (refine ⟨Or.inr rfl, ?_⟩) | (refine ⟨Or.inr trivial, ?_⟩) | (refine ⟨rfl, ?_⟩) | (refine ⟨?_, ?_⟩))), by (repeat' (first | exact trivial | exact rfl | (refine ⟨Or.inl rfl, ?_⟩) | (refine ⟨Or.inr rfl, ?_⟩) | (refine ⟨Or.inr trivial, ?_⟩) | (refine ⟨rfl, ?_⟩) | (refine ⟨?_, ?_⟩)))⟩
           rw [take_at hy] at hz
           rcases List.mem_append.1 hz with q | q
           · exact hf z q
           · rw [List.mem_singleton.1 q]; exact e)
        | trace_state
    | false =>
      have fin := fin (fun z hz => by rw [hy] at hz; rw [← Option.some.inj hz]; exact e)
      repeat' (first | ((with_reducible refine gA ?_); (first | refine AW_seq ?_ | refine AW_region ?_ | refine AW_regionD Tryz.mixed ?_ | (refine AW_condN rfl ?_ ?_; assumption) | refine AW_ret ?_ | refine AW_exit ?_)) | (first | ((with_reducible refine gS ?_); refine Es_s (T := Tryz.tab) rfl rfl rfl rfl ?_) | ((with_reducible refine gD ?_); refine Ed_s (T := Tryz.tab) rfl rfl rfl rfl ?_)) | ((first | ((with_reducible refine gS ?_); apply Es_xs) | ((with_reducible refine gD ?_); apply Ed_xs)); rfl; (first | rfl | (refine w_tt ?_; assumption)); (first | (refine LStep_litOwn (T := Tryz.tab) (len := 0) rfl rfl rfl rfl rfl rfl rfl rfl rfl rfl ?_ ?_; (refine Nat.le_of_ble_eq_true ?_; rfl); (unfold maxLen; omega)) | (refine LStep_appendD (T := Tryz.tab) (dst := 31) 20 rfl rfl rfl rfl rfl rfl rfl rfl rfl rfl rfl ?_ ?_ ?_; rfl; (simp only [List.length_map, List.length_nil, List.length_cons, List.length_append]; omega); (unfold maxLen; simp only [List.length_map, List.length_nil, List.length_cons, List.length_append]; omega)) | (refine LStep_append (T := Tryz.tab) rfl rfl rfl rfl rfl rfl rfl rfl rfl rfl ?_ ?_ ?_; rfl; (simp only [List.length_map, List.length_nil, List.length_cons, List.length_append]; omega); (unfold maxLen; simp only [List.length_map, List.length_nil, List.length_cons, List.length_append]; omega))); rfl) | ((first | ((with_reducible refine gS ?_); apply Es_q) | ((with_reducible refine gD ?_); apply Ed_q)); rfl; (first | rfl | (refine w_tt ?_; assumption)); (first | refine LStep_simp (T := Tryz.tab) rfl rfl | refine LStep_lenM (T := Tryz.tab) rfl rfl rfl rfl | (refine LStep_pickT rfl rfl ?_ rfl rfl; assumption) | (refine LStep_indexM (T := Tryz.tab) (c := ?_) rfl rfl rfl rfl rfl rfl ?_; rotate_left; assumption) | (refine LStep_partM (T := Tryz.tab) rfl rfl rfl rfl rfl rfl rfl ?_ ?_ ?_; omega; (first | omega | (simp only [List.length_map]; omega)); (first | omega | (simp only [List.length_map]; omega))) | (refine LStep_lit (T := Tryz.tab) rfl rfl rfl rfl rfl rfl rfl rfl ?_; (refine Nat.le_of_ble_eq_true ?_; rfl)))) | (with_reducible refine Es_nil ?_) | ((with_reducible refine Ed_nil ?_ ?_); kernel_rfl) | (with_reducible refine then_n ?_) | (with_reducible refine then_e ?_) | ((with_reducible refine block_e ?_ ?_); rfl) | ((with_reducible refine gR ?_); first | refine ret1 rfl ?_ | refine ret2 rfl rfl ?_ | refine ret0 ?_ | refine end1 rfl ?_ | refine end0 ?_))
      all_goals first
        | (rw [fin]; rfl)
        | trace_state
  · have : k = M.length := by omega
    subst this
    have fin := fin (fun z hz => by rw [List.getElem?_eq_none (by omega)] at hz; cases hz)
    have g2 : ltb (M.length : Nat) (M.length : Nat) = false := by rw [ltb_f]; omega
    repeat' (first | ((with_reducible refine gA ?_); (first | refine AW_seq ?_ | refine AW_region ?_ | refine AW_regionD Tryz.mixed ?_ | refine AW_condF rfl ?_ | refine AW_ret ?_ | refine AW_exit ?_)) | (first | ((with_reducible refine gS ?_); refine Es_s (T := Tryz.tab) rfl rfl rfl rfl ?_) | ((with_reducible refine gD ?_); refine Ed_s (T := Tryz.tab) rfl rfl rfl rfl ?_)) | ((first | ((with_reducible refine gS ?_); apply Es_xs) | ((with_reducible refine gD ?_); apply Ed_xs)); rfl; rfl; (first | (refine LStep_litOwn (T := Tryz.tab) (len := 0) rfl rfl rfl rfl rfl rfl rfl rfl rfl rfl ?_ ?_; (refine Nat.le_of_ble_eq_true ?_; rfl); (unfold maxLen; omega)) | (refine LStep_appendD (T := Tryz.tab) (dst := 31) 20 rfl rfl rfl rfl rfl rfl rfl rfl rfl rfl rfl ?_ ?_ ?_; rfl; (simp only [List.length_map, List.length_nil, List.length_cons, List.length_append]; omega); (unfold maxLen; simp only [List.length_map, List.length_nil, List.length_cons, List.length_append]; omega)) | (refine LStep_append (T := Tryz.tab) rfl rfl rfl rfl rfl rfl rfl rfl rfl rfl ?_ ?_ ?_; rfl; (simp only [List.length_map, List.length_nil, List.length_cons, List.length_append]; omega); (unfold maxLen; simp only [List.length_map, List.length_nil, List.length_cons, List.length_append]; omega))); rfl) | ((first | ((with_reducible refine gS ?_); apply Es_q) | ((with_reducible refine gD ?_); apply Ed_q)); rfl; rfl; (first | refine LStep_lenM (T := Tryz.tab) rfl rfl rfl rfl | (refine LStep_pickF rfl rfl ?_ rfl rfl; assumption) | (refine LStep_partM (T := Tryz.tab) rfl rfl rfl rfl rfl rfl rfl ?_ ?_ ?_; omega; (first | omega | (simp only [List.length_map]; omega)); (first | omega | (simp only [List.length_map]; omega))) | (refine LStep_lit (T := Tryz.tab) rfl rfl rfl rfl rfl rfl rfl rfl ?_; (refine Nat.le_of_ble_eq_true ?_; rfl)))) | (refine Es_skip rfl ?_ rfl ?_; (first | rfl | (refine w_tf ?_; assumption) | (refine w_ft ?_; assumption))) | (with_reducible refine Es_nil ?_) | ((with_reducible refine Ed_nil ?_ ?_); kernel_rfl) | (with_reducible refine then_n ?_) | (with_reducible refine then_e ?_) | ((with_reducible refine block_e ?_ ?_); rfl) | ((with_reducible refine gR ?_); first | refine ret1 rfl ?_ | refine ret2 rfl rfl ?_ | refine ret0 ?_ | refine end1 rfl ?_ | refine end0 ?_))
    all_goals first
      | (rw [fin]; rfl)
      | trace_state
end Go.Proofs.YtjlblnplofgpnaaGreatDoor
