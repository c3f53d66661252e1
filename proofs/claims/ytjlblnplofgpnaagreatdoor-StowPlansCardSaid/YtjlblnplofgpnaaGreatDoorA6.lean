import Derived.Test.YtjlblnplofgpnaaGreatDoorA5
namespace Go.Proofs.YtjlblnplofgpnaaGreatDoor
open Go.SL
/-! ### names, ships, loads: what may be -/
theorem all_takeB {f : UInt8 → Bool} {l : List UInt8} {k : Nat} {c : UInt8} (hc : l[k]? = some c) (hf : (l.take k).all f = true) : (f c = true → (l.take (k + 1)).all f = true) ∧ (f c = false → l.all f = false) := by
  have h1 : (l.take (k + 1)).all f = f c := by rw [take_at hc, List.all_append, hf]; simp
  refine ⟨fun h => by rw [h1, h], fun h => ?_⟩
  rw [List.all_eq_false]
  exact ⟨c, List.mem_of_getElem? hc, by simp [h]⟩
set_option maxRecDepth 10000 in
set_option maxHeartbeats 1000000 in
theorem isName_ac (s : ByteArray) : AC Tryz.prog 75 [.d (.sc (.string s))] [] [] (fun r _ => r = .d (.sc (.bool (bnameOk s)))) := by
  have hlen : s.data.toList.length = s.size := rfl
  refine AC_enter Tryz.func75 rfl Tryz.ntmps75 (rv := [.tmp 2]) rfl rfl (by simp) (fun w X G => ?_)
  repeat' (first | ((with_reducible refine gA ?_); (first | refine AW_seq ?_ | refine AW_region ?_ | refine AW_condT rfl ?_ | (refine AW_cond rfl (fun hc => ?_) (fun hc => ?_) <;> try (exfalso; simp only [cmpL] at hc; omega)) | refine AW_block ?_ | refine AW_ret ?_ | refine AW_skip ?_)) | ((with_reducible refine gS ?_); refine Es_s (T := Tryz.tab) rfl rfl rfl rfl ?_) | (((with_reducible refine gS ?_); apply Es_q); rfl; (first | rfl | (refine w_ff ?_; assumption)); (first | refine LStep_simp (T := Tryz.tab) rfl rfl | refine LStep_wrap (T := Tryz.tab) rfl rfl | (refine LStep_pickT rfl rfl ?_ rfl rfl; assumption) | (refine LStep_pickF rfl rfl ?_ rfl rfl; assumption))) | (refine Es_skip rfl ?_ rfl ?_; (first | rfl | (refine w_tf ?_; assumption) | (refine w_ft ?_; assumption))) | (refine Es_split rfl ?_ (fun _ => ?_) (fun _ => ?_); ((fail_if_success (refine und_t ?_; assumption)); (fail_if_success (refine und_f ?_; assumption)); exact trivial)) | (with_reducible refine Es_nil ?_) | (with_reducible refine then_n ?_) | (with_reducible refine then_r ?_) | ((with_reducible refine gR ?_); first | refine ret1 rfl ?_ | refine ret2 rfl rfl ?_ | refine ret0 ?_ | refine end1 rfl ?_ | refine end0 ?_))
  all_goals simp only [cmps] at *
  · refine congrArg (fun b => AV.d (D.sc (Value.bool b))) ?_; simp [bnameOk]; omega
  · refine congrArg (fun b => AV.d (D.sc (Value.bool b))) ?_; simp [bnameOk]; omega
  have hall : bnameOk s = s.data.toList.all bchB := by
    have e1 : 1 ≤ s.size := by omega
    have e2 : s.size ≤ 16 := by omega
    simp [bnameOk, e1, e2]
  rw [hall]
  clear hall
  refine AW_forE (S := Nat) (fun k => k ≤ s.size ∧ (s.data.toList.take k).all bchB = true) (fun k => [(15, .d (.sc (.int .i64 (k : Nat))))]) (fun _ => []) (fun k => s.size - k) 0 ⟨by omega, by simp⟩ (by (repeat' (first | exact trivial | exact rfl | (refine ⟨Or.inl rfl, ?_⟩) | (refine ⟨Or.inr rfl, ?_⟩) | (refine ⟨Or.inr trivial, ?_⟩) | (refine ⟨rfl, ?_⟩) | (refine ⟨?_, ?_⟩)))) (by (repeat' (first | exact trivial | exact rfl | (refine ⟨Or.inl rfl, ?_⟩) | (refine ⟨Or.inr rfl, ?_⟩) | (refine ⟨Or.inr trivial, ?_⟩) | (refine ⟨rfl, ?_⟩) | (refine ⟨?_, ?_⟩)))) ?_
  intro k ⟨hk, hf⟩
  by_cases hlt : k < s.size
  · obtain ⟨c, hc, _⟩ := drop_at (l := s.data.toList) (show k < s.data.toList.length by omega)
    have hc' : s.data.toList[((k : Nat) : Int).toNat]? = some c := by rw [Int.toNat_natCast]; exact hc
    obtain ⟨hy, hn⟩ := all_takeB (f := bchB) hc hf
    repeat' (first | ((with_reducible refine gA ?_); (first | refine AW_seq ?_ | refine AW_region ?_ | refine AW_condF rfl ?_ | (refine AW_cond rfl (fun hc => ?_) (fun hc => ?_) <;> try (exfalso; simp only [cmpL] at hc; omega)) | refine AW_block ?_ | refine AW_ret ?_ | refine AW_skip ?_)) | ((with_reducible refine gS ?_); refine Es_s (T := Tryz.tab) rfl rfl rfl rfl ?_) | (((with_reducible refine gS ?_); apply Es_q); rfl; (first | rfl | (refine w_tt ?_; assumption) | (refine w_ff ?_; assumption)); (first | refine LStep_simp (T := Tryz.tab) rfl rfl | (refine LStep_add rfl rfl rfl rfl ?_; (refine IntWalk.i64_in _ ?_; first | omega | (simp only [cmps] at *; omega))) | (refine LStep_pickT rfl rfl ?_ rfl rfl; assumption) | (refine LStep_pickF rfl rfl ?_ rfl rfl; assumption) | (refine LStep_byteM (T := Tryz.tab) (c := ?_) rfl rfl rfl rfl rfl ?_; rotate_left; assumption))) | (refine Es_skip rfl ?_ rfl ?_; (first | rfl | (refine w_tf ?_; assumption) | (refine w_ft ?_; assumption))) | (refine Es_split rfl ?_ (fun _ => ?_) (fun _ => ?_); ((fail_if_success (refine und_t ?_; assumption)); (fail_if_success (refine und_f ?_; assumption)); exact trivial)) | (with_reducible refine Es_nil ?_) | (with_reducible refine then_n ?_) | (with_reducible refine then_r ?_) | (with_reducible refine block_n ?_) | (with_reducible refine block_r ?_) | ((with_reducible refine gR ?_); first | refine ret1 rfl ?_ | refine ret2 rfl rfl ?_ | refine ret0 ?_ | refine end1 rfl ?_ | refine end0 ?_))
    all_goals simp only [cmps] at *
    all_goals first
      | (have h : bchB c = true := by simp [bchB]; omega
         refine ⟨k + 1, ?_, by omega, by (repeat' (first | exact trivial | exact rfl | (refine ⟨Or.inl rfl, ?_⟩) | (refine ⟨Or.inr rfl, ?_⟩) | (refine ⟨Or.inr trivial, ?_⟩) | (refine ⟨rfl, ?_⟩) | (refine ⟨?_, ?_⟩))), by (repeat' (first | exact trivial | exact rfl | (refine ⟨Or.inl rfl, ?_⟩) | (refine ⟨Or.inr rfl, ?_⟩) | (refine ⟨Or.inr trivial, ?_⟩) | (refine ⟨rfl, ?_⟩) | (refine ⟨?_, ?_⟩))), by (repeat' (first | exact trivial | exact rfl | (refine ⟨Or.inl rfl, ?_⟩) | (refine ⟨Or.inr rfl, ?_⟩) | (refine ⟨Or.inr trivial, ?_⟩) | (refine ⟨rfl, ?_⟩) | (refine ⟨?_, ?_⟩))), by (repeat' (first | exact trivial | exact rfl | (refine ⟨Or.inl rfl, ?_⟩) | (refine ⟨Or.inr rfl, ?_⟩) | (refine ⟨Or.inr trivial, ?_⟩) | (refine ⟨rfl, ?_⟩) | (refine ⟨?_, ?_⟩)))⟩; exact ⟨by omega, hy h⟩)
      | (have h : bchB c = false := by simp [bchB]; omega
         refine congrArg (fun b => AV.d (D.sc (Value.bool b))) ?_; rw [hn h])
  · have : k = s.size := by omega
    subst this
    rw [← hlen, List.take_length] at hf
    repeat' (first | ((with_reducible refine gA ?_); (first | refine AW_seq ?_ | refine AW_region ?_ | (refine AW_cond rfl (fun hc => ?_) (fun hc => ?_) <;> try (exfalso; simp only [cmpL] at hc; omega)) | refine AW_ret ?_ | refine AW_exit ?_)) | ((with_reducible refine gS ?_); refine Es_s (T := Tryz.tab) rfl rfl rfl rfl ?_) | (with_reducible refine Es_nil ?_) | (with_reducible refine then_n ?_) | (with_reducible refine then_e ?_) | ((with_reducible refine block_e ?_ ?_); rfl) | ((with_reducible refine gR ?_); first | refine ret1 rfl ?_ | refine ret2 rfl rfl ?_ | refine ret0 ?_ | refine end1 rfl ?_ | refine end0 ?_))
    refine congrArg (fun b => AV.d (D.sc (Value.bool b))) ?_; rw [hf]
set_option maxRecDepth 10000 in
set_option maxHeartbeats 1000000 in
theorem r5name_ac (s : ByteArray) (hs : s.size ≤ 9007199254740992) : AC Tryz.prog 122 [.d (.sc (.string s))] [] [] (fun r _ => r = .d (.sc (.bool (bnameOk s)))) := by
  have hlen : s.data.toList.length = s.size := rfl
  refine AC_enter Tryz.func122 rfl Tryz.ntmps122 (rv := [.tmp 2]) rfl rfl (by simp) (fun w X G => ?_)
  repeat' (first | ((with_reducible refine gA ?_); (first | refine AW_seq ?_ | refine AW_region ?_ | refine AW_block ?_)) | ((with_reducible refine gS ?_); refine Es_s (T := Tryz.tab) rfl rfl rfl rfl ?_) | (with_reducible refine Es_nil ?_) | (with_reducible refine then_n ?_))
  refine AW_forE (S := Nat) (fun k => k ≤ s.size ∧ (s.data.toList.take k).all bchB = true) (fun k => [(3, .d (.sc (.int .i64 (k : Nat))))]) (fun _ => []) (fun k => s.size - k) 0 ⟨by omega, by simp⟩ (by (repeat' (first | exact trivial | exact rfl | (refine ⟨Or.inl rfl, ?_⟩) | (refine ⟨Or.inr rfl, ?_⟩) | (refine ⟨Or.inr trivial, ?_⟩) | (refine ⟨rfl, ?_⟩) | (refine ⟨?_, ?_⟩)))) (by (repeat' (first | exact trivial | exact rfl | (refine ⟨Or.inl rfl, ?_⟩) | (refine ⟨Or.inr rfl, ?_⟩) | (refine ⟨Or.inr trivial, ?_⟩) | (refine ⟨rfl, ?_⟩) | (refine ⟨?_, ?_⟩)))) ?_
  intro k ⟨hk, hf⟩
  by_cases hlt : k < s.size
  · obtain ⟨c, hc, _⟩ := drop_at (l := s.data.toList) (show k < s.data.toList.length by omega)
    have hc' : s.data.toList[((k : Nat) : Int).toNat]? = some c := by rw [Int.toNat_natCast]; exact hc
    obtain ⟨hy, hn⟩ := all_takeB (f := bchB) hc hf
    repeat' (first | ((with_reducible refine gA ?_); (first | refine AW_seq ?_ | refine AW_region ?_ | refine AW_condF rfl ?_ | (refine AW_cond rfl (fun hc => ?_) (fun hc => ?_) <;> try (exfalso; simp only [cmpL] at hc; omega)) | refine AW_block ?_ | refine AW_ret ?_ | refine AW_skip ?_)) | ((with_reducible refine gS ?_); refine Es_s (T := Tryz.tab) rfl rfl rfl rfl ?_) | (((with_reducible refine gS ?_); apply Es_q); rfl; (first | rfl | (refine w_tt ?_; assumption) | (refine w_ff ?_; assumption)); (first | refine LStep_simp (T := Tryz.tab) rfl rfl | (refine LStep_add rfl rfl rfl rfl ?_; (refine IntWalk.i64_in _ ?_; first | omega | (simp only [cmps] at *; omega))) | refine LStep_wrap (T := Tryz.tab) rfl rfl | (refine LStep_pickT rfl rfl ?_ rfl rfl; assumption) | (refine LStep_pickF rfl rfl ?_ rfl rfl; assumption) | (refine LStep_byteM (T := Tryz.tab) (c := ?_) rfl rfl rfl rfl rfl ?_; rotate_left; assumption))) | (refine Es_skip rfl ?_ rfl ?_; (first | rfl | (refine w_tf ?_; assumption) | (refine w_ft ?_; assumption))) | (refine Es_split rfl ?_ (fun _ => ?_) (fun _ => ?_); ((fail_if_success (refine und_t ?_; assumption)); (fail_if_success (refine und_f ?_; assumption)); exact trivial)) | (with_reducible refine Es_nil ?_) | (with_reducible refine then_n ?_) | (with_reducible refine then_r ?_) | (with_reducible refine block_n ?_) | (with_reducible refine block_r ?_) | ((with_reducible refine gR ?_); first | refine ret1 rfl ?_ | refine ret2 rfl rfl ?_ | refine ret0 ?_ | refine end1 rfl ?_ | refine end0 ?_))
    all_goals simp only [cmps] at *
    all_goals first
      | (have h : bchB c = true := by simp [bchB]; omega
         refine ⟨k + 1, ?_, by omega, by (repeat' (first | exact trivial | exact rfl | (refine ⟨Or.inl rfl, ?_⟩) | (refine ⟨Or.inr rfl, ?_⟩) | (refine ⟨Or.inr trivial, ?_⟩) | (refine ⟨rfl, ?_⟩) | (refine ⟨?_, ?_⟩))), by (repeat' (first | exact trivial | exact rfl | (refine ⟨Or.inl rfl, ?_⟩) | (refine ⟨Or.inr rfl, ?_⟩) | (refine ⟨Or.inr trivial, ?_⟩) | (refine ⟨rfl, ?_⟩) | (refine ⟨?_, ?_⟩))), by (repeat' (first | exact trivial | exact rfl | (refine ⟨Or.inl rfl, ?_⟩) | (refine ⟨Or.inr rfl, ?_⟩) | (refine ⟨Or.inr trivial, ?_⟩) | (refine ⟨rfl, ?_⟩) | (refine ⟨?_, ?_⟩))), by (repeat' (first | exact trivial | exact rfl | (refine ⟨Or.inl rfl, ?_⟩) | (refine ⟨Or.inr rfl, ?_⟩) | (refine ⟨Or.inr trivial, ?_⟩) | (refine ⟨rfl, ?_⟩) | (refine ⟨?_, ?_⟩)))⟩; exact ⟨by omega, hy h⟩)
      | (have h : bchB c = false := by simp [bchB]; omega
         refine congrArg (fun b => AV.d (D.sc (Value.bool b))) ?_; unfold bnameOk; rw [hn h, Bool.and_false])
  · have : k = s.size := by omega
    subst this
    rw [← hlen, List.take_length] at hf
    repeat' (first | ((with_reducible refine gA ?_); (first | refine AW_seq ?_ | refine AW_region ?_ | (refine AW_cond rfl (fun hc => ?_) (fun hc => ?_) <;> try (exfalso; simp only [cmpL] at hc; omega)) | refine AW_ret ?_ | refine AW_exit ?_)) | ((with_reducible refine gS ?_); refine Es_s (T := Tryz.tab) rfl rfl rfl rfl ?_) | (((with_reducible refine gS ?_); apply Es_q); rfl; (first | rfl | (refine w_tt ?_; assumption)); (first | refine LStep_simp (T := Tryz.tab) rfl rfl | refine LStep_wrap (T := Tryz.tab) rfl rfl | (refine LStep_pickT rfl rfl ?_ rfl rfl; assumption) | (refine LStep_pickF rfl rfl ?_ rfl rfl; assumption))) | (refine Es_skip rfl ?_ rfl ?_; (first | rfl | (refine w_tf ?_; assumption) | (refine w_ft ?_; assumption))) | (refine Es_split rfl ?_ (fun _ => ?_) (fun _ => ?_); ((fail_if_success (refine und_t ?_; assumption)); (fail_if_success (refine und_f ?_; assumption)); exact trivial)) | (with_reducible refine Es_nil ?_) | (with_reducible refine then_n ?_) | (with_reducible refine then_e ?_) | ((with_reducible refine block_e ?_ ?_); rfl) | ((with_reducible refine gR ?_); first | refine ret1 rfl ?_ | refine ret2 rfl rfl ?_ | refine ret0 ?_ | refine end1 rfl ?_ | refine end0 ?_))
    all_goals simp only [cmps] at *
    all_goals (refine congrArg (fun b => AV.d (D.sc (Value.bool b))) ?_; unfold bnameOk; rw [hf, Bool.and_true])
    all_goals (rw [Bool.eq_iff_iff]; simp [leb_d] at *; try omega)
set_option maxRecDepth 10000 in
theorem isFrom_ac (n a b : Int) : AC Tryz.prog 74 [.d (.sc (.int .i64 n)), .d (.sc (.int .i64 a)), .d (.sc (.int .i64 b))] [] [] (fun r _ => r = .d (.sc (.bool (frB n a b)))) := by
  refine AC_enter Tryz.func74 rfl Tryz.ntmps74 (rv := [.tmp 6]) rfl rfl (by simp) (fun w X G => ?_)
  repeat' (first | ((with_reducible refine gA ?_); (first | refine AW_seq ?_ | refine AW_region ?_ | refine AW_ret ?_)) | ((with_reducible refine gS ?_); refine Es_s (T := Tryz.tab) rfl rfl rfl rfl ?_) | (((with_reducible refine gS ?_); apply Es_q); rfl; (first | rfl | (refine w_tt ?_; assumption)); (first | refine LStep_simp (T := Tryz.tab) rfl rfl | (refine LStep_pickT rfl rfl ?_ rfl rfl; assumption) | (refine LStep_pickF rfl rfl ?_ rfl rfl; assumption))) | (refine Es_skip rfl ?_ rfl ?_; (first | rfl | (refine w_tf ?_; assumption) | (refine w_ft ?_; assumption))) | (refine Es_split rfl ?_ (fun _ => ?_) (fun _ => ?_); ((fail_if_success (refine und_t ?_; assumption)); (fail_if_success (refine und_f ?_; assumption)); exact trivial)) | (with_reducible refine Es_nil ?_) | (with_reducible refine then_n ?_) | ((with_reducible refine gR ?_); first | refine ret1 rfl ?_ | refine ret2 rfl rfl ?_ | refine ret0 ?_ | refine end1 rfl ?_ | refine end0 ?_))
  all_goals simp only [cmps] at *
  all_goals (refine congrArg (fun b => AV.d (D.sc (Value.bool b))) ?_; unfold frB; rw [Bool.eq_iff_iff]; simp [leb_d] at *; try omega)
set_option maxRecDepth 10000 in
theorem within_ac (n a b : Int) : AC Tryz.prog 88 [.d (.sc (.int .i64 n)), .d (.sc (.int .i64 a)), .d (.sc (.int .i64 b))] [] [] (fun r _ => r = .d (.sc (.bool (frB n a b)))) := by
  refine AC_enter Tryz.func88 rfl Tryz.ntmps88 (rv := [.tmp 6]) rfl rfl (by simp) (fun w X G => ?_)
  repeat' (first | ((with_reducible refine gA ?_); (first | refine AW_seq ?_ | refine AW_region ?_ | refine AW_ret ?_)) | ((with_reducible refine gS ?_); refine Es_s (T := Tryz.tab) rfl rfl rfl rfl ?_) | (((with_reducible refine gS ?_); apply Es_q); rfl; (first | rfl | (refine w_tt ?_; assumption)); (first | refine LStep_simp (T := Tryz.tab) rfl rfl | (refine LStep_pickT rfl rfl ?_ rfl rfl; assumption) | (refine LStep_pickF rfl rfl ?_ rfl rfl; assumption))) | (refine Es_skip rfl ?_ rfl ?_; (first | rfl | (refine w_tf ?_; assumption) | (refine w_ft ?_; assumption))) | (refine Es_split rfl ?_ (fun _ => ?_) (fun _ => ?_); ((fail_if_success (refine und_t ?_; assumption)); (fail_if_success (refine und_f ?_; assumption)); exact trivial)) | (with_reducible refine Es_nil ?_) | (with_reducible refine then_n ?_) | ((with_reducible refine gR ?_); first | refine ret1 rfl ?_ | refine ret2 rfl rfl ?_ | refine ret0 ?_ | refine end1 rfl ?_ | refine end0 ?_))
  all_goals simp only [cmps] at *
  all_goals (refine congrArg (fun b => AV.d (D.sc (Value.bool b))) ?_; unfold frB; rw [Bool.eq_iff_iff]; simp [leb_d] at *; try omega)
set_option maxRecDepth 10000 in
theorem rName_ac (s : ByteArray) (hs : s.size ≤ 9007199254740992) : AC Tryz.prog 87 [.d (.sc (.string s))] [] [] (fun r _ => r = .d (.sc (.bool (bnameOk s)))) := by
  have c := r5name_ac s hs
  refine AC_enter Tryz.func87 rfl Tryz.ntmps87 (rv := [.tmp 2]) rfl rfl (by simp) (fun w X G => ?_)
  repeat' (first | ((with_reducible refine gA ?_); (first | refine AW_seq ?_ | refine AW_region ?_ | refine AW_ret ?_)) | ((with_reducible refine gS ?_); refine Es_s (T := Tryz.tab) rfl rfl rfl rfl ?_) | (((with_reducible refine gS ?_); apply Es_q); rfl; rfl; refine LStep_call (c) rfl rfl rfl rfl) | (with_reducible refine Es_nil ?_) | (with_reducible refine then_n ?_) | ((with_reducible refine gR ?_); first | refine ret1 rfl ?_ | refine ret2 rfl rfl ?_ | refine ret0 ?_ | refine end1 rfl ?_ | refine end0 ?_))
  rfl
def Ship.cs (S : Ship) : List AV := [.d (.sc (.string S.nm)), .d (.sc (.int .i64 S.bays)), .d (.sc (.int .i64 S.rows)), .d (.sc (.int .i64 S.tiers)), .d (.sc (.int .i64 S.stack)), .d (.sc (.int .i64 S.trim)), .d (.sc (.int .i64 S.list)), .d (.sc (.int .i64 S.up)), .d (.sc (.int .i64 S.most))]
set_option maxRecDepth 10000 in
set_option maxHeartbeats 2000000 in
theorem may_ac (S : Ship) : AC Tryz.prog 27 [.agg S.cs] [] [] (fun r _ => r = .d (.sc (.bool (shipOk S)))) := by
  have cf := isFrom_ac
  have cn := isName_ac S.nm
  refine AC_enter Tryz.func27 rfl Tryz.ntmps27 (rv := [.tmp 2]) rfl rfl (by simp) (fun w X G => ?_)
  have c1 := cf S.bays 1 32
  have c2 := cf S.rows 1 32
  have c3 := cf S.tiers 1 32
  have d1 := cf S.stack 0 1048576
  have d2 := cf S.trim 0 1048576
  have d3 := cf S.list 0 1048576
  have d4 := cf S.up 0 1048576
  have d5 := cf S.most 0 1048576
  repeat' (first | ((with_reducible refine gA ?_); (first | refine AW_seq ?_ | refine AW_region ?_ | refine AW_block ?_)) | ((with_reducible refine gS ?_); refine Es_s (T := Tryz.tab) rfl rfl rfl rfl ?_) | (((with_reducible refine gS ?_); apply Es_q); rfl; rfl; refine LStep_buildArr (T := Tryz.tab) rfl rfl rfl rfl rfl rfl) | (refine Es_skip rfl ?_ rfl ?_; (first | rfl | (refine w_tf ?_; assumption) | (refine w_ft ?_; assumption))) | (((with_reducible refine gS ?_); apply Es_xs); rfl; rfl; refine LStep_boxN rfl rfl rfl rfl rfl rfl; rfl) | (with_reducible refine Es_nil ?_) | (with_reducible refine then_n ?_))
  refine AW_rounds 4 ?_
  repeat' (first | ((with_reducible refine gRd ?_); refine rounds_stepD [] [] ?_) | ((with_reducible refine gA ?_); (first | refine AW_seq ?_ | refine AW_region ?_ | (refine AW_cond rfl (fun hc => ?_) (fun hc => ?_) <;> try (exfalso; simp only [cmpL] at hc; omega)) | refine AW_block ?_ | refine AW_ret ?_ | refine AW_skip ?_ | refine AW_exit ?_)) | ((with_reducible refine gS ?_); refine Es_s (T := Tryz.tab) rfl rfl rfl rfl ?_) | (((with_reducible refine gS ?_); apply Es_q); rfl; rfl; (first | refine LStep_idxArr (T := Tryz.tab) (k := 0) rfl rfl rfl rfl rfl rfl rfl rfl rfl | refine LStep_idxArr (T := Tryz.tab) (k := 1) rfl rfl rfl rfl rfl rfl rfl rfl rfl | refine LStep_idxArr (T := Tryz.tab) (k := 2) rfl rfl rfl rfl rfl rfl rfl rfl rfl | refine LStep_call (c1) rfl rfl rfl rfl | refine LStep_call (c2) rfl rfl rfl rfl | refine LStep_call (c3) rfl rfl rfl rfl | refine LStep_buildArr (T := Tryz.tab) rfl rfl rfl rfl rfl rfl)) | (((with_reducible refine gS ?_); apply Es_q); rfl; rfl; (refine LStep_add rfl rfl rfl rfl ?_; (refine IntWalk.i64_in _ ?_; first | omega | (simp only [cmps] at *; omega)))) | (with_reducible refine Es_nil ?_) | (with_reducible refine then_n ?_) | (with_reducible refine then_r ?_) | (with_reducible refine then_e ?_) | (with_reducible refine block_n ?_) | (with_reducible refine block_r ?_) | ((with_reducible refine block_e ?_ ?_); rfl) | ((with_reducible refine gR ?_); first | refine ret1 rfl ?_ | refine ret2 rfl rfl ?_ | refine ret0 ?_ | refine end1 rfl ?_ | refine end0 ?_))
  all_goals simp only [cmps] at *
  all_goals first
    | (exfalso; omega)
    | (refine congrArg (fun b => AV.d (D.sc (Value.bool b))) ?_; unfold shipOk; simp [*]; done)
    | skip
  refine AW_rounds 6 ?_
  repeat' (first | ((with_reducible refine gRd ?_); refine rounds_stepD [] [] ?_) | ((with_reducible refine gA ?_); (first | refine AW_seq ?_ | refine AW_region ?_ | (refine AW_cond rfl (fun hc => ?_) (fun hc => ?_) <;> try (exfalso; simp only [cmpL] at hc; omega)) | refine AW_block ?_ | refine AW_ret ?_ | refine AW_skip ?_ | refine AW_exit ?_)) | ((with_reducible refine gS ?_); refine Es_s (T := Tryz.tab) rfl rfl rfl rfl ?_) | (((with_reducible refine gS ?_); apply Es_q); rfl; rfl; (first | refine LStep_idxArr (T := Tryz.tab) (k := 0) rfl rfl rfl rfl rfl rfl rfl rfl rfl | refine LStep_idxArr (T := Tryz.tab) (k := 1) rfl rfl rfl rfl rfl rfl rfl rfl rfl | refine LStep_idxArr (T := Tryz.tab) (k := 2) rfl rfl rfl rfl rfl rfl rfl rfl rfl | refine LStep_idxArr (T := Tryz.tab) (k := 3) rfl rfl rfl rfl rfl rfl rfl rfl rfl | refine LStep_idxArr (T := Tryz.tab) (k := 4) rfl rfl rfl rfl rfl rfl rfl rfl rfl | refine LStep_call (d1) rfl rfl rfl rfl | refine LStep_call (d2) rfl rfl rfl rfl | refine LStep_call (d3) rfl rfl rfl rfl | refine LStep_call (d4) rfl rfl rfl rfl | refine LStep_call (d5) rfl rfl rfl rfl | refine LStep_call (cn) rfl rfl rfl rfl)) | (((with_reducible refine gS ?_); apply Es_q); rfl; rfl; (refine LStep_add rfl rfl rfl rfl ?_; (refine IntWalk.i64_in _ ?_; first | omega | (simp only [cmps] at *; omega)))) | (with_reducible refine Es_nil ?_) | (with_reducible refine then_n ?_) | (with_reducible refine then_r ?_) | (with_reducible refine then_e ?_) | (with_reducible refine block_n ?_) | (with_reducible refine block_r ?_) | ((with_reducible refine block_e ?_ ?_); rfl) | ((with_reducible refine gR ?_); first | refine ret1 rfl ?_ | refine ret2 rfl rfl ?_ | refine ret0 ?_ | refine end1 rfl ?_ | refine end0 ?_))
  all_goals simp only [cmps] at *
  all_goals first
    | (exfalso; omega)
    | (refine congrArg (fun b => AV.d (D.sc (Value.bool b))) ?_; unfold shipOk; simp [*]; done)
    | trace_state
def Load.cs2 (x : Load) : List AV := [.d (.sc (.int .i64 x.sl.b)), .d (.sc (.int .i64 x.sl.r)), .d (.sc (.int .i64 x.sl.t)), .d (.sc (.string x.box)), .d (.sc (.int .i64 x.w)), .d (.sc (.int .i64 x.c)), .d (.sc (.int .i64 x.p))]
set_option maxRecDepth 10000 in
set_option maxHeartbeats 2000000 in
theorem mayLoad_ac (x : Load) : AC Tryz.prog 58 [.agg x.cs2] [] [] (fun r _ => r = .d (.sc (.bool (mayL x)))) := by
  have cn := isName_ac x.box
  have c1 := isFrom_ac x.w 1 1048576
  have c2 := isFrom_ac x.c 0 1048576
  have c3 := isFrom_ac x.p 0 64
  refine AC_enter Tryz.func58 rfl Tryz.ntmps58 (rv := [.tmp 2]) rfl rfl (by simp) (fun w X G => ?_)
  repeat' (first | ((with_reducible refine gA ?_); (first | refine AW_seq ?_ | refine AW_region ?_ | refine AW_ret ?_)) | ((with_reducible refine gS ?_); refine Es_s (T := Tryz.tab) rfl rfl rfl rfl ?_) | (((with_reducible refine gS ?_); apply Es_q); rfl; (first | rfl | (refine w_tt ?_; assumption)); (first | refine LStep_call (cn) rfl rfl rfl rfl | refine LStep_call (c1) rfl rfl rfl rfl | refine LStep_call (c2) rfl rfl rfl rfl | refine LStep_call (c3) rfl rfl rfl rfl)) | (((with_reducible refine gS ?_); apply Es_q); rfl; (first | rfl | (refine w_tt ?_; assumption)); (first | refine LStep_simp (T := Tryz.tab) rfl rfl | (refine LStep_pickT rfl rfl ?_ rfl rfl; assumption) | (refine LStep_pickF rfl rfl ?_ rfl rfl; assumption))) | (refine Es_skip rfl ?_ rfl ?_; (first | rfl | (refine w_tf ?_; assumption) | (refine w_ft ?_; assumption))) | (((with_reducible refine gS ?_); apply Es_xs); rfl; rfl; refine LStep_boxN rfl rfl rfl rfl rfl rfl; rfl) | (refine Es_split rfl ?_ (fun _ => ?_) (fun _ => ?_); ((fail_if_success (refine und_t ?_; assumption)); (fail_if_success (refine und_f ?_; assumption)); exact trivial)) | (with_reducible refine Es_nil ?_) | (with_reducible refine then_n ?_) | ((with_reducible refine gR ?_); first | refine ret1 rfl ?_ | refine ret2 rfl rfl ?_ | refine ret0 ?_ | refine end1 rfl ?_ | refine end0 ?_))
  all_goals (refine congrArg (fun b => AV.d (D.sc (Value.bool b))) ?_; unfold mayL; simp [*])
set_option maxRecDepth 10000 in
set_option maxHeartbeats 2000000 in
theorem right_ac (x : Load) (hs : x.box.size ≤ 9007199254740992) : AC Tryz.prog 48 [.agg x.cs2] [] [] (fun r _ => r = .d (.sc (.bool (mayL x)))) := by
  have cn := rName_ac x.box hs
  have c1 := within_ac x.w 1 1048576
  have c2 := within_ac x.c 0 1048576
  have c3 := within_ac x.p 0 64
  refine AC_enter Tryz.func48 rfl Tryz.ntmps48 (rv := [.tmp 2]) rfl rfl (by simp) (fun w X G => ?_)
  repeat' (first | ((with_reducible refine gA ?_); (first | refine AW_seq ?_ | refine AW_region ?_ | refine AW_ret ?_)) | ((with_reducible refine gS ?_); refine Es_s (T := Tryz.tab) rfl rfl rfl rfl ?_) | (((with_reducible refine gS ?_); apply Es_q); rfl; (first | rfl | (refine w_tt ?_; assumption)); (first | refine LStep_call (cn) rfl rfl rfl rfl | refine LStep_call (c1) rfl rfl rfl rfl | refine LStep_call (c2) rfl rfl rfl rfl | refine LStep_call (c3) rfl rfl rfl rfl)) | (((with_reducible refine gS ?_); apply Es_q); rfl; (first | rfl | (refine w_tt ?_; assumption)); (first | refine LStep_simp (T := Tryz.tab) rfl rfl | (refine LStep_pickT rfl rfl ?_ rfl rfl; assumption) | (refine LStep_pickF rfl rfl ?_ rfl rfl; assumption))) | (refine Es_skip rfl ?_ rfl ?_; (first | rfl | (refine w_tf ?_; assumption) | (refine w_ft ?_; assumption))) | (((with_reducible refine gS ?_); apply Es_xs); rfl; rfl; refine LStep_boxN rfl rfl rfl rfl rfl rfl; rfl) | (refine Es_split rfl ?_ (fun _ => ?_) (fun _ => ?_); ((fail_if_success (refine und_t ?_; assumption)); (fail_if_success (refine und_f ?_; assumption)); exact trivial)) | (with_reducible refine Es_nil ?_) | (with_reducible refine then_n ?_) | ((with_reducible refine gR ?_); first | refine ret1 rfl ?_ | refine ret2 rfl rfl ?_ | refine ret0 ?_ | refine end1 rfl ?_ | refine end0 ?_))
  all_goals (refine congrArg (fun b => AV.d (D.sc (Value.bool b))) ?_; unfold mayL; simp [*])
set_option maxRecDepth 10000 in
set_option maxHeartbeats 4000000 in
theorem rmay_ac (S : Ship) (hs : S.nm.size ≤ 9007199254740992) : AC Tryz.prog 47 [.agg S.cs] [] [] (fun r _ => r = .d (.sc (.bool (shipOk S)))) := by
  have cn := rName_ac S.nm hs
  have c1 := within_ac S.bays 1 32
  have c2 := within_ac S.rows 1 32
  have c3 := within_ac S.tiers 1 32
  have d1 := within_ac S.stack 0 1048576
  have d2 := within_ac S.trim 0 1048576
  have d3 := within_ac S.list 0 1048576
  have d4 := within_ac S.up 0 1048576
  have d5 := within_ac S.most 0 1048576
  refine AC_enter Tryz.func47 rfl Tryz.ntmps47 (rv := [.tmp 2]) rfl rfl (by simp) (fun w X G => ?_)
  repeat' (first | ((with_reducible refine gA ?_); (first | refine AW_seq ?_ | refine AW_region ?_ | refine AW_ret ?_)) | ((with_reducible refine gS ?_); refine Es_s (T := Tryz.tab) rfl rfl rfl rfl ?_) | (((with_reducible refine gS ?_); apply Es_q); rfl; (first | rfl | (refine w_tt ?_; assumption)); (first | refine LStep_call (cn) rfl rfl rfl rfl | refine LStep_call (c1) rfl rfl rfl rfl | refine LStep_call (c2) rfl rfl rfl rfl | refine LStep_call (c3) rfl rfl rfl rfl | refine LStep_call (d1) rfl rfl rfl rfl | refine LStep_call (d2) rfl rfl rfl rfl | refine LStep_call (d3) rfl rfl rfl rfl | refine LStep_call (d4) rfl rfl rfl rfl | refine LStep_call (d5) rfl rfl rfl rfl)) | (((with_reducible refine gS ?_); apply Es_q); rfl; (first | rfl | (refine w_tt ?_; assumption)); (first | refine LStep_simp (T := Tryz.tab) rfl rfl | (refine LStep_pickT rfl rfl ?_ rfl rfl; assumption) | (refine LStep_pickF rfl rfl ?_ rfl rfl; assumption))) | (refine Es_skip rfl ?_ rfl ?_; (first | rfl | (refine w_tf ?_; assumption) | (refine w_ft ?_; assumption))) | (((with_reducible refine gS ?_); apply Es_xs); rfl; rfl; refine LStep_boxN rfl rfl rfl rfl rfl rfl; rfl) | (refine Es_split rfl ?_ (fun _ => ?_) (fun _ => ?_); ((fail_if_success (refine und_t ?_; assumption)); (fail_if_success (refine und_f ?_; assumption)); exact trivial)) | (with_reducible refine Es_nil ?_) | (with_reducible refine then_n ?_) | ((with_reducible refine gR ?_); first | refine ret1 rfl ?_ | refine ret2 rfl rfl ?_ | refine ret0 ?_ | refine end1 rfl ?_ | refine end0 ?_))
  all_goals (refine congrArg (fun b => AV.d (D.sc (Value.bool b))) ?_; unfold shipOk; simp [*])
def slA (s : Sl) : AV := .agg [.d (.sc (.int .i64 s.b)), .d (.sc (.int .i64 s.r)), .d (.sc (.int .i64 s.t))]
set_option maxRecDepth 10000 in
set_option maxHeartbeats 2000000 in
theorem on_ac (S : Ship) (s : Sl) (hS : (0 ≤ S.bays ∧ S.bays ≤ 1048576) ∧ (0 ≤ S.rows ∧ S.rows ≤ 1048576) ∧ (0 ≤ S.tiers ∧ S.tiers ≤ 1048576)) : AC Tryz.prog 95 [.agg S.cs, slA s] [] [] (fun r _ => r = .d (.sc (.bool (onB S s)))) := by
  have c1 := within_ac s.b 0 (S.bays - 1)
  have c2 := within_ac s.r 0 (S.rows - 1)
  have c3 := within_ac s.t 0 (S.tiers - 1)
  refine AC_enter Tryz.func95 rfl Tryz.ntmps95 (rv := [.tmp 4]) rfl rfl (by simp) (fun w X G => ?_)
  repeat' (first | ((with_reducible refine gA ?_); (first | refine AW_seq ?_ | refine AW_region ?_ | refine AW_ret ?_)) | ((with_reducible refine gS ?_); refine Es_s (T := Tryz.tab) rfl rfl rfl rfl ?_) | (((with_reducible refine gS ?_); apply Es_q); rfl; (first | rfl | (refine w_tt ?_; assumption)); (first | refine LStep_call (c1) rfl rfl rfl rfl | refine LStep_call (c2) rfl rfl rfl rfl | refine LStep_call (c3) rfl rfl rfl rfl)) | (((with_reducible refine gS ?_); apply Es_q); rfl; (first | rfl | (refine w_tt ?_; assumption)); (first | refine LStep_simp (T := Tryz.tab) rfl rfl | (refine LStep_sub rfl rfl rfl rfl ?_; (refine IntWalk.i64_in _ ?_; first | omega | (simp only [cmps] at *; omega))) | (refine LStep_pickT rfl rfl ?_ rfl rfl; assumption) | (refine LStep_pickF rfl rfl ?_ rfl rfl; assumption))) | (refine Es_skip rfl ?_ rfl ?_; (first | rfl | (refine w_tf ?_; assumption) | (refine w_ft ?_; assumption))) | (((with_reducible refine gS ?_); apply Es_xs); rfl; rfl; refine LStep_boxN rfl rfl rfl rfl rfl rfl; rfl) | (refine Es_split rfl ?_ (fun _ => ?_) (fun _ => ?_); ((fail_if_success (refine und_t ?_; assumption)); (fail_if_success (refine und_f ?_; assumption)); exact trivial)) | (with_reducible refine Es_nil ?_) | (with_reducible refine then_n ?_) | ((with_reducible refine gR ?_); first | refine ret1 rfl ?_ | refine ret2 rfl rfl ?_ | refine ret0 ?_ | refine end1 rfl ?_ | refine end0 ?_))
  all_goals (refine congrArg (fun b => AV.d (D.sc (Value.bool b))) ?_; unfold onB; simp [*])
def apE (p : Int × Int) : List D := [.sl 1 [[.sc (.int .i64 p.1)], [.sc (.int .i64 p.2)]]]
theorem any_takeB {α : Type} {f : α → Bool} {l : List α} {k : Nat} {c : α} (hc : l[k]? = some c) (hf : (l.take k).any f = false) : (f c = false → (l.take (k + 1)).any f = false) ∧ (f c = true → l.any f = true) := by
  have h1 : (l.take (k + 1)).any f = f c := by rw [take_at hc, List.any_append, hf]; simp
  exact ⟨fun h => by rw [h1, h], fun h => List.any_eq_true.2 ⟨c, List.mem_of_getElem? hc, h⟩⟩
set_option maxRecDepth 10000 in
set_option maxHeartbeats 4000000 in
theorem rapart_ac (a b : Int) : AC Tryz.prog 130 [.d (.sc (.int .i64 a)), .d (.sc (.int .i64 b))] [] [] (fun r _ => r = .d (.sc (.bool (apB a b)))) := by
  have hcon : ∀ x y : Int, x ≤ y → apB x y = apRows.any fun p => decide (p.1 = x) && decide (p.2 = y) := by
    intro x y hxy
    have hr : ∀ p ∈ apRows, p.1 < p.2 := by decide
    rw [Bool.eq_iff_iff, List.any_eq_true]
    unfold apB
    rw [Bool.or_eq_true]
    constructor
    · rintro (h | h)
      · exact ⟨(x, y), List.contains_iff_mem.1 h, by simp⟩
      · have := hr (y, x) (List.contains_iff_mem.1 h)
        simp only at this
        omega
    · rintro ⟨⟨p, q⟩, hp, h⟩
      simp only [Bool.and_eq_true, decide_eq_true_eq] at h
      obtain ⟨rfl, rfl⟩ := h
      exact .inl (List.contains_iff_mem.2 hp)
  by_cases hab : b < a
  · rw [apB_comm, hcon b a (by omega)]
    refine AC_enter Tryz.func130 rfl Tryz.ntmps130 (rv := [.tmp 4]) rfl rfl (by simp) (fun w X G => ?_)
    repeat' (first | ((with_reducible refine gA ?_); (first | refine AW_seq ?_ | refine AW_region ?_ | (refine AW_cond rfl (fun hc => ?_) (fun hc => ?_) <;> try (exfalso; simp only [cmpL] at hc; omega)) | refine AW_block ?_)) | ((with_reducible refine gS ?_); refine Es_s (T := Tryz.tab) rfl rfl rfl rfl ?_) | (((with_reducible refine gS ?_); apply Es_q); rfl; rfl; (refine LStep_lit (T := Tryz.tab) rfl rfl rfl rfl rfl rfl rfl rfl ?_; (refine Nat.le_of_ble_eq_true ?_; rfl))) | (with_reducible refine Es_nil ?_) | (with_reducible refine then_n ?_))
    all_goals simp only [cmps] at *
    all_goals first
      | (exfalso; omega)
      | skip
    refine AW_forE (S := Nat) (fun k => k ≤ apRows.length ∧ (apRows.take k).any (fun p => decide (p.1 = b) && decide (p.2 = a)) = false) (fun k => [(6, .d (.sc (.int .i64 (k : Nat)))), (5, .d (.sl 1 (apRows.map apE)))]) (fun _ => []) (fun k => apRows.length - k) 0 ⟨by omega, rfl⟩ (by (repeat' (first | exact trivial | exact rfl | (refine ⟨Or.inl rfl, ?_⟩) | (refine ⟨Or.inr rfl, ?_⟩) | (refine ⟨Or.inr trivial, ?_⟩) | (refine ⟨rfl, ?_⟩) | (refine ⟨?_, ?_⟩)))) (by (repeat' (first | exact trivial | exact rfl | (refine ⟨Or.inl rfl, ?_⟩) | (refine ⟨Or.inr rfl, ?_⟩) | (refine ⟨Or.inr trivial, ?_⟩) | (refine ⟨rfl, ?_⟩) | (refine ⟨?_, ?_⟩)))) ?_
    intro k ⟨hk, hf⟩
    by_cases hlt : k < apRows.length
    · obtain ⟨p, hp, _⟩ := drop_at hlt
      have h17 : apRows.length = 17 := rfl
      obtain ⟨hn, hy⟩ := any_takeB (f := fun p : Int × Int => decide (p.1 = b) && decide (p.2 = a)) hp hf
      repeat' (first | ((with_reducible refine gA ?_); (first | refine AW_seq ?_ | refine AW_region ?_ | refine AW_condF rfl ?_ | (refine AW_cond rfl (fun hc => ?_) (fun hc => ?_) <;> try (exfalso; simp only [cmpL] at hc; omega)) | refine AW_block ?_ | refine AW_ret ?_ | refine AW_skip ?_)) | ((with_reducible refine gS ?_); refine Es_s (T := Tryz.tab) rfl rfl rfl rfl ?_) | (((with_reducible refine gS ?_); apply Es_q); rfl; (first | rfl | (refine w_tt ?_; assumption)); (first | refine LStep_simp (T := Tryz.tab) rfl rfl | refine LStep_lenM (T := Tryz.tab) rfl rfl rfl rfl | (refine LStep_add rfl rfl rfl rfl ?_; (refine IntWalk.i64_in _ ?_; first | omega | (simp only [cmps] at *; omega))) | (refine LStep_pickT rfl rfl ?_ rfl rfl; assumption) | (refine LStep_pickF rfl rfl ?_ rfl rfl; assumption) | (refine LStep_indexM (T := Tryz.tab) (c := ?_) rfl rfl rfl rfl rfl rfl ?_; rotate_left; assumption) | (refine LStep_index (T := Tryz.tab) (c := ?_) rfl rfl rfl rfl rfl rfl ?_ ?_; rotate_left; omega; (first | assumption | rfl)))) | (refine Es_skip rfl ?_ rfl ?_; (first | rfl | (refine w_tf ?_; assumption) | (refine w_ft ?_; assumption))) | (refine Es_split rfl ?_ (fun _ => ?_) (fun _ => ?_); ((fail_if_success (refine und_t ?_; assumption)); (fail_if_success (refine und_f ?_; assumption)); exact trivial)) | (with_reducible refine Es_nil ?_) | (with_reducible refine then_n ?_) | (with_reducible refine then_r ?_) | (with_reducible refine block_n ?_) | (with_reducible refine block_r ?_) | ((with_reducible refine gR ?_); first | refine ret1 rfl ?_ | refine ret2 rfl rfl ?_ | refine ret0 ?_ | refine end1 rfl ?_ | refine end0 ?_))
      all_goals simp only [cmps] at *
      all_goals first
        | (refine congrArg (fun b => AV.d (D.sc (Value.bool b))) ?_; symm; exact hy (by simp [*]))
        | (refine ⟨k + 1, ?_, by omega, by (repeat' (first | exact trivial | exact rfl | (refine ⟨Or.inl rfl, ?_⟩) | (refine ⟨Or.inr rfl, ?_⟩) | (refine ⟨Or.inr trivial, ?_⟩) | (refine ⟨rfl, ?_⟩) | (refine ⟨?_, ?_⟩))), by (repeat' (first | exact trivial | exact rfl | (refine ⟨Or.inl rfl, ?_⟩) | (refine ⟨Or.inr rfl, ?_⟩) | (refine ⟨Or.inr trivial, ?_⟩) | (refine ⟨rfl, ?_⟩) | (refine ⟨?_, ?_⟩))), by (repeat' (first | exact trivial | exact rfl | (refine ⟨Or.inl rfl, ?_⟩) | (refine ⟨Or.inr rfl, ?_⟩) | (refine ⟨Or.inr trivial, ?_⟩) | (refine ⟨rfl, ?_⟩) | (refine ⟨?_, ?_⟩))), by (repeat' (first | exact trivial | exact rfl | (refine ⟨Or.inl rfl, ?_⟩) | (refine ⟨Or.inr rfl, ?_⟩) | (refine ⟨Or.inr trivial, ?_⟩) | (refine ⟨rfl, ?_⟩) | (refine ⟨?_, ?_⟩)))⟩; exact ⟨by omega, hn (by simp [*])⟩)
        | trace_state
    have : k = apRows.length := by omega
    subst this
    rw [List.take_length] at hf
    repeat' (first | ((with_reducible refine gA ?_); (first | refine AW_seq ?_ | refine AW_region ?_ | (refine AW_cond rfl (fun hc => ?_) (fun hc => ?_) <;> try (exfalso; simp only [cmpL] at hc; omega)) | refine AW_ret ?_ | refine AW_exit ?_)) | ((with_reducible refine gS ?_); refine Es_s (T := Tryz.tab) rfl rfl rfl rfl ?_) | (((with_reducible refine gS ?_); apply Es_q); rfl; rfl; refine LStep_lenM (T := Tryz.tab) rfl rfl rfl rfl) | (with_reducible refine Es_nil ?_) | (with_reducible refine then_n ?_) | (with_reducible refine then_e ?_) | ((with_reducible refine block_e ?_ ?_); rfl) | ((with_reducible refine gR ?_); first | refine ret1 rfl ?_ | refine ret2 rfl rfl ?_ | refine ret0 ?_ | refine end1 rfl ?_ | refine end0 ?_))
    refine congrArg (fun b => AV.d (D.sc (Value.bool b))) ?_; exact hf.symm
  · rw [hcon a b (by omega)]
    refine AC_enter Tryz.func130 rfl Tryz.ntmps130 (rv := [.tmp 4]) rfl rfl (by simp) (fun w X G => ?_)
    repeat' (first | ((with_reducible refine gA ?_); (first | refine AW_seq ?_ | refine AW_region ?_ | (refine AW_cond rfl (fun hc => ?_) (fun hc => ?_) <;> try (exfalso; simp only [cmpL] at hc; omega)) | refine AW_block ?_ | refine AW_skip ?_)) | ((with_reducible refine gS ?_); refine Es_s (T := Tryz.tab) rfl rfl rfl rfl ?_) | (((with_reducible refine gS ?_); apply Es_q); rfl; rfl; (refine LStep_lit (T := Tryz.tab) rfl rfl rfl rfl rfl rfl rfl rfl ?_; (refine Nat.le_of_ble_eq_true ?_; rfl))) | (with_reducible refine Es_nil ?_) | (with_reducible refine then_n ?_))
    all_goals simp only [cmps] at *
    all_goals first
      | (exfalso; omega)
      | skip
    refine AW_forE (S := Nat) (fun k => k ≤ apRows.length ∧ (apRows.take k).any (fun p => decide (p.1 = a) && decide (p.2 = b)) = false) (fun k => [(6, .d (.sc (.int .i64 (k : Nat)))), (5, .d (.sl 1 (apRows.map apE)))]) (fun _ => []) (fun k => apRows.length - k) 0 ⟨by omega, rfl⟩ (by (repeat' (first | exact trivial | exact rfl | (refine ⟨Or.inl rfl, ?_⟩) | (refine ⟨Or.inr rfl, ?_⟩) | (refine ⟨Or.inr trivial, ?_⟩) | (refine ⟨rfl, ?_⟩) | (refine ⟨?_, ?_⟩)))) (by (repeat' (first | exact trivial | exact rfl | (refine ⟨Or.inl rfl, ?_⟩) | (refine ⟨Or.inr rfl, ?_⟩) | (refine ⟨Or.inr trivial, ?_⟩) | (refine ⟨rfl, ?_⟩) | (refine ⟨?_, ?_⟩)))) ?_
    intro k ⟨hk, hf⟩
    by_cases hlt : k < apRows.length
    · obtain ⟨p, hp, _⟩ := drop_at hlt
      have h17 : apRows.length = 17 := rfl
      obtain ⟨hn, hy⟩ := any_takeB (f := fun p : Int × Int => decide (p.1 = a) && decide (p.2 = b)) hp hf
      repeat' (first | ((with_reducible refine gA ?_); (first | refine AW_seq ?_ | refine AW_region ?_ | refine AW_condF rfl ?_ | (refine AW_cond rfl (fun hc => ?_) (fun hc => ?_) <;> try (exfalso; simp only [cmpL] at hc; omega)) | refine AW_block ?_ | refine AW_ret ?_ | refine AW_skip ?_)) | ((with_reducible refine gS ?_); refine Es_s (T := Tryz.tab) rfl rfl rfl rfl ?_) | (((with_reducible refine gS ?_); apply Es_q); rfl; (first | rfl | (refine w_tt ?_; assumption)); (first | refine LStep_simp (T := Tryz.tab) rfl rfl | refine LStep_lenM (T := Tryz.tab) rfl rfl rfl rfl | (refine LStep_add rfl rfl rfl rfl ?_; (refine IntWalk.i64_in _ ?_; first | omega | (simp only [cmps] at *; omega))) | (refine LStep_pickT rfl rfl ?_ rfl rfl; assumption) | (refine LStep_pickF rfl rfl ?_ rfl rfl; assumption) | (refine LStep_indexM (T := Tryz.tab) (c := ?_) rfl rfl rfl rfl rfl rfl ?_; rotate_left; assumption) | (refine LStep_index (T := Tryz.tab) (c := ?_) rfl rfl rfl rfl rfl rfl ?_ ?_; rotate_left; omega; (first | assumption | rfl)))) | (refine Es_skip rfl ?_ rfl ?_; (first | rfl | (refine w_tf ?_; assumption) | (refine w_ft ?_; assumption))) | (refine Es_split rfl ?_ (fun _ => ?_) (fun _ => ?_); ((fail_if_success (refine und_t ?_; assumption)); (fail_if_success (refine und_f ?_; assumption)); exact trivial)) | (with_reducible refine Es_nil ?_) | (with_reducible refine then_n ?_) | (with_reducible refine then_r ?_) | (with_reducible refine block_n ?_) | (with_reducible refine block_r ?_) | ((with_reducible refine gR ?_); first | refine ret1 rfl ?_ | refine ret2 rfl rfl ?_ | refine ret0 ?_ | refine end1 rfl ?_ | refine end0 ?_))
      all_goals simp only [cmps] at *
      all_goals first
        | (refine congrArg (fun b => AV.d (D.sc (Value.bool b))) ?_; symm; exact hy (by simp [*]))
        | (refine ⟨k + 1, ?_, by omega, by (repeat' (first | exact trivial | exact rfl | (refine ⟨Or.inl rfl, ?_⟩) | (refine ⟨Or.inr rfl, ?_⟩) | (refine ⟨Or.inr trivial, ?_⟩) | (refine ⟨rfl, ?_⟩) | (refine ⟨?_, ?_⟩))), by (repeat' (first | exact trivial | exact rfl | (refine ⟨Or.inl rfl, ?_⟩) | (refine ⟨Or.inr rfl, ?_⟩) | (refine ⟨Or.inr trivial, ?_⟩) | (refine ⟨rfl, ?_⟩) | (refine ⟨?_, ?_⟩))), by (repeat' (first | exact trivial | exact rfl | (refine ⟨Or.inl rfl, ?_⟩) | (refine ⟨Or.inr rfl, ?_⟩) | (refine ⟨Or.inr trivial, ?_⟩) | (refine ⟨rfl, ?_⟩) | (refine ⟨?_, ?_⟩))), by (repeat' (first | exact trivial | exact rfl | (refine ⟨Or.inl rfl, ?_⟩) | (refine ⟨Or.inr rfl, ?_⟩) | (refine ⟨Or.inr trivial, ?_⟩) | (refine ⟨rfl, ?_⟩) | (refine ⟨?_, ?_⟩)))⟩; exact ⟨by omega, hn (by simp [*])⟩)
        | trace_state
    have : k = apRows.length := by omega
    subst this
    rw [List.take_length] at hf
    repeat' (first | ((with_reducible refine gA ?_); (first | refine AW_seq ?_ | refine AW_region ?_ | (refine AW_cond rfl (fun hc => ?_) (fun hc => ?_) <;> try (exfalso; simp only [cmpL] at hc; omega)) | refine AW_ret ?_ | refine AW_exit ?_)) | ((with_reducible refine gS ?_); refine Es_s (T := Tryz.tab) rfl rfl rfl rfl ?_) | (((with_reducible refine gS ?_); apply Es_q); rfl; rfl; refine LStep_lenM (T := Tryz.tab) rfl rfl rfl rfl) | (with_reducible refine Es_nil ?_) | (with_reducible refine then_n ?_) | (with_reducible refine then_e ?_) | ((with_reducible refine block_e ?_ ?_); rfl) | ((with_reducible refine gR ?_); first | refine ret1 rfl ?_ | refine ret2 rfl rfl ?_ | refine ret0 ?_ | refine end1 rfl ?_ | refine end0 ?_))
    refine congrArg (fun b => AV.d (D.sc (Value.bool b))) ?_; exact hf.symm
end Go.Proofs.YtjlblnplofgpnaaGreatDoor
