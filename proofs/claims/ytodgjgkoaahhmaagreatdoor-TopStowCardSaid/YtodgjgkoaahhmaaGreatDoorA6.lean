import Derived.Test.YtodgjgkoaahhmaaGreatDoorA5
namespace Go.Proofs.YtodgjgkoaahhmaaGreatDoor
open Go.SL
/-! ### names, ships, loads: what may be -/
theorem all_takeB {f : UInt8 → Bool} {l : List UInt8} {k : Nat} {c : UInt8} (hc : l[k]? = some c) (hf : (l.take k).all f = true) : (f c = true → (l.take (k + 1)).all f = true) ∧ (f c = false → l.all f = false) := by
  have h1 : (l.take (k + 1)).all f = f c := by rw [take_at hc, List.all_append, hf]; simp
  refine ⟨fun h => by rw [h1, h], fun h => ?_⟩
  rw [List.all_eq_false]
  exact ⟨c, List.mem_of_getElem? hc, by simp [h]⟩
set_option maxRecDepth 10000 in
set_option maxHeartbeats 1000000 in
theorem isName_ac (s : ByteArray) : AC Tryz.prog 94 [.d (.sc (.string s))] [] [] (fun r _ => r = .d (.sc (.bool (bnameOk s)))) := by
  have hlen : s.data.toList.length = s.size := rfl
  refine AC_enter Tryz.func94 rfl Tryz.ntmps94 (rv := [.tmp 2]) rfl rfl (by simp) (fun w X G => ?_)
  repeat' (first | ((with_reducible refine gA ?_); (first | refine AW_seq ?_ | refine AW_region ?_ | refine AW_condT rfl ?_ | (refine AW_cond rfl (fun hc => ?_) (fun hc => ?_) <;> try (exfalso; simp only [cmpL] at hc; omega)) | refine AW_block ?_ | refine AW_ret ?_ | refine AW_skip ?_)) | ((with_reducible refine gS ?_); refine Es_s (T := Tryz.tab) rfl rfl rfl rfl ?_) | (((with_reducible refine gS ?_); apply Es_q); rfl; (first | rfl | (refine w_ff ?_; assumption)); (first | refine LStep_simp (T := Tryz.tab) rfl rfl | refine LStep_wrap (T := Tryz.tab) rfl rfl | (refine LStep_pickT rfl rfl ?_ rfl rfl; assumption) | (refine LStep_pickF rfl rfl ?_ rfl rfl; assumption))) | (refine Es_skip rfl ?_ rfl ?_; (first | rfl | (refine w_tf ?_; assumption) | (refine w_ft ?_; assumption))) | (refine Es_split rfl ?_ (fun _ => ?_) (fun _ => ?_); ((fail_if_success (refine und_t ?_; assumption)); (fail_if_success (refine und_f ?_; assumption)); exact trivial)) | (with_reducible refine Es_nil ?_) | (with_reducible refine then_n ?_) | (with_reducible refine then_r ?_) | ((with_reducible refine gR ?_); first | refine ret1 rfl ?_ | refine ret2 rfl rfl ?_ | refine ret0 ?_ | refine end1 rfl ?_ | refine end0 ?_))
  all_goals simp only [cmps] at *
  · refine congrArg (fun b => AV.d (D.sc (Value.bool b))) ?_; simp [bnameOk]; omega
  · refine congrArg (fun b => AV.d (D.sc (Value.bool b))) ?_; simp [bnameOk]; omega
  have hall : bnameOk s = s.data.toList.all bchB := by
    have e1 : 1 ≤ s.size := by omega
    have e2 : s.size ≤ 16 := by omega
    simp [bnameOk, e1, e2]
  rw [hall]
  clear hall
  refine AW_forE (S := Nat) (fun k => k ≤ s.size ∧ (s.data.toList.take k).all bchB = true) (fun k => [(15, .d (.sc (.int .i64 (k : Nat))))]) (fun _ => []) (fun k => s.size - k) 0 ⟨by omega, by simp⟩ (by (repeat' (first | exact trivial | exact rfl | (refine ⟨Or.inl rfl, ?_⟩) | (refine ⟨Or.inr rfl, ?_⟩) | (refine ⟨Or.inr trivial, ?_⟩) | (refine ⟨rfl, ?_⟩) | (refine ⟨?_, ?_⟩)))) (by (repeat' (first | exact trivial | exact rfl | (refine ⟨Or.inl rfl, ?_⟩) | (refine ⟨Or.inr rfl, ?_⟩) | (refine ⟨Or.inr trivial, ?_⟩) | (refine ⟨rfl, ?_⟩) | (refine ⟨?_, ?_⟩)))) ?_
  intro k ⟨hk, hf⟩
  by_cases hlt : k < s.size
  · obtain ⟨c, hc, _⟩ := drop_at (l := s.data.toList) (show k < s.data.toList.length by omega)
    have hc' : s.data.toList[((k : Nat) : Int).toNat]? = some c := by rw [Int.toNat_natCast]; exact hc
    obtain ⟨hy, hn⟩ := all_takeB (f := bchB) hc hf
    repeat' (first | ((with_reducible refine gA ?_); (first | refine AW_seq ?_ | refine AW_region ?_ | refine AW_condF rfl ?_ | (refine AW_cond rfl (fun hc => ?_) (fun hc => ?_) <;> try (exfalso; simp only [cmpL] at hc; omega)) | refine AW_block ?_ | refine AW_ret ?_ | refine AW_skip ?_)) | ((with_reducible refine gS ?_); refine Es_s (T := Tryz.tab) rfl rfl rfl rfl ?_) | (((with_reducible refine gS ?_); apply Es_q); rfl; (first | rfl | (refine w_tt ?_; assumption) | (refine w_ff ?_; assumption)); (first | refine LStep_simp (T := Tryz.tab) rfl rfl | (refine LStep_add rfl rfl rfl rfl ?_; (refine IntWalk.i64_in _ ?_; first | omega | (simp only [cmps] at *; omega))) | (refine LStep_pickT rfl rfl ?_ rfl rfl; assumption) | (refine LStep_pickF rfl rfl ?_ rfl rfl; assumption) | (refine LStep_byteM (T := Tryz.tab) (c := ?_) rfl rfl rfl rfl rfl ?_; rotate_left; assumption))) | (refine Es_skip rfl ?_ rfl ?_; (first | rfl | (refine w_tf ?_; assumption) | (refine w_ft ?_; assumption))) | (refine Es_split rfl ?_ (fun _ => ?_) (fun _ => ?_); ((fail_if_success (refine und_t ?_; assumption)); (fail_if_success (refine und_f ?_; assumption)); exact trivial)) | (with_reducible refine Es_nil ?_) | (with_reducible refine then_n ?_) | (with_reducible refine then_r ?_) | (with_reducible refine block_n ?_) | (with_reducible refine block_r ?_) | ((with_reducible refine gR ?_); first | refine ret1 rfl ?_ | refine ret2 rfl rfl ?_ | refine ret0 ?_ | refine end1 rfl ?_ | refine end0 ?_))
    all_goals simp only [cmps] at *
    all_goals first
      | (have h : bchB c = true := by simp [bchB]; omega
         refine ⟨k + 1, ?_, by omega, by (repeat' (first | exact trivial | exact rfl | (refine ⟨Or.inl rfl, ?_⟩) | (refine ⟨Or.inr rfl, ?_⟩) | (refine ⟨Or.inr trivial, ?_⟩) | (refine ⟨rfl, ?_⟩) | (refine ⟨?_, ?_⟩))), by (repeat' (first | exact trivial | exact rfl | (refine ⟨Or.inl rfl, ?_⟩) | (refine ⟨Or.inr rfl, ?_⟩) | (refine ⟨Or.inr trivial, ?_⟩) | (refine ⟨rfl, ?_⟩) | (refine ⟨?_, ?_⟩))), by (repeat' (first | exact trivial | exact rfl | (refine ⟨Or.inl rfl, ?_⟩) | (refine ⟨Or.inr rfl, ?_⟩) | (refine ⟨Or.inr trivial, ?_⟩) | (refine ⟨rfl, ?_⟩) | (refine ⟨?_, ?_⟩))), by (repeat' (first | exact trivial | exact rfl | (refine ⟨Or.inl rfl, ?_⟩) | (refine ⟨Or.inr rfl, ?_⟩) | (refine ⟨Or.inr trivial, ?_⟩) | (refine ⟨rfl, ?_⟩) | (refine ⟨?_, ?_⟩)))⟩; exact ⟨by omega, hy h⟩)
      | (have h : bchB c = false := by simp [bchB]; omega
         refine congrArg (fun b => AV.d (D.sc (Value.bool b))) ?_; rw [hn h])
  · have : k = s.size := by omega
    subst this
    rw [← hlen, List.take_length] at hf
    repeat' (first | ((with_reducible refine gA ?_); (first | refine AW_seq ?_ | refine AW_region ?_ | (refine AW_cond rfl (fun hc => ?_) (fun hc => ?_) <;> try (exfalso; simp only [cmpL] at hc; omega)) | refine AW_ret ?_ | refine AW_exit ?_)) | ((with_reducible refine gS ?_); refine Es_s (T := Tryz.tab) rfl rfl rfl rfl ?_) | (with_reducible refine Es_nil ?_) | (with_reducible refine then_n ?_) | (with_reducible refine then_e ?_) | ((with_reducible refine block_e ?_ ?_); rfl) | ((with_reducible refine gR ?_); first | refine ret1 rfl ?_ | refine ret2 rfl rfl ?_ | refine ret0 ?_ | refine end1 rfl ?_ | refine end0 ?_))
    refine congrArg (fun b => AV.d (D.sc (Value.bool b))) ?_; rw [hf]



set_option maxRecDepth 10000 in
theorem isFrom_ac (n a b : Int) : AC Tryz.prog 93 [.d (.sc (.int .i64 n)), .d (.sc (.int .i64 a)), .d (.sc (.int .i64 b))] [] [] (fun r _ => r = .d (.sc (.bool (frB n a b)))) := by
  refine AC_enter Tryz.func93 rfl Tryz.ntmps93 (rv := [.tmp 6]) rfl rfl (by simp) (fun w X G => ?_)
  repeat' (first | ((with_reducible refine gA ?_); (first | refine AW_seq ?_ | refine AW_region ?_ | refine AW_ret ?_)) | ((with_reducible refine gS ?_); refine Es_s (T := Tryz.tab) rfl rfl rfl rfl ?_) | (((with_reducible refine gS ?_); apply Es_q); rfl; (first | rfl | (refine w_tt ?_; assumption)); (first | refine LStep_simp (T := Tryz.tab) rfl rfl | (refine LStep_pickT rfl rfl ?_ rfl rfl; assumption) | (refine LStep_pickF rfl rfl ?_ rfl rfl; assumption))) | (refine Es_skip rfl ?_ rfl ?_; (first | rfl | (refine w_tf ?_; assumption) | (refine w_ft ?_; assumption))) | (refine Es_split rfl ?_ (fun _ => ?_) (fun _ => ?_); ((fail_if_success (refine und_t ?_; assumption)); (fail_if_success (refine und_f ?_; assumption)); exact trivial)) | (with_reducible refine Es_nil ?_) | (with_reducible refine then_n ?_) | ((with_reducible refine gR ?_); first | refine ret1 rfl ?_ | refine ret2 rfl rfl ?_ | refine ret0 ?_ | refine end1 rfl ?_ | refine end0 ?_))
  all_goals simp only [cmps] at *
  all_goals (refine congrArg (fun b => AV.d (D.sc (Value.bool b))) ?_; unfold frB; rw [Bool.eq_iff_iff]; simp [leb_d] at *; try omega)


def Ship.cs (S : Ship) : List AV := [.d (.sc (.string S.nm)), .d (.sc (.int .i64 S.bays)), .d (.sc (.int .i64 S.rows)), .d (.sc (.int .i64 S.tiers)), .d (.sc (.int .i64 S.stack)), .d (.sc (.int .i64 S.trim)), .d (.sc (.int .i64 S.list)), .d (.sc (.int .i64 S.up)), .d (.sc (.int .i64 S.most))]
set_option maxRecDepth 10000 in
set_option maxHeartbeats 2000000 in
theorem may_ac (S : Ship) : AC Tryz.prog 49 [.agg S.cs] [] [] (fun r _ => r = .d (.sc (.bool (shipOk S)))) := by
  have cf := isFrom_ac
  have cn := isName_ac S.nm
  refine AC_enter Tryz.func49 rfl Tryz.ntmps49 (rv := [.tmp 2]) rfl rfl (by simp) (fun w X G => ?_)
  have c1 := cf S.bays 1 32
  have c2 := cf S.rows 1 32
  have c3 := cf S.tiers 1 32
  have d1 := cf S.stack 0 1048576
  have d2 := cf S.trim 0 1048576
  have d3 := cf S.list 0 1048576
  have d4 := cf S.up 0 1048576
  have d5 := cf S.most 0 1048576
  repeat' (first | ((with_reducible refine gA ?_); (first | refine AW_seq ?_ | refine AW_region ?_ | refine AW_block ?_)) | ((with_reducible refine gS ?_); refine Es_s (T := Tryz.tab) rfl rfl rfl rfl ?_) | (((with_reducible refine gS ?_); apply Es_q); rfl; rfl; refine LStep_buildArr (T := Tryz.tab) rfl rfl rfl rfl rfl rfl) | (refine Es_skip rfl ?_ rfl ?_; (first | rfl | (refine w_tf ?_; assumption) | (refine w_ft ?_; assumption))) | (((with_reducible refine gS ?_); apply Es_xs); rfl; rfl; refine LStep_boxN rfl rfl rfl rfl rfl rfl; rfl) | (with_reducible refine Es_nil ?_) | (with_reducible refine then_n ?_))
  refine AW_rounds 4 ?_
  repeat' (first | ((with_reducible refine gRd ?_); refine rounds_stepD [] [] ?_) | ((with_reducible refine gA ?_); (first | refine AW_seq ?_ | refine AW_region ?_ | (refine AW_cond rfl (fun hc => ?_) (fun hc => ?_) <;> try (exfalso; simp only [cmpL] at hc; omega)) | refine AW_block ?_ | refine AW_ret ?_ | refine AW_skip ?_ | refine AW_exit ?_)) | ((with_reducible refine gS ?_); refine Es_s (T := Tryz.tab) rfl rfl rfl rfl ?_) | (((with_reducible refine gS ?_); apply Es_q); rfl; rfl; (first | refine LStep_idxArr (T := Tryz.tab) (k := 0) rfl rfl rfl rfl rfl rfl rfl rfl rfl | refine LStep_idxArr (T := Tryz.tab) (k := 1) rfl rfl rfl rfl rfl rfl rfl rfl rfl | refine LStep_idxArr (T := Tryz.tab) (k := 2) rfl rfl rfl rfl rfl rfl rfl rfl rfl | refine LStep_call (c1) rfl rfl rfl rfl | refine LStep_call (c2) rfl rfl rfl rfl | refine LStep_call (c3) rfl rfl rfl rfl | refine LStep_buildArr (T := Tryz.tab) rfl rfl rfl rfl rfl rfl)) | (((with_reducible refine gS ?_); apply Es_q); rfl; rfl; (refine LStep_add rfl rfl rfl rfl ?_; (refine IntWalk.i64_in _ ?_; first | omega | (simp only [cmps] at *; omega)))) | (with_reducible refine Es_nil ?_) | (with_reducible refine then_n ?_) | (with_reducible refine then_r ?_) | (with_reducible refine then_e ?_) | (with_reducible refine block_n ?_) | (with_reducible refine block_r ?_) | ((with_reducible refine block_e ?_ ?_); rfl) | ((with_reducible refine gR ?_); first | refine ret1 rfl ?_ | refine ret2 rfl rfl ?_ | refine ret0 ?_ | refine end1 rfl ?_ | refine end0 ?_))
  all_goals simp only [cmps] at *
  all_goals first
    | (exfalso; omega)
    | (refine congrArg (fun b => AV.d (D.sc (Value.bool b))) ?_; unfold shipOk; simp [*]; done)
    | skip
  refine AW_rounds 6 ?_
  repeat' (first | ((with_reducible refine gRd ?_); refine rounds_stepD [] [] ?_) | ((with_reducible refine gA ?_); (first | refine AW_seq ?_ | refine AW_region ?_ | (refine AW_cond rfl (fun hc => ?_) (fun hc => ?_) <;> try (exfalso; simp only [cmpL] at hc; omega)) | refine AW_block ?_ | refine AW_ret ?_ | refine AW_skip ?_ | refine AW_exit ?_)) | ((with_reducible refine gS ?_); refine Es_s (T := Tryz.tab) rfl rfl rfl rfl ?_) | (((with_reducible refine gS ?_); apply Es_q); rfl; rfl; (first | refine LStep_idxArr (T := Tryz.tab) (k := 0) rfl rfl rfl rfl rfl rfl rfl rfl rfl | refine LStep_idxArr (T := Tryz.tab) (k := 1) rfl rfl rfl rfl rfl rfl rfl rfl rfl | refine LStep_idxArr (T := Tryz.tab) (k := 2) rfl rfl rfl rfl rfl rfl rfl rfl rfl | refine LStep_idxArr (T := Tryz.tab) (k := 3) rfl rfl rfl rfl rfl rfl rfl rfl rfl | refine LStep_idxArr (T := Tryz.tab) (k := 4) rfl rfl rfl rfl rfl rfl rfl rfl rfl | refine LStep_call (d1) rfl rfl rfl rfl | refine LStep_call (d2) rfl rfl rfl rfl | refine LStep_call (d3) rfl rfl rfl rfl | refine LStep_call (d4) rfl rfl rfl rfl | refine LStep_call (d5) rfl rfl rfl rfl | refine LStep_call (cn) rfl rfl rfl rfl)) | (((with_reducible refine gS ?_); apply Es_q); rfl; rfl; (refine LStep_add rfl rfl rfl rfl ?_; (refine IntWalk.i64_in _ ?_; first | omega | (simp only [cmps] at *; omega)))) | (with_reducible refine Es_nil ?_) | (with_reducible refine then_n ?_) | (with_reducible refine then_r ?_) | (with_reducible refine then_e ?_) | (with_reducible refine block_n ?_) | (with_reducible refine block_r ?_) | ((with_reducible refine block_e ?_ ?_); rfl) | ((with_reducible refine gR ?_); first | refine ret1 rfl ?_ | refine ret2 rfl rfl ?_ | refine ret0 ?_ | refine end1 rfl ?_ | refine end0 ?_))
  all_goals simp only [cmps] at *
  all_goals first
    | (exfalso; omega)
    | (refine congrArg (fun b => AV.d (D.sc (Value.bool b))) ?_; unfold shipOk; simp [*]; done)
    | trace_state
def Load.cs2 (x : Load) : List AV := [.d (.sc (.int .i64 x.sl.b)), .d (.sc (.int .i64 x.sl.r)), .d (.sc (.int .i64 x.sl.t)), .d (.sc (.string x.box)), .d (.sc (.int .i64 x.w)), .d (.sc (.int .i64 x.c)), .d (.sc (.int .i64 x.p))]
set_option maxRecDepth 10000 in
set_option maxHeartbeats 2000000 in
theorem mayLoad_ac (x : Load) : AC Tryz.prog 61 [.agg x.cs2] [] [] (fun r _ => r = .d (.sc (.bool (mayL x)))) := by
  have cn := isName_ac x.box
  have c1 := isFrom_ac x.w 1 1048576
  have c2 := isFrom_ac x.c 0 1048576
  have c3 := isFrom_ac x.p 0 64
  refine AC_enter Tryz.func61 rfl Tryz.ntmps61 (rv := [.tmp 2]) rfl rfl (by simp) (fun w X G => ?_)
  repeat' (first | ((with_reducible refine gA ?_); (first | refine AW_seq ?_ | refine AW_region ?_ | refine AW_ret ?_)) | ((with_reducible refine gS ?_); refine Es_s (T := Tryz.tab) rfl rfl rfl rfl ?_) | (((with_reducible refine gS ?_); apply Es_q); rfl; (first | rfl | (refine w_tt ?_; assumption)); (first | refine LStep_call (cn) rfl rfl rfl rfl | refine LStep_call (c1) rfl rfl rfl rfl | refine LStep_call (c2) rfl rfl rfl rfl | refine LStep_call (c3) rfl rfl rfl rfl)) | (((with_reducible refine gS ?_); apply Es_q); rfl; (first | rfl | (refine w_tt ?_; assumption)); (first | refine LStep_simp (T := Tryz.tab) rfl rfl | (refine LStep_pickT rfl rfl ?_ rfl rfl; assumption) | (refine LStep_pickF rfl rfl ?_ rfl rfl; assumption))) | (refine Es_skip rfl ?_ rfl ?_; (first | rfl | (refine w_tf ?_; assumption) | (refine w_ft ?_; assumption))) | (((with_reducible refine gS ?_); apply Es_xs); rfl; rfl; refine LStep_boxN rfl rfl rfl rfl rfl rfl; rfl) | (refine Es_split rfl ?_ (fun _ => ?_) (fun _ => ?_); ((fail_if_success (refine und_t ?_; assumption)); (fail_if_success (refine und_f ?_; assumption)); exact trivial)) | (with_reducible refine Es_nil ?_) | (with_reducible refine then_n ?_) | ((with_reducible refine gR ?_); first | refine ret1 rfl ?_ | refine ret2 rfl rfl ?_ | refine ret0 ?_ | refine end1 rfl ?_ | refine end0 ?_))
  all_goals (refine congrArg (fun b => AV.d (D.sc (Value.bool b))) ?_; unfold mayL; simp [*])


def slA (s : Sl) : AV := .agg [.d (.sc (.int .i64 s.b)), .d (.sc (.int .i64 s.r)), .d (.sc (.int .i64 s.t))]

theorem any_takeB {α : Type} {f : α → Bool} {l : List α} {k : Nat} {c : α} (hc : l[k]? = some c) (hf : (l.take k).any f = false) : (f c = false → (l.take (k + 1)).any f = false) ∧ (f c = true → l.any f = true) := by
  have h1 : (l.take (k + 1)).any f = f c := by rw [take_at hc, List.any_append, hf]; simp
  exact ⟨fun h => by rw [h1, h], fun h => List.any_eq_true.2 ⟨c, List.mem_of_getElem? hc, h⟩⟩






end Go.Proofs.YtodgjgkoaahhmaaGreatDoor
