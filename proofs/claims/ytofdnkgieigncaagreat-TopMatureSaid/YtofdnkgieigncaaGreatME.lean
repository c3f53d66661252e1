/- TopMature: a draft. -/
import Derived.Test.YtofdnkgieigncaaGreatMD
import Derived.Test.YtofdnkgieigncaaGreatNJ
namespace Go.Proofs.YtofdnkgieigncaaGreat
open Go.SL

def stM (b : ByteArray) : AV := .d (.sc (.string b))
def drL (s D F : Nat) : List AV := [stM ⟨#[110]⟩, stM ⟨#[115]⟩, stM ⟨#[107]⟩, stM ⟨#[115]⟩, stM ⟨#[85, 83, 68]⟩, nM s, .d (.sc (.int .i64 1)), nM D, nM F]
def biL (s D F : Nat) (st : Int) (acc : Bool) (hol : ByteArray) (mp last : Nat) : List AV := [stM ⟨#[110]⟩, stM ⟨#[115]⟩, stM ⟨#[107]⟩, stM ⟨#[115]⟩, stM ⟨#[85, 83, 68]⟩, nM s, .d (.sc (.int .i64 1)), nM D, nM F, .d (.sc (.int .i64 st)), .d (.sc (.bool acc)), stM hol, .mp mp, nM last]
structure DFit (s D F : Nat) : Prop where
  s1 : 1 ≤ s
  s2 : s ≤ 1099511627776
  d1 : 1 ≤ D
  d2 : D ≤ 1000
  f1 : F ≤ 1048576
set_option maxRecDepth 10000 in
theorem disDay_ac (n : Int) : AC Tryz.prog 113 [.d (.sc (.int .i64 n))] [] [] (fun r _ => r = .d (.sc (.bool (dayB n)))) := by
  refine AC_enter Tryz.func113 rfl Tryz.ntmps113 (rv := [.tmp 2]) rfl rfl (by simp) (fun w X G => ?_)
  repeat' (first | ((with_reducible refine gA ?_); (first | refine AW_seq ?_ | refine AW_region ?_ | refine AW_ret ?_)) | ((with_reducible refine gS ?_); refine Es_s (T := Tryz.tab) rfl rfl rfl rfl ?_) | (((with_reducible refine gS ?_); apply Es_q); rfl; (first | rfl | (refine w_tt ?_; assumption)); (first | refine LStep_simp (T := Tryz.tab) rfl rfl | (refine LStep_pickT rfl rfl ?_ rfl rfl; assumption) | (refine LStep_pickF rfl rfl ?_ rfl rfl; assumption))) | (refine Es_skip rfl ?_ rfl ?_; (first | rfl | (refine w_tf ?_; assumption) | (refine w_ft ?_; assumption))) | (refine Es_split rfl ?_ (fun _ => ?_) (fun _ => ?_); ((fail_if_success (refine und_t ?_; assumption)); (fail_if_success (refine und_f ?_; assumption)); exact trivial)) | (with_reducible refine Es_nil ?_) | (with_reducible refine then_n ?_) | ((with_reducible refine gR ?_); first | refine ret1 rfl ?_ | refine ret2 rfl rfl ?_ | refine ret0 ?_ | refine end1 rfl ?_ | refine end0 ?_))
  all_goals simp only [cmps] at *
  all_goals first
    | (refine avM ?_; rw [dayB_t]; simp; omega)
    | (refine avM ?_; rw [dayB_t, leb_t]; omega)
    | trace_state
theorem dayB_of {n : Nat} (h : n ≤ 1048576) : dayB (n : Int) = true := by rw [dayB_t]; omega
set_option maxRecDepth 20000 in
set_option maxHeartbeats 4000000 in
theorem dmay_ac (s D F : Nat) (hf : DFit s D F) : AC Tryz.prog 61 [.agg (drL s D F)] [] [] (fun r _ => r = .d (.sc (.bool true))) := by
  obtain ⟨h1, h2, h3, h4, h5⟩ := hf
  have c1 := name_ac ⟨#[110]⟩
  have c2 := name_ac ⟨#[115]⟩
  have c3 := name_ac ⟨#[107]⟩
  have cm := moneyMay_ac ⟨#[85, 83, 68]⟩ (s : Int)
  have cd := disDay_ac (F : Int)
  rw [show nameOk ⟨#[110]⟩ = true from by decide] at c1
  rw [show nameOk ⟨#[115]⟩ = true from by decide] at c2
  rw [show nameOk ⟨#[107]⟩ = true from by decide] at c3
  rw [show (curNOk ⟨#[85, 83, 68]⟩ && amtB (s : Int)) = true from by rw [show curNOk ⟨#[85, 83, 68]⟩ = true from by decide]; simp [amtB]; omega] at cm
  rw [dayB_of h5] at cd
  unfold drL stM nM at *
  refine AC_enter Tryz.func61 rfl Tryz.ntmps61 (rv := [.tmp 2]) rfl rfl (by simp) (fun w X G => ?_)
  repeat' (first | ((with_reducible refine gA ?_); (first | refine AW_seq ?_ | refine AW_region ?_ | refine AW_condT rfl ?_ | refine AW_condF rfl ?_ | (refine AW_condY rfl ?_ ?_; assumption) | (refine AW_condN rfl ?_ ?_; assumption) | (refine AW_cond rfl (fun hc => ?_) (fun hc => ?_) <;> try (exfalso; simp only [cmpL] at hc; omega)) | refine AW_block ?_ | refine AW_ret ?_ | refine AW_skip ?_)) | ((with_reducible refine gS ?_); refine Es_s (T := Tryz.tab) rfl rfl rfl rfl ?_) | (((with_reducible refine gS ?_); apply Es_q); rfl; (first | rfl | (refine w_tt ?_; assumption) | (refine w_ff ?_; assumption)); (first | refine LStep_call (c1) rfl rfl rfl rfl | refine LStep_call (c2) rfl rfl rfl rfl | refine LStep_call (c3) rfl rfl rfl rfl | refine LStep_call (cm) rfl rfl rfl rfl | refine LStep_call (cd) rfl rfl rfl rfl)) | (((with_reducible refine gS ?_); apply Es_q); rfl; (first | rfl | (refine w_tt ?_; assumption) | (refine w_ff ?_; assumption)); (first | refine LStep_simp (T := Tryz.tab) rfl rfl | (refine LStep_pickT rfl rfl ?_ rfl rfl; assumption) | (refine LStep_pickF rfl rfl ?_ rfl rfl; assumption))) | (refine Es_skip rfl ?_ rfl ?_; (first | rfl | (refine w_tf ?_; assumption) | (refine w_ft ?_; assumption))) | (((with_reducible refine gS ?_); apply Es_xs); rfl; rfl; refine LStep_boxN rfl rfl rfl rfl rfl rfl; rfl) | (refine Es_split rfl ?_ (fun _ => ?_) (fun _ => ?_); ((fail_if_success (refine und_t ?_; assumption)); (fail_if_success (refine und_f ?_; assumption)); exact trivial)) | (with_reducible refine Es_nil ?_) | (with_reducible refine then_n ?_) | (with_reducible refine then_r ?_) | (with_reducible refine block_r ?_) | ((with_reducible refine gR ?_); first | refine ret1 rfl ?_ | refine ret2 rfl rfl ?_ | refine ret0 ?_ | refine end1 rfl ?_ | refine end0 ?_))
  all_goals simp only [cmps] at *
  all_goals first
    | rfl
    | (rename_i hx; exact absurd hx (by decide))
    | (exfalso; omega)
    | (refine avM ?_; simp only [leb_t]; simp; omega)
    | trace_state
set_option maxRecDepth 20000 in
set_option maxHeartbeats 4000000 in
theorem due_ac (R H : List Int) (s D F : Nat) (hf : DFit s D F) (hc : calB R H = true) : AC Tryz.prog 21 [calA R H, .agg (drL s D F)] [] [] (fun r _ => r = dueR (nextD R H (F + D))) := by
  have cm := dmay_ac s D F hf
  obtain ⟨h1, h2, h3, h4, h5⟩ := hf
  have cn := nextC_ac R H (F + D) hc (by omega)
  rw [show ((F + D : Nat) : Int) = (F : Int) + (D : Int) from by omega] at cn
  generalize hx : nextD R H (F + D) = x at *
  unfold drL stM nM calA dueR at *
  refine AC_enter Tryz.func21 rfl Tryz.ntmps21 (rv := [.tmp 4, .tmp 5]) rfl rfl (by simp) (fun w X G => ?_)
  repeat' (first | ((with_reducible refine gA ?_); (first | refine AW_seq ?_ | refine AW_region ?_ | refine AW_condF rfl ?_ | refine AW_ret ?_ | refine AW_skip ?_)) | ((with_reducible refine gS ?_); refine Es_s (T := Tryz.tab) rfl rfl rfl rfl ?_) | (((with_reducible refine gS ?_); apply Es_q); rfl; rfl; (first | refine LStep_call (cm) rfl rfl rfl rfl | refine LStep_call (cn) rfl rfl rfl rfl)) | (((with_reducible refine gS ?_); apply Es_q); rfl; rfl; (refine LStep_add rfl rfl rfl rfl ?_; (refine IntWalk.i64_in _ ?_; first | omega | (simp only [cmps] at *; omega)))) | (refine Es_skip rfl ?_ rfl ?_; (first | rfl | (refine w_tf ?_; assumption) | (refine w_ft ?_; assumption))) | (((with_reducible refine gS ?_); apply Es_xs); rfl; rfl; refine LStep_boxN rfl rfl rfl rfl rfl rfl; rfl) | (with_reducible refine Es_nil ?_) | (with_reducible refine then_n ?_) | ((with_reducible refine gR ?_); first | refine ret1 rfl ?_ | refine ret2 rfl rfl ?_ | refine ret0 ?_ | refine end1 rfl ?_ | refine end0 ?_))
  all_goals simp only [cmps] at *
  all_goals first
    | rfl
    | (exfalso; omega)
    | trace_state
set_option maxRecDepth 20000 in
set_option maxHeartbeats 4000000 in
theorem dnew_ac (s D F : Nat) (hf : DFit s D F) : AC Tryz.prog 22 [.agg (drL s D F)] [] [] (fun r h' => r = .tup [.ptr 14 0, .d (.sc (.int .i64 0))] ∧ SubH [(14, some (.cells (biL s D F 0 false ⟨#[115]⟩ 10 F))), (10, some (.map 9 4 [] none))] h') := by
  have cm := dmay_ac s D F hf
  unfold drL biL stM nM at *
  refine AC_enter Tryz.func22 rfl Tryz.ntmps22 (rv := [.tmp 2, .tmp 3]) rfl rfl (by simp) (fun w X G => ?_)
  repeat' (first | ((with_reducible refine gA ?_); (first | refine AW_seq ?_ | refine AW_region ?_ | refine AW_condF rfl ?_ | refine AW_ret ?_ | refine AW_skip ?_)) | ((with_reducible refine gS ?_); refine Es_s (T := Tryz.tab) rfl rfl rfl rfl ?_) | (((with_reducible refine gS ?_); apply Es_q); rfl; rfl; refine LStep_call (cm) rfl rfl rfl rfl) | (((with_reducible refine gS ?_); apply Es_xs); rfl; rfl; refine LStep_makeMap (kt := 9) (et := 4) rfl rfl rfl rfl; rfl) | (((with_reducible refine gS ?_); apply Es_q); rfl; rfl; refine LStep_buildN (T := Tryz.tab) rfl rfl rfl rfl rfl rfl rfl) | (refine Es_skip rfl ?_ rfl ?_; (first | rfl | (refine w_tf ?_; assumption) | (refine w_ft ?_; assumption))) | (((with_reducible refine gS ?_); apply Es_xs); rfl; rfl; refine LStep_boxN rfl rfl rfl rfl rfl rfl; rfl) | (with_reducible refine Es_nil ?_) | (with_reducible refine then_n ?_) | ((with_reducible refine gR ?_); first | refine ret1 rfl ?_ | refine ret2 rfl rfl ?_ | refine ret0 ?_ | refine end1 rfl ?_ | refine end0 ?_))
  all_goals simp only [cmps] at *
  all_goals first
    | exact ⟨rfl, by (repeat' (first | exact trivial | exact rfl | (refine ⟨Or.inl rfl, ?_⟩) | (refine ⟨Or.inr rfl, ?_⟩) | (refine ⟨Or.inr trivial, ?_⟩) | (refine ⟨rfl, ?_⟩) | (refine ⟨?_, ?_⟩)))⟩
    | exact ⟨trivial, by (repeat' (first | exact trivial | exact rfl | (refine ⟨Or.inl rfl, ?_⟩) | (refine ⟨Or.inr rfl, ?_⟩) | (refine ⟨Or.inr trivial, ?_⟩) | (refine ⟨rfl, ?_⟩) | (refine ⟨?_, ?_⟩)))⟩
    | (exfalso; omega)
    | trace_state
def bH (s D F : Nat) (st : Int) (acc : Bool) (hol : ByteArray) (last : Nat) (M : List (Value × AV)) : Hp := [(1000, some (.cells (biL s D F st acc hol 1001 last))), (1001, some (.map 9 4 M none))]
set_option maxRecDepth 10000 in
theorem holder_ac (s D F : Nat) (st : Int) (acc : Bool) (hol : ByteArray) (last : Nat) (M : List (Value × AV)) : AC Tryz.prog 27 [.ptr 1000 0] (bH s D F st acc hol last M) [1000, 1001] (fun r h' => r = stM hol ∧ SubH (bH s D F st acc hol last M) h') := by
  unfold bH biL stM nM
  refine AC_enter Tryz.func27 rfl Tryz.ntmps27 (rv := [.tmp 2]) rfl rfl (by simp) (fun w X G => ?_)
  repeat' (first | ((with_reducible refine gA ?_); (first | refine AW_seq ?_ | refine AW_region ?_ | refine AW_ret ?_)) | ((with_reducible refine gS ?_); refine Es_s (T := Tryz.tab) rfl rfl rfl rfl ?_) | (with_reducible refine Es_nil ?_) | (with_reducible refine then_n ?_) | ((with_reducible refine gR ?_); first | refine ret1 rfl ?_ | refine ret2 rfl rfl ?_ | refine ret0 ?_ | refine end1 rfl ?_ | refine end0 ?_))
  all_goals first
    | exact ⟨rfl, by (repeat' (first | exact trivial | exact rfl | (refine ⟨Or.inl rfl, ?_⟩) | (refine ⟨Or.inr rfl, ?_⟩) | (refine ⟨Or.inr trivial, ?_⟩) | (refine ⟨rfl, ?_⟩) | (refine ⟨?_, ?_⟩)))⟩
    | trace_state
set_option maxRecDepth 10000 in
theorem dstate_ac (s D F : Nat) (st : Int) (acc : Bool) (hol : ByteArray) (last : Nat) (M : List (Value × AV)) : AC Tryz.prog 29 [.ptr 1000 0] (bH s D F st acc hol last M) [1000, 1001] (fun r h' => r = .d (.sc (.int .i64 st)) ∧ SubH (bH s D F st acc hol last M) h') := by
  unfold bH biL stM nM
  refine AC_enter Tryz.func29 rfl Tryz.ntmps29 (rv := [.tmp 2]) rfl rfl (by simp) (fun w X G => ?_)
  repeat' (first | ((with_reducible refine gA ?_); (first | refine AW_seq ?_ | refine AW_region ?_ | refine AW_ret ?_)) | ((with_reducible refine gS ?_); refine Es_s (T := Tryz.tab) rfl rfl rfl rfl ?_) | (with_reducible refine Es_nil ?_) | (with_reducible refine then_n ?_) | ((with_reducible refine gR ?_); first | refine ret1 rfl ?_ | refine ret2 rfl rfl ?_ | refine ret0 ?_ | refine end1 rfl ?_ | refine end0 ?_))
  all_goals first
    | exact ⟨rfl, by (repeat' (first | exact trivial | exact rfl | (refine ⟨Or.inl rfl, ?_⟩) | (refine ⟨Or.inr rfl, ?_⟩) | (refine ⟨Or.inr trivial, ?_⟩) | (refine ⟨rfl, ?_⟩) | (refine ⟨?_, ?_⟩)))⟩
    | trace_state
set_option maxRecDepth 10000 in
theorem liable_ac (s D F : Nat) (acc : Bool) (hol : ByteArray) (last : Nat) (M : List (Value × AV)) : AC Tryz.prog 30 [.ptr 1000 0] (bH s D F 2 acc hol last M) [1000, 1001] (fun r h' => r = .d (.sc (.slice none 0 0)) ∧ SubH (bH s D F 2 acc hol last M) h') := by
  unfold bH biL stM nM
  refine AC_enter Tryz.func30 rfl Tryz.ntmps30 (rv := [.tmp 2]) rfl rfl (by simp) (fun w X G => ?_)
  repeat' (first | ((with_reducible refine gA ?_); (first | refine AW_seq ?_ | refine AW_region ?_ | (refine AW_cond rfl (fun hc => ?_) (fun hc => ?_) <;> try (exfalso; simp only [cmpL] at hc; omega)) | refine AW_ret ?_)) | ((with_reducible refine gS ?_); refine Es_s (T := Tryz.tab) rfl rfl rfl rfl ?_) | (with_reducible refine Es_nil ?_) | (with_reducible refine then_n ?_) | (with_reducible refine then_r ?_) | ((with_reducible refine gR ?_); first | refine ret1 rfl ?_ | refine ret2 rfl rfl ?_ | refine ret0 ?_ | refine end1 rfl ?_ | refine end0 ?_))
  all_goals simp only [cmps] at *
  all_goals first
    | exact ⟨rfl, by (repeat' (first | exact trivial | exact rfl | (refine ⟨Or.inl rfl, ?_⟩) | (refine ⟨Or.inr rfl, ?_⟩) | (refine ⟨Or.inr trivial, ?_⟩) | (refine ⟨rfl, ?_⟩) | (refine ⟨?_, ?_⟩)))⟩
    | exact ⟨trivial, by (repeat' (first | exact trivial | exact rfl | (refine ⟨Or.inl rfl, ?_⟩) | (refine ⟨Or.inr rfl, ?_⟩) | (refine ⟨Or.inr trivial, ?_⟩) | (refine ⟨rfl, ?_⟩) | (refine ⟨?_, ?_⟩)))⟩
    | (exfalso; omega)
    | trace_state
end Go.Proofs.YtofdnkgieigncaaGreat
