/- strings.Builder's methods, strconv.Itoa and FormatInt: what they do. -/
import Derived.Test.YtglkilmflohfoaaDoorTx
import Derived.Test.YtglkilmflohfoaaDoorP0
import Derived.Test.YtglkilmflohfoaaDoorH2
import Derived.WalkKit
namespace Go.Proofs.YtglkilmflohfoaaDoor
open Go.RowKit Go.SL Go.Proofs

theorem bdSize : (Tryd.prog.info? 39).map (·.size) = some 2 := by kernel_rfl
theorem bdLies : liesAt Tryd.prog Tryd.prog.depth 39 (2 / Tryd.prog.cellsOf 39) 0 39 1 = true := by kernel_rfl
set_option maxHeartbeats 1000000 in
set_option maxRecDepth 100000 in
theorem cc_used (b : Nat) (w : World) (h0 : w.cell? ⟨b, 0, none⟩ = some (.pointer (some ⟨b, 0, none⟩))) : Calls Tryd.prog 24 #[.pointer (some ⟨b, 0, none⟩)] w fun e w' => e = .returned (.tuple #[]) ∧ w' = w := by
  obtain ⟨j, hj, _⟩ := Option.map_eq_some_iff.1 bdSize
  go_enter Tryd.func24, Tryd.ntmps24
  go_wp2
  rw [Lib.run_neq_ptr_same w _ Tryd.underlying36 hj]
  go_wp2
  go_end0
  exact ⟨rfl, rfl⟩
set_option maxHeartbeats 1000000 in
set_option maxRecDepth 100000 in
theorem cc_fresh (b : Nat) (w : World) (h0 : w.cell? ⟨b, 0, none⟩ = some (.pointer none)) (hsh : w.shape? b = some (39, 2)) (hfz : w.frozen? ⟨b, 0, none⟩ = false) :
    Calls Tryd.prog 24 #[.pointer (some ⟨b, 0, none⟩)] w fun e w' => e = .returned (.tuple #[]) ∧ w' = w.setCell ⟨b, 0, none⟩ (.pointer (some ⟨b, 0, none⟩)) := by
  obtain ⟨j, hj, hjs⟩ := Option.map_eq_some_iff.1 bdSize
  go_enter Tryd.func24, Tryd.ntmps24
  go_wp2
  rw [Lib.run_to_unsafe w ⟨b, 0, none⟩ Tryd.underlying36 Tryd.underlying68 hj (by rw [hjs]; decide) hsh (Nat.zero_lt_succ 1)]
  simp only [Result.andThen]
  rw [Oper.upon_value]
  go_wp2
  rw [run_callFunc_extern Tryd.func32 (by kernel_rfl) (by kernel_rfl) (by kernel_rfl) (e := Extern.AbiNoEscape.same) (by kernel_rfl)]
  rw [Lib.run_noEscape]
  simp only [Result.andThen]
  rw [Oper.upon_value]
  go_wp2
  rw [Lib.run_from_unsafe w ⟨b, 0, none⟩ Tryd.underlying68 Tryd.underlying36 hj hsh bdLies]
  simp only [Result.andThen]
  rw [Oper.upon_value]
  go_wp2
  go_end0
  exact ⟨rfl, rfl⟩

/-! ### as contracts of the layer -/
theorem cc_ac (s : ByteArray) : AC Tryd.prog 24 [.ptr 1000 0] (hBd 39 5 s) [1000, 1001] (fun r h' => r = .tup [] ∧ SubH (hBd 39 5 s) h') :=
  copyCheck_ac (callable_of Tryd.func24 rfl rfl) cc_used cc_fresh _ s
set_option maxRecDepth 10000 in
theorem write_ac (a b : ByteArray) (h0 : 0 < b.size) (hb : a.size + b.size ≤ 140737488355328) : AC Tryd.prog 10 [.ptr 1000 0, .d (.sc (.string b))] (hBd 39 5 a) [1000]
    (fun r h' => r = .tup [.d (.sc (.int .i64 (b.size : Int))), .d (.sc .nilIface)] ∧ SubH (hBd 39 5 (a ++ b)) h') := by
  have c := cc_ac a
  unfold hBd at *
  refine AC_enter Tryd.func10 rfl Tryd.ntmps10 (rv := [.tmp 4, .tmp 5]) rfl rfl (by simp) (fun w X G => ?_)
  repeat' (first | ((with_reducible refine gA ?_); (first | refine AW_seq ?_ | refine AW_region ?_ | refine AW_ret ?_)) | ((with_reducible refine gS ?_); refine Es_s (T := Tryd.tab) rfl rfl rfl rfl ?_) | (((with_reducible refine gS ?_); apply Es_q); rfl; rfl; refine LStep_loadT (T := Tryd.tab) rfl rfl rfl rfl rfl rfl) | (((with_reducible refine gS ?_); apply Es_xs); rfl; rfl; refine LStep_appendStr (T := Tryd.tab) rfl rfl rfl rfl rfl rfl rfl rfl rfl rfl h0 hb; rfl) | (((with_reducible refine gS ?_); apply Es_xn); rfl; rfl; (refine LStep_storeT (T := Tryd.tab) rfl rfl rfl rfl rfl rfl rfl ?_ ?_ rfl; (refine Nat.le_of_ble_eq_true ?_; rfl); omega); rfl) | (((with_reducible refine gS ?_); apply Es_xg); rfl; rfl; refine LStep_callHN [] [] c rfl rfl ⟨rfl, rfl, trivial⟩ rfl ⟨trivial, rfl, trivial⟩ rfl rfl; rfl) | (((with_reducible refine gS ?_); apply Es_q); rfl; rfl; refine LStep_wrap (T := Tryd.tab) rfl rfl) | (with_reducible refine Es_nil ?_) | (with_reducible refine then_n ?_) | ((with_reducible refine gR ?_); first | refine ret1 rfl ?_ | refine ret2 rfl rfl ?_ | refine ret0 ?_ | refine end1 rfl ?_ | refine end0 ?_))
  all_goals exact ⟨rfl, rfl, rfl, trivial⟩
set_option maxRecDepth 10000 in
theorem string_ac (a : ByteArray) (h0 : 0 < a.size) : AC Tryd.prog 13 [.ptr 1000 0] (hBd 39 5 a) [1000] (fun r _ => r = .d (.sc (.string a))) := by
  unfold hBd
  have hl : a.size = (bE a).length := (bE_len a).symm
  refine AC_enter Tryd.func13 rfl Tryd.ntmps13 (rv := [.tmp 2]) rfl rfl (by simp) (fun w X G => ?_)
  repeat' (first | ((with_reducible refine gA ?_); (first | refine AW_seq ?_ | refine AW_region ?_ | refine AW_regionD Tryd.mixed ?_ | refine AW_ret ?_)) | (first | ((with_reducible refine gS ?_); refine Es_s (T := Tryd.tab) rfl rfl rfl rfl ?_) | ((with_reducible refine gD ?_); refine Ed_s (T := Tryd.tab) rfl rfl rfl rfl ?_)) | (((with_reducible refine gD ?_); apply Ed_q); rfl; rfl; (first | refine LStep_loadT (T := Tryd.tab) rfl rfl rfl rfl rfl rfl | refine LStep_sliceData rfl rfl rfl rfl hl h0 | refine LStep_lenOwn (T := Tryd.tab) rfl rfl rfl rfl rfl (bE_len a))) | (((with_reducible refine gD ?_); apply Ed_xs); rfl; rfl; refine LStep_unsafeStr (T := Tryd.tab) rfl rfl rfl rfl rfl rfl rfl rfl h0; rfl) | (with_reducible refine Es_nil ?_) | ((with_reducible refine Ed_nil ?_ ?_); kernel_rfl) | (with_reducible refine then_n ?_) | ((with_reducible refine gR ?_); first | refine ret1 rfl ?_ | refine ret2 rfl rfl ?_ | refine ret0 ?_ | refine end1 rfl ?_ | refine end0 ?_))
  all_goals rfl
theorem string0_ac : AC Tryd.prog 13 [.ptr 1000 0] [(1000, some (.tcl 39 [.any, .d (.sc (.slice none 0 0))]))] [1000] (fun r _ => r = .d (.sc (.string ⟨#[]⟩))) := by
  refine AC_enter Tryd.func13 rfl Tryd.ntmps13 (rv := [.tmp 2]) rfl rfl (by simp) (fun w X G => ?_)
  repeat' (first | ((with_reducible refine gA ?_); (first | refine AW_seq ?_ | refine AW_region ?_ | refine AW_regionD Tryd.mixed ?_ | refine AW_ret ?_)) | (first | ((with_reducible refine gS ?_); refine Es_s (T := Tryd.tab) rfl rfl rfl rfl ?_) | ((with_reducible refine gD ?_); refine Ed_s (T := Tryd.tab) rfl rfl rfl rfl ?_)) | (((with_reducible refine gD ?_); apply Ed_q); rfl; rfl; (first | refine LStep_loadT (T := Tryd.tab) rfl rfl rfl rfl rfl rfl | refine LStep_sliceDataNil rfl rfl rfl | refine LStep_lenNil (T := Tryd.tab) rfl rfl rfl ⟨_, rfl⟩ | refine LStep_unsafeStr0 rfl rfl rfl rfl)) | (with_reducible refine Es_nil ?_) | ((with_reducible refine Ed_nil ?_ ?_); kernel_rfl) | (with_reducible refine then_n ?_) | ((with_reducible refine gR ?_); first | refine ret1 rfl ?_ | refine ret2 rfl rfl ?_ | refine ret0 ?_ | refine end1 rfl ?_ | refine end0 ?_))
  all_goals rfl
/-! ### numbers -/
def pwArr : Array Value := (Lib.pow10Tab.map fun z => Value.int .u64 z).toArray
def hG : Nat × Option AObj := (9000, some (.raw 0 (.cells pwArr 95 (0, 0))))
theorem pw_tab (w : World) (h : w.heap[0]? = some (.cells pwArr 95 (0, 0))) : Lib.TabIs Tryd.prog w "internal/strconv.uint64pow10" .u64 Lib.pow10Tab := by
  unfold Lib.TabIs World.var?
  rw [show Tryd.prog.globalNamed "internal/strconv.uint64pow10" = some 0 by kernel_rfl]
  simp only [Option.bind_some, h]
  rfl
theorem format_ac (n : Int) (h0 : -9223372036854775808 ≤ n) (h1 : n ≤ 9223372036854775807) : AC Tryd.prog 12 [.d (.sc (.int .i64 n)), .d (.sc (.int .i64 10))] [hG] [9000] (fun r h' => r = .d (.sc (.string ⟨(Lib.itoa n).toArray⟩)) ∧ SubH [hG] h') :=
  fmt_ac Tryd.formatInt (callable_of Tryd.func12 rfl rfl) _ _ _ pw_tab n h0 h1
theorem itoaS_ac (n : Int) (h0 : -9223372036854775808 ≤ n) (h1 : n ≤ 9223372036854775807) : AC Tryd.prog 11 [.d (.sc (.int .i64 n))] [hG] [9000] (fun r h' => r = .d (.sc (.string ⟨(Lib.itoa n).toArray⟩)) ∧ SubH [hG] h') :=
  itoa_ac Tryd.itoaL (callable_of Tryd.func11 rfl rfl) _ _ _ pw_tab n h0 h1
end Go.Proofs.YtglkilmflohfoaaDoor
