/- A ledger's posts. -/
import Derived.Test.YtofdnkgieigncaaGreatV4
import Derived.Test.YtofdnkgieigncaaGreatSz
namespace Go.Proofs.YtofdnkgieigncaaGreat
open Go.SL
/-! ### posts, Posts -/
theorem set_sameT {α : Type} {l : List α} {k : Nat} {c : α} (h : l[k]? = some c) : l.set k c = l := by
  obtain ⟨h1, rfl⟩ := List.getElem?_eq_some_iff.1 h
  exact List.set_getElem_self h1
set_option maxRecDepth 10000 in
theorem clonePO_ac (l : List Post) (hl : l.length ≤ 1048576) : AC Tryz.prog 96 [.own 1000 (l.map Post.enc).length] [(1000, some (.arr 121 3 (l.map Post.enc)))] [1000]
    (fun r h' => r = .own 5 (l.map Post.enc).length ∧ SubH [(5, some (.arr 121 3 (l.map Post.enc))), (1000, some (.arr 121 3 (l.map Post.enc)))] h') := by
  refine AC_enter Tryz.func96 rfl Tryz.ntmps96 (rv := [.tmp 2]) rfl rfl (by simp) (fun w X G => ?_)
  repeat' (first | ((with_reducible refine gS ?_); refine Es_eqNilOwn (T := Tryz.tab) rfl rfl rfl rfl rfl rfl rfl rfl (fun h0 => ?_) ?_) | ((with_reducible refine gRc ?_); refine AW_openNil (t := 2) (id := 5) (e := 121) (sz := 3) rfl rfl rfl rfl ?_) | ((with_reducible refine gA ?_); (first | refine AW_seq ?_ | refine AW_region ?_ | refine AW_condT rfl ?_ | refine AW_condF rfl ?_ | refine AW_ret ?_ | refine AW_skip ?_)) | ((with_reducible refine gS ?_); refine Es_s (T := Tryz.tab) rfl rfl rfl rfl ?_) | (((with_reducible refine gS ?_); apply Es_xs); rfl; rfl; (first | (refine LStep_litOwn (T := Tryz.tab) (len := 0) rfl rfl rfl rfl rfl rfl rfl rfl rfl rfl ?_ ?_; (refine Nat.le_of_ble_eq_true ?_; rfl); (unfold maxLen; omega)) | (refine LStep_appendOO (T := Tryz.tab) rfl rfl rfl rfl rfl rfl rfl rfl rfl rfl rfl ?_ ?_ ?_ ?_; rfl; rfl; (simp only [List.length_map, List.length_nil]; omega); (unfold maxLen; simp only [List.length_map, List.length_nil]; omega))); rfl) | (with_reducible refine Es_nil ?_) | (with_reducible refine then_n ?_) | (with_reducible refine then_r ?_) | ((with_reducible refine gR ?_); first | refine ret1 rfl ?_ | refine ret2 rfl rfl ?_ | refine ret0 ?_ | refine end1 rfl ?_ | refine end0 ?_))
  · rw [h0]
    exact ⟨rfl, rfl, rfl, trivial⟩
  · exact ⟨rfl, rfl, rfl, trivial⟩
set_option maxRecDepth 10000 in
theorem posts_ac (l : List Post) (hl : l.length ≤ 1048576) (he : ∀ p ∈ l, p.entries.length ≤ 1048576) : AC Tryz.prog 45 [.own 1000 (l.map Post.enc).length] [(1000, some (.arr 121 3 (l.map Post.enc)))] [1000]
    (fun r h' => r = .own 6 (l.map Post.enc).length ∧ SubH [(6, some (.arr 121 3 (l.map Post.enc))), (1000, some (.arr 121 3 (l.map Post.enc)))] h') := by
  have cc := clonePO_ac l hl
  have hlen : (l.map Post.enc).length = l.length := by simp
  refine AC_enter Tryz.func45 rfl Tryz.ntmps45 (rv := [.tmp 2]) rfl rfl (by simp) (fun w X G => ?_)
  repeat' (first | ((with_reducible refine gA ?_); (first | refine AW_seq ?_ | refine AW_region ?_ | refine AW_block ?_)) | ((with_reducible refine gS ?_); refine Es_s (T := Tryz.tab) rfl rfl rfl rfl ?_) | (((with_reducible refine gS ?_); apply Es_q); rfl; rfl; refine LStep_lenOwn (T := Tryz.tab) rfl rfl rfl rfl rfl rfl) | (((with_reducible refine gS ?_); apply Es_xg); rfl; rfl; refine LStep_callHN [] [(5, 6)] cc rfl rfl ⟨rfl, trivial⟩ rfl ⟨rfl, trivial⟩ rfl rfl; rfl) | (with_reducible refine Es_nil ?_) | (with_reducible refine then_n ?_))
  refine AW_forE (S := Nat) (fun k => k ≤ l.length) (fun k => [(9, .d (.sc (.int .i64 (k : Nat))))]) (fun _ => [(6, some (.arr 121 3 (l.map Post.enc)))]) (fun k => l.length - k) 0 (by omega) (by (repeat' (first | exact trivial | exact rfl | (refine ⟨Or.inl rfl, ?_⟩) | (refine ⟨Or.inr rfl, ?_⟩) | (refine ⟨Or.inr trivial, ?_⟩) | (refine ⟨rfl, ?_⟩) | (refine ⟨?_, ?_⟩)))) (by (repeat' (first | exact trivial | exact rfl | (refine ⟨Or.inl rfl, ?_⟩) | (refine ⟨Or.inr rfl, ?_⟩) | (refine ⟨Or.inr trivial, ?_⟩) | (refine ⟨rfl, ?_⟩) | (refine ⟨?_, ?_⟩)))) ?_
  intro k hk
  by_cases hlt : k < l.length
  · obtain ⟨p, hp, _⟩ := drop_at hlt
    have ce := cloneE_ac p.entries (he p (List.mem_of_getElem? hp))
    repeat' (first | ((with_reducible refine gA ?_); (first | refine AW_seq ?_ | refine AW_region ?_ | (refine AW_cond rfl (fun hc => ?_) (fun hc => ?_) <;> try (exfalso; simp only [cmpL] at hc; omega)) | refine AW_block ?_ | refine AW_skip ?_)) | ((with_reducible refine gS ?_); refine Es_s (T := Tryz.tab) rfl rfl rfl rfl ?_) | (((with_reducible refine gS ?_); apply Es_q); rfl; rfl; (first | (refine LStep_indexOwnM (T := Tryz.tab) rfl rfl rfl rfl rfl rfl rfl rfl ?_; (first | omega | (simp only [List.length_map]; omega))) | refine LStep_fieldAddrE (T := Tryz.tab) rfl rfl rfl rfl _ _ rfl rfl | (refine LStep_loadEM (T := Tryz.tab) (c := ?_) rfl rfl rfl rfl rfl rfl ?_ rfl; rotate_left; assumption) | refine LStep_call (ce) rfl rfl rfl rfl)) | (((with_reducible refine gS ?_); apply Es_xn); rfl; rfl; (refine LStep_storeEM (T := Tryz.tab) (c := ?_) rfl rfl rfl rfl rfl rfl rfl rfl rfl ?_ rfl; rotate_left; assumption); rfl) | (((with_reducible refine gS ?_); apply Es_q); rfl; rfl; (refine LStep_add rfl rfl rfl rfl ?_; (refine IntWalk.i64_in _ ?_; first | omega | (simp only [cmps] at *; omega)))) | (with_reducible refine Es_nil ?_) | (with_reducible refine then_n ?_) | (with_reducible refine block_n ?_))
    all_goals simp only [cmps] at *
    all_goals first
      | (exfalso; omega)
      | skip
    have hs : (l.map Post.enc).set k (setsD p.enc (0 + 2) [D.sl 3 (p.entries.map Ent.enc)]) = l.map Post.enc := set_sameT (c := p.enc) (by rw [List.getElem?_map, hp]; rfl)
    exact ⟨k + 1, by omega, by omega, by (repeat' (first | exact trivial | exact rfl | (refine ⟨Or.inl rfl, ?_⟩) | (refine ⟨Or.inr rfl, ?_⟩) | (refine ⟨Or.inr trivial, ?_⟩) | (refine ⟨rfl, ?_⟩) | (refine ⟨?_, ?_⟩))), by (repeat' (first | exact trivial | exact rfl | (refine ⟨Or.inl rfl, ?_⟩) | (refine ⟨Or.inr rfl, ?_⟩) | (refine ⟨Or.inr trivial, ?_⟩) | (refine ⟨rfl, ?_⟩) | (refine ⟨?_, ?_⟩))), ⟨congrArg (fun x => some (AObj.arr 121 3 x)) hs, trivial⟩, by (repeat' (first | exact trivial | exact rfl | (refine ⟨Or.inl rfl, ?_⟩) | (refine ⟨Or.inr rfl, ?_⟩) | (refine ⟨Or.inr trivial, ?_⟩) | (refine ⟨rfl, ?_⟩) | (refine ⟨?_, ?_⟩)))⟩
  have : k = l.length := by omega
  subst this
  clear hlt
  repeat' (first | ((with_reducible refine gA ?_); (first | refine AW_seq ?_ | refine AW_region ?_ | (refine AW_cond rfl (fun hc => ?_) (fun hc => ?_) <;> try (exfalso; simp only [cmpL] at hc; omega)) | refine AW_ret ?_ | refine AW_exit ?_)) | ((with_reducible refine gS ?_); refine Es_s (T := Tryz.tab) rfl rfl rfl rfl ?_) | (with_reducible refine Es_nil ?_) | (with_reducible refine then_n ?_) | (with_reducible refine then_e ?_) | ((with_reducible refine block_e ?_ ?_); rfl) | ((with_reducible refine gR ?_); first | refine ret1 rfl ?_ | refine ret2 rfl rfl ?_ | refine ret0 ?_ | refine end1 rfl ?_ | refine end0 ?_))
  all_goals simp only [cmps] at *
  all_goals first
    | (exfalso; omega)
    | exact ⟨by first | rfl | trivial, rfl, rfl, trivial⟩
set_option maxRecDepth 10000 in
theorem lposts_ac (s : Led) (hl : s.P.length ≤ 1048576) (he : ∀ p ∈ s.P, p.entries.length ≤ 1048576) : AC Tryz.prog 13 [.ptr 1000 0] (hL s) [1000, 1001, 1002, 1003]
    (fun r h' => r = .d (.sl 3 (s.P.map Post.enc)) ∧ SubH (hL s) h') := by
  have cp := posts_ac s.P hl he
  refine AC_enter Tryz.func13 rfl Tryz.ntmps13 (rv := [.tmp 2]) rfl rfl (by simp) (fun w X G => ?_)
  repeat' (first | ((with_reducible refine gRc ?_); refine AW_freeze [2] (id := 7) ⟨rfl, trivial⟩ rfl rfl ?_) | ((with_reducible refine gA ?_); (first | refine AW_seq ?_ | refine AW_region ?_ | refine AW_ret ?_)) | ((with_reducible refine gS ?_); refine Es_s (T := Tryz.tab) rfl rfl rfl rfl ?_) | (((with_reducible refine gS ?_); apply Es_xg); rfl; rfl; refine LStep_callHN [(1000, 1002)] [(6, 7)] cp rfl rfl ⟨rfl, trivial⟩ rfl ⟨rfl, trivial⟩ rfl rfl; rfl) | (with_reducible refine Es_nil ?_) | (with_reducible refine then_n ?_) | ((with_reducible refine gR ?_); first | refine ret1 rfl ?_ | refine ret2 rfl rfl ?_ | refine ret0 ?_ | refine end1 rfl ?_ | refine end0 ?_))
  exact ⟨rfl, rfl, rfl, rfl, rfl, trivial⟩
end Go.Proofs.YtofdnkgieigncaaGreat
