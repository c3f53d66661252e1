import Derived.Test.YtofdnkgieigncaaGreatR2
namespace Go.Proofs.YtofdnkgieigncaaGreat
open Go.SL

/-! ### match.copyLetter -/
set_option maxRecDepth 10000 in
theorem cloneF_ac (l : List Fld) (hl : l.length * 32 ≤ 140737488351232) : AC Tryz.prog 87 [.d (.sl 2 (l.map Fld.enc))] [] [] (fun r _ => r = .d (.sl 2 (l.map Fld.enc))) := by
  refine AC_enter Tryz.func87 rfl Tryz.ntmps87 (rv := [.tmp 2]) rfl rfl (by simp) (fun w X G => ?_)
  repeat' (first | ((with_reducible refine gS ?_); refine Es_eqNil (T := Tryz.tab) rfl rfl rfl rfl rfl rfl (fun h0 => ?_) ?_) | ((with_reducible refine gRc ?_); first | refine AW_freeze [2] (id := 5) ⟨rfl, trivial⟩ rfl rfl ?_ | refine AW_nilD 2 2 rfl ?_) | ((with_reducible refine gA ?_); (first | refine AW_seq ?_ | refine AW_region ?_ | refine AW_condT rfl ?_ | refine AW_condF rfl ?_ | refine AW_ret ?_ | refine AW_skip ?_)) | ((with_reducible refine gS ?_); refine Es_s (T := Tryz.tab) rfl rfl rfl rfl ?_) | (((with_reducible refine gS ?_); apply Es_xs); rfl; rfl; (first | (refine LStep_litOwn (T := Tryz.tab) (len := 0) rfl rfl rfl rfl rfl rfl rfl rfl rfl rfl ?_ ?_; (refine Nat.le_of_ble_eq_true ?_; rfl); (unfold maxLen; omega)) | (refine LStep_append (T := Tryz.tab) rfl rfl rfl rfl rfl rfl rfl rfl rfl rfl ?_ ?_ ?_; rfl; (simp only [List.length_map, List.length_nil]; omega); (unfold maxLen; simp only [List.length_map, List.length_nil]; omega))); rfl) | (with_reducible refine Es_nil ?_) | (with_reducible refine then_n ?_) | (with_reducible refine then_r ?_) | ((with_reducible refine gR ?_); first | refine ret1 rfl ?_ | refine ret2 rfl rfl ?_ | refine ret0 ?_ | refine end1 rfl ?_ | refine end0 ?_))
  · rw [h0]
  · rfl
set_option maxRecDepth 10000 in
theorem cloneS_ac (l : List ByteArray) (hl : l.length * 16 ≤ 140737488351232) : AC Tryz.prog 88 [.d (.sl 1 (l.map sE))] [] [] (fun r _ => r = .d (.sl 1 (l.map sE))) := by
  refine AC_enter Tryz.func88 rfl Tryz.ntmps88 (rv := [.tmp 2]) rfl rfl (by simp) (fun w X G => ?_)
  repeat' (first | ((with_reducible refine gS ?_); refine Es_eqNil (T := Tryz.tab) rfl rfl rfl rfl rfl rfl (fun h0 => ?_) ?_) | ((with_reducible refine gRc ?_); first | refine AW_freeze [2] (id := 5) ⟨rfl, trivial⟩ rfl rfl ?_ | refine AW_nilD 1 2 rfl ?_) | ((with_reducible refine gA ?_); (first | refine AW_seq ?_ | refine AW_region ?_ | refine AW_condT rfl ?_ | refine AW_condF rfl ?_ | refine AW_ret ?_ | refine AW_skip ?_)) | ((with_reducible refine gS ?_); refine Es_s (T := Tryz.tab) rfl rfl rfl rfl ?_) | (((with_reducible refine gS ?_); apply Es_xs); rfl; rfl; (first | (refine LStep_litOwn (T := Tryz.tab) (len := 0) rfl rfl rfl rfl rfl rfl rfl rfl rfl rfl ?_ ?_; (refine Nat.le_of_ble_eq_true ?_; rfl); (unfold maxLen; omega)) | (refine LStep_append (T := Tryz.tab) rfl rfl rfl rfl rfl rfl rfl rfl rfl rfl ?_ ?_ ?_; rfl; (simp only [List.length_map, List.length_nil]; omega); (unfold maxLen; simp only [List.length_map, List.length_nil]; omega))); rfl) | (with_reducible refine Es_nil ?_) | (with_reducible refine then_n ?_) | (with_reducible refine then_r ?_) | ((with_reducible refine gR ?_); first | refine ret1 rfl ?_ | refine ret2 rfl rfl ?_ | refine ret0 ?_ | refine end1 rfl ?_ | refine end0 ?_))
  · rw [h0]
  · rfl
set_option maxRecDepth 10000 in
theorem cloneD0_ac : AC Tryz.prog 86 [.d (.sl 4 [])] [] [] (fun r _ => r = .d (.sl 4 [])) := by
  refine AC_enter Tryz.func86 rfl Tryz.ntmps86 (rv := [.tmp 2]) rfl rfl (by simp) (fun w X G => ?_)
  repeat' (first | ((with_reducible refine gS ?_); refine Es_eqNil (T := Tryz.tab) rfl rfl rfl rfl rfl rfl (fun h0 => ?_) ?_) | ((with_reducible refine gRc ?_); first | refine AW_freeze [2] (id := 5) ⟨rfl, trivial⟩ rfl rfl ?_ | refine AW_nilD 4 2 rfl ?_) | ((with_reducible refine gA ?_); (first | refine AW_seq ?_ | refine AW_region ?_ | refine AW_condT rfl ?_ | refine AW_condF rfl ?_ | refine AW_ret ?_ | refine AW_skip ?_)) | ((with_reducible refine gS ?_); refine Es_s (T := Tryz.tab) rfl rfl rfl rfl ?_) | (((with_reducible refine gS ?_); apply Es_xs); rfl; rfl; (first | (refine LStep_litOwn (T := Tryz.tab) (len := 0) rfl rfl rfl rfl rfl rfl rfl rfl rfl rfl ?_ ?_; (refine Nat.le_of_ble_eq_true ?_; rfl); (unfold maxLen; omega)) | (refine LStep_append (T := Tryz.tab) rfl rfl rfl rfl rfl rfl rfl rfl rfl rfl ?_ ?_ ?_; rfl; (simp only [List.length_nil]; omega); (unfold maxLen; simp only [List.length_nil]; omega))); rfl) | (with_reducible refine Es_nil ?_) | (with_reducible refine then_n ?_) | (with_reducible refine then_r ?_) | ((with_reducible refine gR ?_); first | refine ret1 rfl ?_ | refine ret2 rfl rfl ?_ | refine ret0 ?_ | refine end1 rfl ?_ | refine end0 ?_))
  all_goals rfl
set_option maxRecDepth 10000 in
theorem cloneD1_ac (l : List Dc) (hl : l.length * 64 ≤ 140737488351232) (hne : l.map Dc.enc ≠ []) : AC Tryz.prog 86 [.d (.sl 4 (l.map Dc.enc))] [] [] (fun r h' => r = .own 5 (l.map Dc.enc).length ∧ SubH [(5, some (.arr 176 4 (l.map Dc.enc)))] h') := by
  refine AC_enter Tryz.func86 rfl Tryz.ntmps86 (rv := [.tmp 2]) rfl rfl (by simp) (fun w X G => ?_)
  repeat' (first | ((with_reducible refine gS ?_); refine Es_eqNil (T := Tryz.tab) rfl rfl rfl rfl rfl rfl (fun h0 => absurd h0 hne) ?_) | ((with_reducible refine gA ?_); (first | refine AW_seq ?_ | refine AW_region ?_ | refine AW_condF rfl ?_ | refine AW_ret ?_ | refine AW_skip ?_)) | ((with_reducible refine gS ?_); refine Es_s (T := Tryz.tab) rfl rfl rfl rfl ?_) | (((with_reducible refine gS ?_); apply Es_xs); rfl; rfl; (first | (refine LStep_litOwn (T := Tryz.tab) (len := 0) rfl rfl rfl rfl rfl rfl rfl rfl rfl rfl ?_ ?_; (refine Nat.le_of_ble_eq_true ?_; rfl); (unfold maxLen; omega)) | (refine LStep_append (T := Tryz.tab) rfl rfl rfl rfl rfl rfl rfl rfl rfl rfl ?_ ?_ ?_; rfl; (simp only [List.length_map, List.length_nil]; omega); (unfold maxLen; simp only [List.length_map, List.length_nil]; omega))); rfl) | (with_reducible refine Es_nil ?_) | (with_reducible refine then_n ?_) | ((with_reducible refine gR ?_); first | refine ret1 rfl ?_ | refine ret2 rfl rfl ?_ | refine ret0 ?_ | refine end1 rfl ?_ | refine end0 ?_))
  exact ⟨rfl, rfl, trivial⟩
theorem set_same {α : Type} {l : List α} {k : Nat} {x : α} (h : l[k]? = some x) : l.set k x = l := by
  obtain ⟨h1, h2⟩ := List.getElem?_eq_some_iff.1 h
  subst h2
  exact List.set_getElem_self h1
structure Lt.Ok (x : Lt) : Prop where
  docs : x.docs.length * 64 ≤ 140737488351232
  flds : ∀ d ∈ x.docs, d.flds.length * 32 ≤ 140737488351232
  boxes : x.boxes.length * 16 ≤ 140737488351232
set_option maxRecDepth 20000 in
set_option maxHeartbeats 4000000 in
theorem copyLetter_ac (x : Lt) (hx : x.Ok) : AC Tryz.prog 37 [.agg x.cs] [] [] (fun r _ => r = .agg x.cs) := by
  have cb := cloneS_ac x.boxes hx.boxes
  have hx1 := hx.docs
  have hx2 := hx.flds
  by_cases hd : x.docs = []
  · have c0 := cloneD0_ac
    have hcs : x.cs = [.d (.sc (.string x.sfrom)), .d (.sc (.string x.sto)), .d (.sc (.int .i64 x.number)), .d (.sc (.int .i64 x.kind)), .d (.sc (.int .i64 x.ack)), .d (.sc (.string x.deal)), .d (.sc (.string x.text)), .d (.sc (.string x.party)), .d (.sc (.int .i64 x.index)), .d (.sc (.int .i64 x.day)), .d (.sc (.string x.cur)), .d (.sc (.int .i64 x.amt)), .d (.sl 4 []), .d (.sl 1 (x.boxes.map sE))] := by
      unfold Lt.cs; rw [hd]; rfl
    rw [hcs]
    clear hcs hd hx hx1 hx2
    refine AC_enterC Tryz.tab Tryz.func37 rfl Tryz.ntmps37 (a0 := 2) (t0 := 40) rfl rfl (by simp) (fun w X G => ?_)
    repeat' (first | ((with_reducible refine gA ?_); (first | refine AW_seq ?_ | refine AW_region ?_ | refine AW_block ?_)) | ((with_reducible refine gS ?_); refine Es_s (T := Tryz.tab) rfl rfl rfl rfl ?_) | (((with_reducible refine gS ?_); apply Es_q); rfl; rfl; refine LStep_call (c0) rfl rfl rfl rfl) | (((with_reducible refine gS ?_); apply Es_q); rfl; rfl; refine LStep_wrap (T := Tryz.tab) rfl rfl) | (refine Es_skip rfl ?_ rfl ?_; (first | rfl | (refine w_tf ?_; assumption) | (refine w_ft ?_; assumption))) | (((with_reducible refine gS ?_); apply Es_xs); rfl; rfl; (first | refine LStep_boxN rfl rfl rfl rfl rfl rfl | refine LStep_allocN (T := Tryz.tab) rfl rfl rfl rfl rfl rfl); rfl) | (with_reducible refine Es_nil ?_) | (with_reducible refine then_n ?_))
    refine AW_forE (S := Nat) (fun k => k = 0) (fun k => [(10, .d (.sc (.int .i64 (k : Nat))))]) (fun _ => []) (fun k => 0 - k) 0 rfl (by (repeat' (first | exact trivial | exact rfl | (refine ⟨Or.inl rfl, ?_⟩) | (refine ⟨Or.inr rfl, ?_⟩) | (refine ⟨Or.inr trivial, ?_⟩) | (refine ⟨rfl, ?_⟩) | (refine ⟨?_, ?_⟩)))) (by (repeat' (first | exact trivial | exact rfl | (refine ⟨Or.inl rfl, ?_⟩) | (refine ⟨Or.inr rfl, ?_⟩) | (refine ⟨Or.inr trivial, ?_⟩) | (refine ⟨rfl, ?_⟩) | (refine ⟨?_, ?_⟩)))) ?_
    intro k hk
    subst hk
    repeat' (first | ((with_reducible refine gA ?_); (first | refine AW_seq ?_ | refine AW_region ?_ | (refine AW_cond rfl (fun hc => ?_) (fun hc => ?_) <;> try (exfalso; simp only [cmpL] at hc; omega)) | refine AW_ret ?_ | refine AW_exit ?_)) | ((with_reducible refine gS ?_); refine Es_s (T := Tryz.tab) rfl rfl rfl rfl ?_) | (((with_reducible refine gS ?_); apply Es_q); rfl; rfl; refine LStep_call (cb) rfl rfl rfl rfl) | (((with_reducible refine gS ?_); apply Es_xn); rfl; rfl; (refine LStep_storeN (T := Tryz.tab) rfl rfl rfl rfl rfl rfl rfl ?_ rfl; (refine Nat.le_of_ble_eq_true ?_; rfl)); rfl) | (with_reducible refine Es_nil ?_) | (with_reducible refine then_n ?_) | (with_reducible refine then_e ?_) | ((with_reducible refine block_e ?_ ?_); rfl) | ((with_reducible refine gC ?_); first | refine retC1 rfl ?_ | refine endC1 rfl ?_))
    rfl
  · have hne : x.docs.map Dc.enc ≠ [] := fun h => hd (List.map_eq_nil_iff.1 h)
    have c1 := cloneD1_ac x.docs hx1 hne
    clear hd hne hx
    refine AC_enterC Tryz.tab Tryz.func37 rfl Tryz.ntmps37 (a0 := 2) (t0 := 40) rfl rfl (by simp) (fun w X G => ?_)
    repeat' (first | ((with_reducible refine gA ?_); (first | refine AW_seq ?_ | refine AW_region ?_ | refine AW_block ?_)) | ((with_reducible refine gS ?_); refine Es_s (T := Tryz.tab) rfl rfl rfl rfl ?_) | (((with_reducible refine gS ?_); apply Es_q); rfl; rfl; refine LStep_lenOwn (T := Tryz.tab) rfl rfl rfl rfl rfl rfl) | (((with_reducible refine gS ?_); apply Es_xg); rfl; rfl; refine LStep_callHN [] [(5, 7)] c1 rfl rfl trivial rfl trivial rfl rfl; rfl) | (refine Es_skip rfl ?_ rfl ?_; (first | rfl | (refine w_tf ?_; assumption) | (refine w_ft ?_; assumption))) | (((with_reducible refine gS ?_); apply Es_xs); rfl; rfl; (first | refine LStep_boxN rfl rfl rfl rfl rfl rfl | refine LStep_allocN (T := Tryz.tab) rfl rfl rfl rfl rfl rfl); rfl) | (with_reducible refine Es_nil ?_) | (with_reducible refine then_n ?_))
    clear c1
    refine AW_forE (S := Nat) (fun k => k ≤ x.docs.length) (fun k => [(10, .d (.sc (.int .i64 (k : Nat))))]) (fun _ => [(7, some (.arr 176 4 (x.docs.map Dc.enc)))]) (fun k => x.docs.length - k) 0 (by omega) (by (repeat' (first | exact trivial | exact rfl | (refine ⟨Or.inl rfl, ?_⟩) | (refine ⟨Or.inr rfl, ?_⟩) | (refine ⟨Or.inr trivial, ?_⟩) | (refine ⟨rfl, ?_⟩) | (refine ⟨?_, ?_⟩)))) (by (repeat' (first | exact trivial | exact rfl | (refine ⟨Or.inl rfl, ?_⟩) | (refine ⟨Or.inr rfl, ?_⟩) | (refine ⟨Or.inr trivial, ?_⟩) | (refine ⟨rfl, ?_⟩) | (refine ⟨?_, ?_⟩)))) ?_
    intro k hk
    by_cases hlt : k < x.docs.length
    · obtain ⟨d, hd, _⟩ := drop_at hlt
      have cf := cloneF_ac d.flds (hx2 d (List.mem_of_getElem? hd))
      have e : (x.docs.map Dc.enc).set k (setsD d.enc (0 + 3) [D.sl 2 (d.flds.map Fld.enc)]) = x.docs.map Dc.enc := set_same (by rw [List.getElem?_map, hd]; rfl)
      repeat' (first | ((with_reducible refine gA ?_); (first | refine AW_seq ?_ | refine AW_region ?_ | (refine AW_cond rfl (fun hc => ?_) (fun hc => ?_) <;> try (exfalso; simp only [cmpL] at hc; omega)) | refine AW_block ?_ | refine AW_skip ?_)) | ((with_reducible refine gS ?_); refine Es_s (T := Tryz.tab) rfl rfl rfl rfl ?_) | (((with_reducible refine gS ?_); apply Es_q); rfl; rfl; (first | (refine LStep_indexOwnM (T := Tryz.tab) rfl rfl rfl rfl rfl rfl rfl rfl ?_; (first | omega | (simp only [List.length_map]; omega))) | refine LStep_fieldAddrE (T := Tryz.tab) rfl rfl rfl rfl _ _ rfl rfl | (refine LStep_loadEM (T := Tryz.tab) (c := ?_) rfl rfl rfl rfl rfl rfl ?_ rfl; rotate_left; assumption) | refine LStep_call (cf) rfl rfl rfl rfl)) | (((with_reducible refine gS ?_); apply Es_xn); rfl; rfl; (refine LStep_storeEM (T := Tryz.tab) (c := ?_) rfl rfl rfl rfl rfl rfl rfl rfl rfl ?_ rfl; rotate_left; assumption); rfl) | (((with_reducible refine gS ?_); apply Es_q); rfl; rfl; (refine LStep_add rfl rfl rfl rfl ?_; (refine IntWalk.i64_in _ ?_; first | omega | (simp only [cmps] at *; omega)))) | (with_reducible refine Es_nil ?_) | (with_reducible refine then_n ?_) | (with_reducible refine block_n ?_))
      all_goals first
        | (exfalso; simp only [List.length_map] at *; omega)
        | skip
      refine ⟨k + 1, by omega, by omega, by (repeat' (first | exact trivial | exact rfl | (refine ⟨Or.inl rfl, ?_⟩) | (refine ⟨Or.inr rfl, ?_⟩) | (refine ⟨Or.inr trivial, ?_⟩) | (refine ⟨rfl, ?_⟩) | (refine ⟨?_, ?_⟩))), by (repeat' (first | exact trivial | exact rfl | (refine ⟨Or.inl rfl, ?_⟩) | (refine ⟨Or.inr rfl, ?_⟩) | (refine ⟨Or.inr trivial, ?_⟩) | (refine ⟨rfl, ?_⟩) | (refine ⟨?_, ?_⟩))), ?_, by (repeat' (first | exact trivial | exact rfl | (refine ⟨Or.inl rfl, ?_⟩) | (refine ⟨Or.inr rfl, ?_⟩) | (refine ⟨Or.inr trivial, ?_⟩) | (refine ⟨rfl, ?_⟩) | (refine ⟨?_, ?_⟩)))⟩
      first
        | ((repeat' (first | exact trivial | exact rfl | (refine ⟨Or.inl rfl, ?_⟩) | (refine ⟨Or.inr rfl, ?_⟩) | (refine ⟨Or.inr trivial, ?_⟩) | (refine ⟨rfl, ?_⟩) | (refine ⟨?_, ?_⟩))); done)
        | (rw [e]; (repeat' (first | exact trivial | exact rfl | (refine ⟨Or.inl rfl, ?_⟩) | (refine ⟨Or.inr rfl, ?_⟩) | (refine ⟨Or.inr trivial, ?_⟩) | (refine ⟨rfl, ?_⟩) | (refine ⟨?_, ?_⟩))); done)
    · have : k = x.docs.length := by omega
      subst this
      repeat' (first | ((with_reducible refine gA ?_); refine AW_freeze [3] (id := 7) ⟨rfl, trivial⟩ rfl rfl ?_) | ((with_reducible refine gA ?_); (first | refine AW_seq ?_ | refine AW_region ?_ | (refine AW_cond rfl (fun hc => ?_) (fun hc => ?_) <;> try (exfalso; simp only [cmpL] at hc; omega)) | refine AW_ret ?_ | refine AW_exit ?_)) | ((with_reducible refine gS ?_); refine Es_s (T := Tryz.tab) rfl rfl rfl rfl ?_) | (((with_reducible refine gS ?_); apply Es_q); rfl; rfl; refine LStep_call (cb) rfl rfl rfl rfl) | (((with_reducible refine gS ?_); apply Es_xn); rfl; rfl; (refine LStep_storeN (T := Tryz.tab) rfl rfl rfl rfl rfl rfl rfl ?_ rfl; (refine Nat.le_of_ble_eq_true ?_; rfl)); rfl) | (with_reducible refine Es_nil ?_) | (with_reducible refine then_n ?_) | (with_reducible refine then_e ?_) | ((with_reducible refine block_e ?_ ?_); rfl) | ((with_reducible refine gC ?_); first | refine retC1 rfl ?_ | refine endC1 rfl ?_))
      all_goals first
        | (exfalso; simp only [List.length_map] at *; omega)
        | rfl
end Go.Proofs.YtofdnkgieigncaaGreat
