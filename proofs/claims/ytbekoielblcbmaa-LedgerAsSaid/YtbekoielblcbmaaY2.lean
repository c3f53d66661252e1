import Derived.Test.YtbekoielblcbmaaY1
import Derived.Test.YtbekoielblcbmaaSz
namespace Go.Proofs.Ytbekoielblcbmaa
open Go.SL
/-! ### posts, Posts -/
theorem set_same {α : Type} {l : List α} {k : Nat} {c : α} (h : l[k]? = some c) : l.set k c = l := by
  obtain ⟨h1, rfl⟩ := List.getElem?_eq_some_iff.1 h
  exact List.set_getElem_self h1
set_option maxRecDepth 10000 in
theorem clonePO_ac (l : List Post) (hl : l.length ≤ 1048576) : AC Try.prog 66 [.own 1000 (l.map Post.enc).length] [(1000, some (.arr 55 3 (l.map Post.enc)))] [1000]
    (fun r h' => r = .own 5 (l.map Post.enc).length ∧ SubH [(5, some (.arr 55 3 (l.map Post.enc))), (1000, some (.arr 55 3 (l.map Post.enc)))] h') := by
  refine AC_enter Try.func66 rfl Try.ntmps66 (rv := [.tmp 2]) rfl rfl (by simp) (fun w X G => ?_)
  repeat' (first | ((with_reducible refine gS ?_); refine Es_eqNilOwn (T := Try.tab) rfl rfl rfl rfl rfl rfl rfl rfl (fun h0 => ?_) ?_) | ((with_reducible refine gRc ?_); refine AW_openNil (t := 2) (id := 5) (e := 55) (sz := 3) rfl rfl rfl rfl ?_) | ((with_reducible refine gA ?_); (first | refine AW_seq ?_ | refine AW_region ?_ | refine AW_condT rfl ?_ | refine AW_condF rfl ?_ | refine AW_ret ?_ | refine AW_skip ?_)) | ((with_reducible refine gS ?_); refine Es_s (T := Try.tab) rfl rfl rfl rfl ?_) | (((with_reducible refine gS ?_); apply Es_xs); rfl; rfl; (first | (refine LStep_litOwn (T := Try.tab) (len := 0) rfl rfl rfl rfl rfl rfl rfl rfl rfl rfl ?_ ?_; (refine Nat.le_of_ble_eq_true ?_; rfl); (unfold maxLen; omega)) | (refine LStep_appendOO (T := Try.tab) rfl rfl rfl rfl rfl rfl rfl rfl rfl rfl rfl ?_ ?_ ?_ ?_; rfl; rfl; (simp only [List.length_map, List.length_nil]; omega); (unfold maxLen; simp only [List.length_map, List.length_nil]; omega))); rfl) | (with_reducible refine Es_nil ?_) | (with_reducible refine then_n ?_) | (with_reducible refine then_r ?_) | ((with_reducible refine gR ?_); first | refine ret1 rfl ?_ | refine ret2 rfl rfl ?_ | refine ret0 ?_ | refine end1 rfl ?_ | refine end0 ?_))
  · rw [h0]
    exact ⟨rfl, rfl, rfl, trivial⟩
  · exact ⟨rfl, rfl, rfl, trivial⟩
set_option maxRecDepth 10000 in
theorem posts_ac (l : List Post) (hl : l.length ≤ 1048576) (he : ∀ p ∈ l, p.entries.length ≤ 1048576) : AC Try.prog 46 [.own 1000 (l.map Post.enc).length] [(1000, some (.arr 55 3 (l.map Post.enc)))] [1000]
    (fun r h' => r = .own 6 (l.map Post.enc).length ∧ SubH [(6, some (.arr 55 3 (l.map Post.enc))), (1000, some (.arr 55 3 (l.map Post.enc)))] h') := by
  have cc := clonePO_ac l hl
  have hlen : (l.map Post.enc).length = l.length := by simp
  refine AC_enter Try.func46 rfl Try.ntmps46 (rv := [.tmp 2]) rfl rfl (by simp) (fun w X G => ?_)
  repeat' (first | ((with_reducible refine gA ?_); (first | refine AW_seq ?_ | refine AW_region ?_ | refine AW_block ?_)) | ((with_reducible refine gS ?_); refine Es_s (T := Try.tab) rfl rfl rfl rfl ?_) | (((with_reducible refine gS ?_); apply Es_q); rfl; rfl; refine LStep_lenOwn (T := Try.tab) rfl rfl rfl rfl rfl rfl) | (((with_reducible refine gS ?_); apply Es_xg); rfl; rfl; refine LStep_callHN [] [(5, 6)] cc rfl rfl ⟨rfl, trivial⟩ rfl ⟨rfl, trivial⟩ rfl rfl; rfl) | (with_reducible refine Es_nil ?_) | (with_reducible refine then_n ?_))
  refine AW_forE (S := Nat) (fun k => k ≤ l.length) (fun k => [(9, .d (.sc (.int .i64 (k : Nat))))]) (fun _ => [(6, some (.arr 55 3 (l.map Post.enc)))]) (fun k => l.length - k) 0 (by omega) (by (repeat' (first | exact trivial | exact rfl | (refine ⟨Or.inl rfl, ?_⟩) | (refine ⟨Or.inr rfl, ?_⟩) | (refine ⟨Or.inr trivial, ?_⟩) | (refine ⟨rfl, ?_⟩) | (refine ⟨?_, ?_⟩)))) (by (repeat' (first | exact trivial | exact rfl | (refine ⟨Or.inl rfl, ?_⟩) | (refine ⟨Or.inr rfl, ?_⟩) | (refine ⟨Or.inr trivial, ?_⟩) | (refine ⟨rfl, ?_⟩) | (refine ⟨?_, ?_⟩)))) ?_
  intro k hk
  by_cases hlt : k < l.length
  · obtain ⟨p, hp, _⟩ := drop_at hlt
    have ce := cloneE_ac p.entries (he p (List.mem_of_getElem? hp))
    repeat' (first | ((with_reducible refine gA ?_); (first | refine AW_seq ?_ | refine AW_region ?_ | (refine AW_cond rfl (fun hc => ?_) (fun hc => ?_) <;> try (exfalso; simp only [cmpL] at hc; omega)) | refine AW_block ?_ | refine AW_skip ?_)) | ((with_reducible refine gS ?_); refine Es_s (T := Try.tab) rfl rfl rfl rfl ?_) | (((with_reducible refine gS ?_); apply Es_q); rfl; rfl; (first | (refine LStep_indexOwnM (T := Try.tab) rfl rfl rfl rfl rfl rfl rfl rfl ?_; (first | omega | (simp only [List.length_map]; omega))) | refine LStep_fieldAddrE (T := Try.tab) rfl rfl rfl rfl _ _ rfl rfl | (refine LStep_loadEM (T := Try.tab) (c := ?_) rfl rfl rfl rfl rfl rfl ?_ rfl; rotate_left; assumption) | refine LStep_call (ce) rfl rfl rfl rfl)) | (((with_reducible refine gS ?_); apply Es_xn); rfl; rfl; (refine LStep_storeEM (T := Try.tab) (c := ?_) rfl rfl rfl rfl rfl rfl rfl rfl rfl ?_ rfl; rotate_left; assumption); rfl) | (((with_reducible refine gS ?_); apply Es_q); rfl; rfl; (refine LStep_add rfl rfl rfl rfl ?_; (refine IntWalk.i64_in _ ?_; first | omega | (simp only [cmps] at *; omega)))) | (with_reducible refine Es_nil ?_) | (with_reducible refine then_n ?_) | (with_reducible refine block_n ?_))
    all_goals simp only [cmps] at *
    all_goals first
      | (exfalso; omega)
      | skip
    have hs : (l.map Post.enc).set k (setsD p.enc (0 + 2) [D.sl 3 (p.entries.map Ent.enc)]) = l.map Post.enc := set_same (c := p.enc) (by rw [List.getElem?_map, hp]; rfl)
    exact ⟨k + 1, by omega, by omega, by (repeat' (first | exact trivial | exact rfl | (refine ⟨Or.inl rfl, ?_⟩) | (refine ⟨Or.inr rfl, ?_⟩) | (refine ⟨Or.inr trivial, ?_⟩) | (refine ⟨rfl, ?_⟩) | (refine ⟨?_, ?_⟩))), by (repeat' (first | exact trivial | exact rfl | (refine ⟨Or.inl rfl, ?_⟩) | (refine ⟨Or.inr rfl, ?_⟩) | (refine ⟨Or.inr trivial, ?_⟩) | (refine ⟨rfl, ?_⟩) | (refine ⟨?_, ?_⟩))), ⟨congrArg (fun x => some (AObj.arr 55 3 x)) hs, trivial⟩, by (repeat' (first | exact trivial | exact rfl | (refine ⟨Or.inl rfl, ?_⟩) | (refine ⟨Or.inr rfl, ?_⟩) | (refine ⟨Or.inr trivial, ?_⟩) | (refine ⟨rfl, ?_⟩) | (refine ⟨?_, ?_⟩)))⟩
  have : k = l.length := by omega
  subst this
  clear hlt
  repeat' (first | ((with_reducible refine gA ?_); (first | refine AW_seq ?_ | refine AW_region ?_ | (refine AW_cond rfl (fun hc => ?_) (fun hc => ?_) <;> try (exfalso; simp only [cmpL] at hc; omega)) | refine AW_ret ?_ | refine AW_exit ?_)) | ((with_reducible refine gS ?_); refine Es_s (T := Try.tab) rfl rfl rfl rfl ?_) | (with_reducible refine Es_nil ?_) | (with_reducible refine then_n ?_) | (with_reducible refine then_e ?_) | ((with_reducible refine block_e ?_ ?_); rfl) | ((with_reducible refine gR ?_); first | refine ret1 rfl ?_ | refine ret2 rfl rfl ?_ | refine ret0 ?_ | refine end1 rfl ?_ | refine end0 ?_))
  all_goals simp only [cmps] at *
  all_goals first
    | (exfalso; omega)
    | exact ⟨by first | rfl | trivial, rfl, rfl, trivial⟩
set_option maxRecDepth 10000 in
theorem lposts_ac (s : Led) (hl : s.P.length ≤ 1048576) (he : ∀ p ∈ s.P, p.entries.length ≤ 1048576) : AC Try.prog 24 [.ptr 1000 0] (hL s) [1000, 1001, 1002, 1003]
    (fun r h' => r = .d (.sl 3 (s.P.map Post.enc)) ∧ SubH (hL s) h') := by
  have cp := posts_ac s.P hl he
  refine AC_enter Try.func24 rfl Try.ntmps24 (rv := [.tmp 2]) rfl rfl (by simp) (fun w X G => ?_)
  repeat' (first | ((with_reducible refine gRc ?_); refine AW_freeze [2] (id := 7) ⟨rfl, trivial⟩ rfl rfl ?_) | ((with_reducible refine gA ?_); (first | refine AW_seq ?_ | refine AW_region ?_ | refine AW_ret ?_)) | ((with_reducible refine gS ?_); refine Es_s (T := Try.tab) rfl rfl rfl rfl ?_) | (((with_reducible refine gS ?_); apply Es_xg); rfl; rfl; refine LStep_callHN [(1000, 1002)] [(6, 7)] cp rfl rfl ⟨rfl, trivial⟩ rfl ⟨rfl, trivial⟩ rfl rfl; rfl) | (with_reducible refine Es_nil ?_) | (with_reducible refine then_n ?_) | ((with_reducible refine gR ?_); first | refine ret1 rfl ?_ | refine ret2 rfl rfl ?_ | refine ret0 ?_ | refine end1 rfl ?_ | refine end0 ?_))
  exact ⟨rfl, rfl, rfl, rfl, rfl, trivial⟩
/-! ### Copy -/
set_option maxRecDepth 10000 in
set_option maxHeartbeats 2000000 in
theorem copyA_ac (l : List (K2 × Acc)) (hk : (akeys l).Nodup) (hl : l.length ≤ 1048576) : AC Try.prog 52 [.mp 1000, .mp 1001] [(1000, some (.map 75 77 (emap k2V aV []) none)), (1001, some (.map 75 77 (emap k2V aV l) none))] [1000, 1001]
    (fun r h' => r = .tup [] ∧ SubH [(1000, some (.mapP 75 77 (emap k2V aV l))), (1001, some (.map 75 77 (emap k2V aV l) none))] h') := by
  have hkA := emap_nodup (cv := aV) k2V_inj hk
  refine AC_enter Try.func52 rfl Try.ntmps52 (rv := []) rfl rfl (by simp) (fun w X G => ?_)
  refine AW_noItEnd 1001 ?_
  refine AW_toPEnd 1000 ?_
  repeat' (first | ((with_reducible refine gA ?_); (first | refine AW_seq ?_ | refine AW_region ?_ | refine AW_block ?_)) | ((with_reducible refine gS ?_); refine Es_s (T := Try.tab) rfl rfl rfl rfl ?_) | (((with_reducible refine gS ?_); apply Es_xg); rfl; rfl; refine LStep_range (T := Try.tab) rfl rfl rfl rfl rfl rfl rfl; rfl) | (with_reducible refine Es_nil ?_) | (with_reducible refine then_n ?_))
  refine AW_forE (S := List (K2 × Acc) × List (K2 × Acc) × Option Value) (fun t => (t.2.1 ++ t.1).Perm l) (fun _ => [])
    (fun t => [(1001, some (.map 75 77 (emap k2V aV l) (some (7, (emap k2V aV t.1).map (·.1), t.2.2)))), (1000, some (.map 75 77 (emap k2V aV t.2.1) none))]) (fun s => s.1.length) (l, [], none) (List.Perm.refl _) (by (repeat' (first | exact trivial | exact rfl | (refine ⟨Or.inl rfl, ?_⟩) | (refine ⟨Or.inr rfl, ?_⟩) | (refine ⟨Or.inr trivial, ?_⟩) | (refine ⟨rfl, ?_⟩) | (refine ⟨?_, ?_⟩)))) (by (repeat' (first | exact trivial | exact rfl | (refine ⟨Or.inl rfl, ?_⟩) | (refine ⟨Or.inr rfl, ?_⟩) | (refine ⟨Or.inr trivial, ?_⟩) | (refine ⟨rfl, ?_⟩) | (refine ⟨?_, ?_⟩)))) ?_
  intro ⟨mt, acc, cur⟩ hp
  dsimp only at hp ⊢
  have hn3 : ((emap k2V aV mt).map (·.1)).Nodup := by
    have h1 : (emap k2V aV (acc ++ mt)).Perm (emap k2V aV l) := hp.map _
    have h2 := (h1.map (·.1)).nodup_iff.2 hkA
    rw [etodo_join, List.nodup_append] at h2
    exact h2.2.1
  repeat' (first | ((with_reducible refine gS ?_); refine Es_next 1001 rfl rfl rfl rfl rfl rfl hkA hn3 (fun h0 => ?_) (fun pre k post h0 => ?_)) | ((with_reducible refine gA ?_); (first | refine AW_seq ?_ | refine AW_region ?_ | refine AW_condT rfl ?_ | refine AW_condF rfl ?_ | refine AW_block ?_ | refine AW_skip ?_ | refine AW_exit ?_)) | ((with_reducible refine gS ?_); refine Es_s (T := Try.tab) rfl rfl rfl rfl ?_) | (refine Es_skip rfl ?_ rfl ?_; (first | rfl | (refine w_tf ?_; assumption) | (refine w_ft ?_; assumption))) | (with_reducible refine Es_nil ?_) | (with_reducible refine then_n ?_) | (with_reducible refine then_e ?_) | ((with_reducible refine block_e ?_ ?_); rfl))
  rotate_left
  · obtain ⟨a, p, b, rfl, rfl, rfl, rfl⟩ := etodo_split h0
    have hpm : p ∈ l := hp.mem_iff.1 (by simp)
    have hmem : (k2V p.1, aV p.2) ∈ emap k2V aV l := List.mem_map.2 ⟨p, hpm, rfl⟩
    have hnew : aget p.1 acc = none := by
      rw [aget_none]
      intro hm
      have h2 := (hp.map (fun q => q.1)).nodup_iff.2 (show (l.map (fun q => q.1)).Nodup from hk)
      rw [List.map_append, List.nodup_append] at h2
      exact h2.2.2 p.1 hm p.1 (by simp) rfl
    have hput : mput (k2V p.1) (aV p.2) (emap k2V aV acc) = emap k2V aV (acc ++ [p]) := by rw [mput_emap (cv := aV) k2V_keq, aput_new hnew]
    repeat' (first | ((with_reducible refine gA ?_); refine AW_region ?_) | ((with_reducible refine gS ?_); refine Es_s (T := Try.tab) rfl rfl rfl rfl ?_) | (((with_reducible refine gS ?_); apply Es_q); rfl; rfl; refine LStep_entry (kav := .agg [.d (.sc (.string p.1.1)), .d (.sc (.string p.1.2))]) 1001 hmem rfl rfl rfl rfl hkA (k2_rep p.1)) | (((with_reducible refine gS ?_); apply Es_xn); rfl; rfl; refine LStep_mapUpdate (T := Try.tab) rfl rfl rfl keyK2 rfl rfl rfl rfl rfl (k2_keys _) rfl; rfl) | (refine Es_skip rfl ?_ rfl ?_; (first | rfl | (refine w_tf ?_; assumption) | (refine w_ft ?_; assumption))) | (((with_reducible refine gS ?_); apply Es_xs); rfl; rfl; refine LStep_allocN (T := Try.tab) rfl rfl rfl rfl rfl rfl; rfl) | (((with_reducible refine gS ?_); apply Es_xn); rfl; rfl; (refine LStep_storeN (T := Try.tab) rfl rfl rfl rfl rfl rfl rfl ?_ rfl; (refine Nat.le_of_ble_eq_true ?_; rfl)); rfl) | (with_reducible refine Es_nil ?_) | (with_reducible refine then_n ?_) | (with_reducible refine block_n ?_))
    refine ⟨(a ++ b, acc ++ [p], some (k2V p.1)), perm_mid hp, by simp, by (repeat' (first | exact trivial | exact rfl | (refine ⟨Or.inl rfl, ?_⟩) | (refine ⟨Or.inr rfl, ?_⟩) | (refine ⟨Or.inr trivial, ?_⟩) | (refine ⟨rfl, ?_⟩) | (refine ⟨?_, ?_⟩))), by (repeat' (first | exact trivial | exact rfl | (refine ⟨Or.inl rfl, ?_⟩) | (refine ⟨Or.inr rfl, ?_⟩) | (refine ⟨Or.inr trivial, ?_⟩) | (refine ⟨rfl, ?_⟩) | (refine ⟨?_, ?_⟩))), ?_, by (repeat' (first | exact trivial | exact rfl | (refine ⟨Or.inl rfl, ?_⟩) | (refine ⟨Or.inr rfl, ?_⟩) | (refine ⟨Or.inr trivial, ?_⟩) | (refine ⟨rfl, ?_⟩) | (refine ⟨?_, ?_⟩)))⟩
    dsimp only; rw [etodo_join, ← hput]; (repeat' (first | exact trivial | exact rfl | (refine ⟨Or.inl rfl, ?_⟩) | (refine ⟨Or.inr rfl, ?_⟩) | (refine ⟨Or.inr trivial, ?_⟩) | (refine ⟨rfl, ?_⟩) | (refine ⟨?_, ?_⟩)))
  have hm0 := etodo_nil h0
  subst hm0
  rw [List.append_nil] at hp
  refine ⟨_, _, _, emap k2V aV l, rfl, hp.map _, _, _, _, _, rfl, ?_⟩
  refine end0 ?_
  exact ⟨rfl, rfl, rfl, trivial⟩
set_option maxRecDepth 10000 in
set_option maxHeartbeats 2000000 in
theorem copyH_ac (l : List (ByteArray × Hld)) (hk : (akeys l).Nodup) (hl : l.length ≤ 1048576) : AC Try.prog 53 [.mp 1000, .mp 1001] [(1000, some (.map 9 67 (emap sV hV []) none)), (1001, some (.map 9 67 (emap sV hV l) none))] [1000, 1001]
    (fun r h' => r = .tup [] ∧ SubH [(1000, some (.mapP 9 67 (emap sV hV l))), (1001, some (.map 9 67 (emap sV hV l) none))] h') := by
  have hkS := emap_nodup (cv := hV) sV_inj hk
  refine AC_enter Try.func53 rfl Try.ntmps53 (rv := []) rfl rfl (by simp) (fun w X G => ?_)
  refine AW_noItEnd 1001 ?_
  refine AW_toPEnd 1000 ?_
  repeat' (first | ((with_reducible refine gA ?_); (first | refine AW_seq ?_ | refine AW_region ?_ | refine AW_block ?_)) | ((with_reducible refine gS ?_); refine Es_s (T := Try.tab) rfl rfl rfl rfl ?_) | (((with_reducible refine gS ?_); apply Es_xg); rfl; rfl; refine LStep_range (T := Try.tab) rfl rfl rfl rfl rfl rfl rfl; rfl) | (with_reducible refine Es_nil ?_) | (with_reducible refine then_n ?_))
  refine AW_forE (S := List (ByteArray × Hld) × List (ByteArray × Hld) × Option Value) (fun t => (t.2.1 ++ t.1).Perm l) (fun _ => [])
    (fun t => [(1001, some (.map 9 67 (emap sV hV l) (some (7, (emap sV hV t.1).map (·.1), t.2.2)))), (1000, some (.map 9 67 (emap sV hV t.2.1) none))]) (fun s => s.1.length) (l, [], none) (List.Perm.refl _) (by (repeat' (first | exact trivial | exact rfl | (refine ⟨Or.inl rfl, ?_⟩) | (refine ⟨Or.inr rfl, ?_⟩) | (refine ⟨Or.inr trivial, ?_⟩) | (refine ⟨rfl, ?_⟩) | (refine ⟨?_, ?_⟩)))) (by (repeat' (first | exact trivial | exact rfl | (refine ⟨Or.inl rfl, ?_⟩) | (refine ⟨Or.inr rfl, ?_⟩) | (refine ⟨Or.inr trivial, ?_⟩) | (refine ⟨rfl, ?_⟩) | (refine ⟨?_, ?_⟩)))) ?_
  intro ⟨mt, acc, cur⟩ hp
  dsimp only at hp ⊢
  have hn3 : ((emap sV hV mt).map (·.1)).Nodup := by
    have h1 : (emap sV hV (acc ++ mt)).Perm (emap sV hV l) := hp.map _
    have h2 := (h1.map (·.1)).nodup_iff.2 hkS
    rw [etodo_join, List.nodup_append] at h2
    exact h2.2.1
  repeat' (first | ((with_reducible refine gS ?_); refine Es_next 1001 rfl rfl rfl rfl rfl rfl hkS hn3 (fun h0 => ?_) (fun pre k post h0 => ?_)) | ((with_reducible refine gA ?_); (first | refine AW_seq ?_ | refine AW_region ?_ | refine AW_condT rfl ?_ | refine AW_condF rfl ?_ | refine AW_block ?_ | refine AW_skip ?_ | refine AW_exit ?_)) | ((with_reducible refine gS ?_); refine Es_s (T := Try.tab) rfl rfl rfl rfl ?_) | (refine Es_skip rfl ?_ rfl ?_; (first | rfl | (refine w_tf ?_; assumption) | (refine w_ft ?_; assumption))) | (with_reducible refine Es_nil ?_) | (with_reducible refine then_n ?_) | (with_reducible refine then_e ?_) | ((with_reducible refine block_e ?_ ?_); rfl))
  rotate_left
  · obtain ⟨a, p, b, rfl, rfl, rfl, rfl⟩ := etodo_split h0
    have hpm : p ∈ l := hp.mem_iff.1 (by simp)
    have hmem : (sV p.1, hV p.2) ∈ emap sV hV l := List.mem_map.2 ⟨p, hpm, rfl⟩
    have hnew : aget p.1 acc = none := by
      rw [aget_none]
      intro hm
      have h2 := (hp.map (fun q => q.1)).nodup_iff.2 (show (l.map (fun q => q.1)).Nodup from hk)
      rw [List.map_append, List.nodup_append] at h2
      exact h2.2.2 p.1 hm p.1 (by simp) rfl
    have hput : mput (sV p.1) (hV p.2) (emap sV hV acc) = emap sV hV (acc ++ [p]) := by rw [mput_emap (cv := hV) sV_keq, aput_new hnew]
    repeat' (first | ((with_reducible refine gA ?_); refine AW_region ?_) | ((with_reducible refine gS ?_); refine Es_s (T := Try.tab) rfl rfl rfl rfl ?_) | (((with_reducible refine gS ?_); apply Es_q); rfl; rfl; refine LStep_entry (kav := .d (.sc (.string p.1))) 1001 hmem rfl rfl rfl rfl hkS (fun _ _ _ => .d _ _ (.sc _ rfl))) | (((with_reducible refine gS ?_); apply Es_xn); rfl; rfl; refine LStep_mapUpdate (T := Try.tab) rfl rfl rfl rfl rfl rfl rfl rfl rfl (s_keys _) rfl; rfl) | (refine Es_skip rfl ?_ rfl ?_; (first | rfl | (refine w_tf ?_; assumption) | (refine w_ft ?_; assumption))) | (((with_reducible refine gS ?_); apply Es_xs); rfl; rfl; refine LStep_allocN (T := Try.tab) rfl rfl rfl rfl rfl rfl; rfl) | (((with_reducible refine gS ?_); apply Es_xn); rfl; rfl; (refine LStep_storeN (T := Try.tab) rfl rfl rfl rfl rfl rfl rfl ?_ rfl; (refine Nat.le_of_ble_eq_true ?_; rfl)); rfl) | (with_reducible refine Es_nil ?_) | (with_reducible refine then_n ?_) | (with_reducible refine block_n ?_))
    refine ⟨(a ++ b, acc ++ [p], some (sV p.1)), perm_mid hp, by simp, by (repeat' (first | exact trivial | exact rfl | (refine ⟨Or.inl rfl, ?_⟩) | (refine ⟨Or.inr rfl, ?_⟩) | (refine ⟨Or.inr trivial, ?_⟩) | (refine ⟨rfl, ?_⟩) | (refine ⟨?_, ?_⟩))), by (repeat' (first | exact trivial | exact rfl | (refine ⟨Or.inl rfl, ?_⟩) | (refine ⟨Or.inr rfl, ?_⟩) | (refine ⟨Or.inr trivial, ?_⟩) | (refine ⟨rfl, ?_⟩) | (refine ⟨?_, ?_⟩))), ?_, by (repeat' (first | exact trivial | exact rfl | (refine ⟨Or.inl rfl, ?_⟩) | (refine ⟨Or.inr rfl, ?_⟩) | (refine ⟨Or.inr trivial, ?_⟩) | (refine ⟨rfl, ?_⟩) | (refine ⟨?_, ?_⟩)))⟩
    dsimp only; rw [etodo_join, ← hput]; (repeat' (first | exact trivial | exact rfl | (refine ⟨Or.inl rfl, ?_⟩) | (refine ⟨Or.inr rfl, ?_⟩) | (refine ⟨Or.inr trivial, ?_⟩) | (refine ⟨rfl, ?_⟩) | (refine ⟨?_, ?_⟩)))
  have hm0 := etodo_nil h0
  subst hm0
  rw [List.append_nil] at hp
  refine ⟨_, _, _, emap sV hV l, rfl, hp.map _, _, _, _, _, rfl, ?_⟩
  refine end0 ?_
  exact ⟨rfl, rfl, rfl, trivial⟩
/-- a ledger whose maps' order is not told -/
def hLP (a b c d : Nat) (s : Led) : Hp := [(a, some (.cells [.mp b, .own c (s.P.map Post.enc).length, .mp d])), (b, some (.mapP 75 77 (emap k2V aV s.A))), (c, some (.arr 55 3 (s.P.map Post.enc))), (d, some (.mapP 9 67 (emap sV hV s.H)))]
set_option maxRecDepth 10000 in
set_option maxHeartbeats 2000000 in
theorem lcopy_ac (s : Led) (hs : s.Ok) (he : ∀ p ∈ s.P, p.entries.length ≤ 1048576) : AC Try.prog 29 [.ptr 1000 0] (hL s) [1000, 1001, 1002, 1003]
    (fun r h' => r = .ptr 4 0 ∧ SubH (hLP 4 4001 28 4003 s ++ hL s) h') := by
  have cn := ledgerNew_ac ⟨#[]⟩
  have ca := copyA_ac s.A hs.nA (by have := hs.lA; omega)
  have ch := copyH_ac s.H hs.nH (by have := hs.lH; omega)
  have cp := posts_ac s.P (by have := hs.lP; omega) he
  refine AC_enter Try.func29 rfl Try.ntmps29 (rv := [.tmp 2]) rfl rfl (by simp) (fun w X G => ?_)
  repeat' (first | ((with_reducible refine gA ?_); (first | refine AW_seq ?_ | refine AW_region ?_ | refine AW_regionD Try.mixed ?_ | refine AW_ret ?_)) | (first | ((with_reducible refine gS ?_); refine Es_s (T := Try.tab) rfl rfl rfl rfl ?_) | ((with_reducible refine gD ?_); refine Ed_s (T := Try.tab) rfl rfl rfl rfl ?_)) | ((first | ((with_reducible refine gS ?_); apply Es_xg) | ((with_reducible refine gD ?_); apply Ed_xg)); rfl; rfl; (first | refine LStep_callHN [] [(6, 4), (3, 4001), (2000, 4002), (4, 4003)] cn rfl rfl trivial rfl trivial rfl rfl | refine LStep_callHN [(1000, 4001), (1001, 1001)] [] ca rfl rfl ⟨rfl, rfl, trivial⟩ rfl ⟨trivial, trivial, trivial⟩ rfl rfl | refine LStep_callHN [(1000, 4003), (1001, 1003)] [] ch rfl rfl ⟨rfl, rfl, trivial⟩ rfl ⟨trivial, trivial, trivial⟩ rfl rfl | refine LStep_callHN [(1000, 1002)] [(6, 28)] cp rfl rfl ⟨rfl, trivial⟩ rfl ⟨rfl, trivial⟩ rfl rfl); rfl) | (((with_reducible refine gS ?_); apply Es_xn); rfl; rfl; (refine LStep_storeN (T := Try.tab) rfl rfl rfl rfl rfl rfl rfl ?_ rfl; (refine Nat.le_of_ble_eq_true ?_; rfl)); rfl) | (with_reducible refine Es_nil ?_) | ((with_reducible refine Ed_nil ?_ ?_); kernel_rfl) | (with_reducible refine then_n ?_) | ((with_reducible refine gR ?_); first | refine ret1 rfl ?_ | refine ret2 rfl rfl ?_ | refine ret0 ?_ | refine end1 rfl ?_ | refine end0 ?_))
  exact ⟨rfl, rfl, rfl, rfl, rfl, rfl, rfl, rfl, rfl, trivial⟩
end Go.Proofs.Ytbekoielblcbmaa
