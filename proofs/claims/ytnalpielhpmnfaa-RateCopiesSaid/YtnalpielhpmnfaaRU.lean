import Derived.Test.YtnalpielhpmnfaaRL
namespace Go.Proofs.Ytnalpielhpmnfaa
open Go.SL
/-! ### Copy -/
theorem etodo_new {l acc a b : List RP} {p : RP} (hn : (akeys l).Nodup) (h : (acc ++ (a ++ p :: b)).Perm l) : aget p.1 acc = none := by
  refine aget_none.2 (fun hc => ?_)
  have h1 : (akeys (acc ++ (a ++ p :: b))).Nodup := (h.map _).nodup_iff.2 hn
  unfold akeys at h1 hc
  rw [List.map_append, List.nodup_append] at h1
  exact h1.2.2 _ hc _ (List.mem_map.2 ⟨p, by simp, rfl⟩) rfl
set_option maxRecDepth 10000 in
set_option maxHeartbeats 8000000 in
theorem mcopy_ac (l : List RP) (hn : (akeys l).Nodup) (_hl : l.length ≤ 4096) : AC Try.prog 45 [.mp 1000, .mp 1001] [(1000, some (.map 91 29 (emap k3V rtV []) none)), (1001, some (.map 91 29 (emap k3V rtV l) none))] [1000, 1001]
    (fun r h' => r = .tup [] ∧ SubH [(1000, some (.mapP 91 29 (emap k3V rtV l))), (1001, some (.map 91 29 (emap k3V rtV l) none))] h') := by
  have hkA := emap_nodup (cv := rtV) k3V_inj hn
  refine AC_enter Try.func45 rfl Try.ntmps45 (rv := []) rfl rfl (by simp) (fun w X G => ?_)
  repeat' (first | ((with_reducible refine gA ?_); (first | refine AW_seq ?_ | refine AW_region ?_ | refine AW_block ?_)) | ((with_reducible refine gS ?_); refine Es_s (T := Try.tab) rfl rfl rfl rfl ?_) | (((with_reducible refine gS ?_); apply Es_xg); rfl; rfl; refine LStep_range (T := Try.tab) rfl rfl rfl rfl rfl rfl rfl; rfl) | (with_reducible refine Es_nil ?_) | (with_reducible refine then_n ?_))
  refine AW_forE (S := List RP × List RP × Option Value) (fun t => (t.2.1 ++ t.1).Perm l) (fun _ => []) (fun t => [(1001, some (.map 91 29 (emap k3V rtV l) (some (7, (emap k3V rtV t.1).map (·.1), t.2.2)))), (1000, some (.map 91 29 (emap k3V rtV t.2.1) none))]) (fun t => t.1.length) (l, [], none) (List.Perm.refl _) (by (repeat' (first | exact trivial | exact rfl | (refine ⟨Or.inl rfl, ?_⟩) | (refine ⟨Or.inr rfl, ?_⟩) | (refine ⟨Or.inr trivial, ?_⟩) | (refine ⟨rfl, ?_⟩) | (refine ⟨?_, ?_⟩)))) (by (repeat' (first | exact trivial | exact rfl | (refine ⟨Or.inl rfl, ?_⟩) | (refine ⟨Or.inr rfl, ?_⟩) | (refine ⟨Or.inr trivial, ?_⟩) | (refine ⟨rfl, ?_⟩) | (refine ⟨?_, ?_⟩)))) ?_
  intro ⟨mt, acc, cur⟩ hp
  dsimp only at hp ⊢
  have hn3 : ((emap k3V rtV mt).map (·.1)).Nodup := by
    have h1 : (emap k3V rtV (acc ++ mt)).Perm (emap k3V rtV l) := hp.map _
    have h2 := (h1.map (·.1)).nodup_iff.2 hkA
    rw [etodo_join, List.nodup_append] at h2
    exact h2.2.1
  refine AW_seq ?_
  refine AW_region ?_
  refine Es_next 1001 rfl rfl rfl rfl rfl rfl hkA hn3 (fun h0 => ?_) (fun pre k post h0 => ?_)
  rotate_left
  · obtain ⟨a, p, b, rfl, rfl, rfl, rfl⟩ := etodo_split h0
    have hnew := etodo_new hn hp
    have hpm2 := perm_midR hp
    have hpm : p ∈ l := hp.mem_iff.1 (by simp)
    have hput := mput_emap (cv := rtV) k3V_keq p.1 p.2 acc
    rw [aput_new hnew] at hput
    have hML := k3_keys (cv := rtV) acc
    obtain ⟨⟨f, t, d⟩, n, m⟩ := p
    dsimp only at hput
    have hmem : (k3V (f, t, d), AV.agg [.d (.sc (.int .i64 n)), .d (.sc (.int .i64 m))]) ∈ emap k3V rtV l := List.mem_map.2 ⟨_, hpm, rfl⟩
    repeat' (first | ((with_reducible refine gA ?_); (first | refine AW_seq ?_ | refine AW_region ?_ | refine AW_condT rfl ?_ | refine AW_block ?_ | refine AW_skip ?_)) | ((with_reducible refine gS ?_); refine Es_s (T := Try.tab) rfl rfl rfl rfl ?_) | (((with_reducible refine gS ?_); apply Es_q); rfl; rfl; refine LStep_entry (kav := .agg [.d (.sc (.string f)), .d (.sc (.string t)), .d (.sc (.int .i64 d))]) 1001 hmem rfl rfl rfl rfl hkA (k3_rep (f, t, d))) | (((with_reducible refine gS ?_); apply Es_xn); rfl; rfl; refine LStep_mapUpdate (T := Try.tab) rfl rfl rfl keyK3 rfl rfl rfl rfl rfl hML rfl; rfl) | (refine Es_skip rfl ?_ rfl ?_; (first | rfl | (refine w_tf ?_; assumption) | (refine w_ft ?_; assumption))) | (((with_reducible refine gS ?_); apply Es_xs); rfl; rfl; refine LStep_allocN (T := Try.tab) rfl rfl rfl rfl rfl rfl; rfl) | (((with_reducible refine gS ?_); apply Es_xn); rfl; rfl; (refine LStep_storeN (T := Try.tab) rfl rfl rfl rfl rfl rfl rfl ?_ rfl; (refine Nat.le_of_ble_eq_true ?_; rfl)); rfl) | (with_reducible refine Es_nil ?_) | (with_reducible refine then_n ?_) | (with_reducible refine block_n ?_))
    all_goals first
      | (refine ⟨(a ++ b, acc ++ [((f, t, d), n, m)], some (k3V (f, t, d))), hpm2, by simp, by (repeat' (first | exact trivial | exact rfl | (refine ⟨Or.inl rfl, ?_⟩) | (refine ⟨Or.inr rfl, ?_⟩) | (refine ⟨Or.inr trivial, ?_⟩) | (refine ⟨rfl, ?_⟩) | (refine ⟨?_, ?_⟩))), by (repeat' (first | exact trivial | exact rfl | (refine ⟨Or.inl rfl, ?_⟩) | (refine ⟨Or.inr rfl, ?_⟩) | (refine ⟨Or.inr trivial, ?_⟩) | (refine ⟨rfl, ?_⟩) | (refine ⟨?_, ?_⟩))), ?_, by (repeat' (first | exact trivial | exact rfl | (refine ⟨Or.inl rfl, ?_⟩) | (refine ⟨Or.inr rfl, ?_⟩) | (refine ⟨Or.inr trivial, ?_⟩) | (refine ⟨rfl, ?_⟩) | (refine ⟨?_, ?_⟩)))⟩; dsimp only; rw [← hput, etodo_join]; (repeat' (first | exact trivial | exact rfl | (refine ⟨Or.inl rfl, ?_⟩) | (refine ⟨Or.inr rfl, ?_⟩) | (refine ⟨Or.inr trivial, ?_⟩) | (refine ⟨rfl, ?_⟩) | (refine ⟨?_, ?_⟩))); done)
      | trace_state
  have hm0 := etodo_nil h0
  subst hm0
  rw [List.append_nil] at hp
  have hpE : (emap k3V rtV acc).Perm (emap k3V rtV l) := hp.map _
  repeat' (first | ((with_reducible refine gA ?_); refine AW_noIt 1001 rfl ?_; refine AW_toP 1000 (emap k3V rtV l) rfl hpE ?_) | ((with_reducible refine gA ?_); (first | refine AW_seq ?_ | refine AW_condF rfl ?_ | refine AW_exit ?_)) | ((with_reducible refine gS ?_); refine Es_s (T := Try.tab) rfl rfl rfl rfl ?_) | (with_reducible refine Es_nil ?_) | (with_reducible refine then_n ?_) | (with_reducible refine then_e ?_) | ((with_reducible refine block_e ?_ ?_); rfl) | ((with_reducible refine gR ?_); first | refine ret1 rfl ?_ | refine ret2 rfl rfl ?_ | refine ret0 ?_ | refine end1 rfl ?_ | refine end0 ?_))
  all_goals first
    | exact ⟨rfl, by (repeat' (first | exact trivial | exact rfl | (refine ⟨Or.inl rfl, ?_⟩) | (refine ⟨Or.inr rfl, ?_⟩) | (refine ⟨Or.inr trivial, ?_⟩) | (refine ⟨rfl, ?_⟩) | (refine ⟨?_, ?_⟩)))⟩
    | trace_state
set_option maxRecDepth 10000 in
set_option maxHeartbeats 2000000 in
theorem copy_ac (l : List RP) (hn : (akeys l).Nodup) (hl : l.length ≤ 4096) : AC Try.prog 21 [.ptr 1000 0] (hR l) [1000, 1001]
    (fun r h' => r = .ptr 4 0 ∧ SubH (hR l ++ [(4, some (.cells [.mp 401])), (401, some (.mapP 91 29 (emap k3V rtV l)))]) h') := by
  have cn := new_ac
  have cm := mcopy_ac l hn hl
  unfold hR
  refine AC_enter Try.func21 rfl Try.ntmps21 (rv := [.tmp 2]) rfl rfl (by simp) (fun w X G => ?_)
  repeat' (first | ((with_reducible refine gA ?_); (first | refine AW_seq ?_ | refine AW_region ?_ | refine AW_regionD Try.mixed ?_ | refine AW_ret ?_)) | (first | ((with_reducible refine gS ?_); refine Es_s (T := Try.tab) rfl rfl rfl rfl ?_) | ((with_reducible refine gD ?_); refine Ed_s (T := Try.tab) rfl rfl rfl rfl ?_)) | ((first | ((with_reducible refine gS ?_); apply Es_xg) | ((with_reducible refine gD ?_); apply Ed_xg)); rfl; rfl; (first | refine LStep_callHN [] [(3, 4), (1, 401)] cn rfl rfl trivial rfl trivial rfl rfl | refine LStep_callHN [(1000, 401), (1001, 1001)] [] cm rfl rfl ⟨rfl, rfl, trivial⟩ rfl ⟨trivial, trivial, trivial⟩ rfl rfl); rfl) | (with_reducible refine Es_nil ?_) | ((with_reducible refine Ed_nil ?_ ?_); kernel_rfl) | (with_reducible refine then_n ?_) | ((with_reducible refine gR ?_); first | refine ret1 rfl ?_ | refine ret2 rfl rfl ?_ | refine ret0 ?_ | refine end1 rfl ?_ | refine end0 ?_))
  all_goals first
    | exact ⟨rfl, by (repeat' (first | exact trivial | exact rfl | (refine ⟨Or.inl rfl, ?_⟩) | (refine ⟨Or.inr rfl, ?_⟩) | (refine ⟨Or.inr trivial, ?_⟩) | (refine ⟨rfl, ?_⟩) | (refine ⟨?_, ?_⟩)))⟩
    | trace_state
/-! ### RateCopies -/
theorem linkR_perm {l m : List RP} (hp : l.Perm m) (hn : (akeys m).Nodup) (day : Int) (f t : ByteArray) : linkR l day f t = linkR m day f t := by
  unfold linkR
  rw [lat_perm hp hn, lat_perm hp hn]
theorem getR_perm {l m : List RP} (hp : l.Perm m) (hn : (akeys m).Nodup) (f t : ByteArray) (day : Int) : getR l f t day = getR m f t day := by
  unfold getR
  rw [linkR_perm hp hn]
theorem RInv.perm {l m : List RP} (hp : l.Perm m) (h : RInv m) : RInv l := ⟨((hp.map _).nodup_iff).2 h.nd, fun x hx => h.may x (hp.mem_iff.1 hx)⟩
/-- a later rate changes nothing ahead of it -/
theorem getR_ahead {l : List RP} {x : RP} (f t : ByteArray) {day : Int} (h : setE l x ≠ 0 ∨ day < x.1.2.2 ∨ 1048576 < day) : getR (setL l x) f t day = getR l f t day := by
  by_cases h0 : setE l x = 0
  · unfold setL
    rw [if_pos h0]
    rcases h with h | h | h
    · exact absurd h0 h
    · have e : ∀ p, lat (l ++ [x]) p day = lat l p day := fun p => by
        rw [lat_snoc]
        unfold latS
        have : fitR p day x = false := by
          cases hq : fitR p day x with
          | false => rfl
          | true => obtain ⟨_, _, h3⟩ := fitR_t.1 hq; omega
        rw [this]
        simp
      unfold getR linkR
      rw [e, e]
    · have e : dayOk day = false := dayOk_f.2 (by omega)
      unfold getR
      rw [e]
      cases curOk f <;> cases curOk t <;> rfl
  · unfold setL
    rw [if_neg h0]
theorem getR_from {l : List RP} {x : RP} {day : Int} (h0 : setE l x = 0) (h1 : x.1.2.2 ≤ day) (h2 : day ≤ 1048576) : ∃ y, getR (setL l x) x.1.1 x.1.2.1 day = some y := by
  obtain ⟨hm, _⟩ := setE_zero.1 h0
  obtain ⟨m1, m2, m3, m4, _⟩ := mayR_t.1 hm
  have hd : dayOk day = true := dayOk_t.2 (by omega)
  have hl : ∃ z, lat (l ++ [x]) (x.1.1, x.1.2.1) day = some z := by
    cases hq : lat (l ++ [x]) (x.1.1, x.1.2.1) day with
    | some z => exact ⟨z, rfl⟩
    | none =>
      have h3 := (lat_spec (x.1.1, x.1.2.1) day (l ++ [x])).1 hq x (by simp)
      rw [fitR_t.2 ⟨rfl, rfl, h1⟩] at h3
      cases h3
  obtain ⟨z, hz⟩ := hl
  unfold setL getR linkR
  rw [if_pos h0, m1, m2, hd]
  simp only [Bool.and_self, if_true, if_neg m3, hz, Option.map_some]
  exact ⟨_, rfl⟩
end Go.Proofs.Ytnalpielhpmnfaa
