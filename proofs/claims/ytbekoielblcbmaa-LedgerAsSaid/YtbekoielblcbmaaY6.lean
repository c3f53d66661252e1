import Derived.Test.YtbekoielblcbmaaY5
import Derived.Test.YtbekoielblcbmaaTa
namespace Go.Proofs.Ytbekoielblcbmaa
open Go.SL
/-! ### As -/
def Led.Good (s : Led) : Prop := ∀ p ∈ s.P, p.entries.length ≤ 64 ∧ ∀ e ∈ p.entries, e.in40 ∧ aget e.key s.A ≠ none
theorem good_sub {s t : Led} (h : s.Good) (hP : t.P = s.P) (hA : ∀ k, aget k s.A ≠ none → aget k t.A ≠ none) : t.Good := by
  intro p hp
  rw [hP] at hp
  obtain ⟨h1, h2⟩ := h p hp
  exact ⟨h1, fun e he => ⟨(h2 e he).1, hA _ (h2 e he).2⟩⟩
theorem enterA_has {c : List (K2 × Int)} {A : List (K2 × Acc)} {k : K2} (h : aget k A ≠ none) : aget k (enterA c A) ≠ none := by
  rw [enterA_get]
  cases hq : aget k A with
  | none => exact absurd hq h
  | some a => simp
theorem enterS_good {s : Led} (h : s.Good) (t : ByteArray) {x : List Ent} (hx : x.length ≤ 64) (hi : ∀ e ∈ x, e.in40 ∧ aget e.key s.A ≠ none) : (enterS s t x).Good := by
  intro p hp
  rcases List.mem_append.1 hp with hp | hp
  · obtain ⟨h1, h2⟩ := h p hp
    exact ⟨h1, fun e he => ⟨(h2 e he).1, enterA_has (h2 e he).2⟩⟩
  · simp only [List.mem_singleton] at hp
    subst hp
    exact ⟨hx, fun e he => ⟨(hi e he).1, enterA_has (hi e he).2⟩⟩
theorem openS_has {s : Led} {n c : ByteArray} {f : Int} {k : K2} (h : aget k s.A ≠ none) : aget k (openS s n c f).1.A ≠ none := by
  unfold openS
  split
  · exact h
  split
  · exact h
  split
  · exact h
  split
  · exact h
  exact aget_keep h
theorem doS_good {s : Led} (h : s.Good) (hs : s.Ok) (x : Act) : (doS s x).Good := by
  by_cases hg : grows s x
  · rcases hg with ⟨e, hq⟩ | ⟨e, hq⟩
    · rw [doS, if_neg (by rw [e]; decide), if_pos e, if_pos hq]
      unfold postE at hq
      split at hq
      · cases hq
      split at hq
      · cases hq
      obtain ⟨r1, r2⟩ := refS_ok hq
      exact enterS_good h _ (by omega) (fun e he => ⟨r2 e he, r1 e he⟩)
    · rw [doS, if_neg (by rw [e]; decide), if_neg (by rw [e]; decide), if_neg (by rw [e]; decide), if_pos e, if_pos hq]
      obtain ⟨d, a, q1, q2, q3, q4, q5, q6, q7⟩ := takeE_ok hq
      obtain ⟨g1, g2, g3, g4⟩ := hs.hold _ _ q1
      unfold takeS
      rw [q1]
      have hl : ∀ k, aget k s.A ≠ none → aget k (lessS s d x.n).A ≠ none := fun k hk => aget_keep hk
      refine enterS_good (good_sub (t := lessS s d x.n) h rfl hl) _ (by simp [takeX]) (fun e he => ?_)
      simp only [takeX, List.mem_cons, List.not_mem_nil, or_false] at he
      rcases he with rfl | rfl
      · exact ⟨⟨by simp only; omega, by simp only; omega⟩, hl _ g2⟩
      · exact ⟨⟨by simp only; omega, by simp only; omega⟩, hl _ (by unfold Ent.key; rw [q2]; simp)⟩
  · refine good_sub h (doS_P hg) (fun k hk => ?_)
    unfold doS
    split
    · exact openS_has hk
    split
    · split
      · exact enterA_has hk
      · exact hk
    split
    · unfold holdS
      split
      · exact aget_keep hk
      · exact hk
    split
    · split
      · unfold takeS
        cases hq : aget x.a s.H with
        | none => exact hk
        | some d => exact enterA_has (A := (lessS s d x.n).A) (aget_keep hk)
      · exact hk
    · unfold letS
      cases hq : aget x.a s.H with
      | none => exact hk
      | some d => exact aget_keep hk
theorem playS_good {s : Led} (h : s.Good) (hs : s.Ok) (l : List Act) : (playS s l).Good := by
  unfold playS
  induction l generalizing s with
  | nil => exact h
  | cons x l ih => exact ih (doS_good h hs x) (doS_ok hs x)
theorem Led0_good : Led0.Good := fun p hp => by simp [Led0] at hp
def rsA (p : K2 × Acc) : K2 × Acc := (p.1, ⟨p.2.floor, 0, 0⟩)
def as0 (s : Led) : Led := ⟨s.A.map rsA, [], []⟩
def asP (s : Led) (l : List Post) : Led := l.foldl (fun t p => enterS t p.text p.entries) s
def asS (s : Led) (n : Int) : Led := asP (as0 s) (s.P.take (maxI 0 (minI n (s.P.length : Int))).toNat)
theorem asP_snoc (s : Led) (l : List Post) (p : Post) : asP s (l ++ [p]) = enterS (asP s l) p.text p.entries := by simp [asP]
theorem asP_eqv {s t : Led} (h : s.Eqv t) (l : List Post) : (asP s l).Eqv (asP t l) := by
  unfold asP
  induction l generalizing s t with
  | nil => exact h
  | cons p l ih => exact ih (enterS_eqv h _ _)
theorem enterS_keys (s : Led) (t : ByteArray) (x : List Ent) : akeys (enterS s t x).A = akeys s.A := akeys_map (addAcc_key _ _) _
theorem asP_keys (s : Led) (l : List Post) : akeys (asP s l).A = akeys s.A ∧ (asP s l).H = s.H ∧ (asP s l).P.length = s.P.length + l.length := by
  unfold asP
  induction l generalizing s with
  | nil => exact ⟨rfl, rfl, rfl⟩
  | cons p l ih =>
    obtain ⟨h1, h2, h3⟩ := ih (enterS s p.text p.entries)
    refine ⟨h1.trans (enterS_keys _ _ _), h2, ?_⟩
    rw [List.foldl_cons, h3]
    simp [enterS]
    omega
theorem keys_has {α β : Type} {l : List (K2 × α)} {m : List (K2 × β)} (h : akeys l = akeys m) {k : K2} (hk : aget k m ≠ none) : aget k l ≠ none := by
  intro e
  rw [aget_none] at e
  rw [h] at e
  exact hk (aget_none.2 e)
theorem rs_keys (A : List (K2 × Acc)) : akeys (A.map rsA) = akeys A := by unfold akeys; rw [List.map_map]; rfl
theorem as_ok {s : Led} (hs : s.Ok) (n : Int) : (asS s n).Ok := by
  unfold asS
  obtain ⟨h1, h2, h3⟩ := asP_keys (as0 s) (s.P.take (maxI 0 (minI n (s.P.length : Int))).toNat)
  have hk : akeys (as0 s).A = akeys s.A := rs_keys _
  have hA := congrArg List.length (h1.trans hk)
  simp only [akeys, List.length_map] at hA
  have := hs.lA
  have := hs.lP
  refine ⟨by rw [h1, hk]; exact hs.nA, by rw [h2]; exact List.nodup_nil, by omega, by rw [h3, List.length_take]; simp only [as0, List.length_nil]; omega, by rw [h2]; exact Nat.zero_le _, fun id h e => ?_⟩
  rw [h2] at e
  cases e
/-- a ledger without holds, the accounts' order not told -/
def hLQ (a b c d : Nat) (s : Led) : Hp := [(a, some (.cells [.mp b, .own c (s.P.map Post.enc).length, .mp d])), (b, some (.mapP 75 77 (emap k2V aV s.A))), (c, some (.arr 55 3 (s.P.map Post.enc))), (d, some (.map 9 67 (emap sV hV s.H) none))]
theorem maxmin (n : Int) (k : Nat) : 0 ≤ maxI 0 (minI n (k : Int)) ∧ maxI 0 (minI n (k : Int)) ≤ (k : Int) := by
  unfold maxI minI
  split <;> split <;> omega
set_option maxRecDepth 10000 in
set_option maxHeartbeats 4000000 in
theorem as_ac (s : Led) (n : Int) (hs : s.Ok) (hg : s.Good) : AC Try.prog 27 [.ptr 1000 0, .d (.sc (.int .i64 n))] (hL s) [1000, 1001, 1002, 1003]
    (fun r h' => r = .ptr 10 0 ∧ SubH (hLQ 10 6001 6002 6003 (asS s n) ++ hL s) h') := by
  have cn := ledgerNew_ac ⟨#[]⟩
  have hkA := emap_nodup (cv := aV) k2V_inj hs.nA
  have hlP := hs.lP
  have hlen : (s.P.map Post.enc).length = s.P.length := by simp
  obtain ⟨m1, m2⟩ := maxmin n s.P.length
  obtain ⟨m, hm⟩ := Int.eq_ofNat_of_zero_le m1
  rw [hm] at m2
  have m2 : m ≤ s.P.length := by omega
  have hAs : asS s n = asP (as0 s) (s.P.take m) := by unfold asS; rw [hm, Int.toNat_natCast]
  have hm' : (maxI 0 (minI n ((s.P.map Post.enc).length : Int))) = (m : Int) := by rw [hlen]; exact hm
  refine AC_enter Try.func27 rfl Try.ntmps27 (rv := [.tmp 4]) rfl rfl (by simp) (fun w X G => ?_)
  repeat' (first | ((with_reducible refine gA ?_); (first | refine AW_seq ?_ | refine AW_region ?_ | refine AW_block ?_)) | ((with_reducible refine gS ?_); refine Es_s (T := Try.tab) rfl rfl rfl rfl ?_) | (((with_reducible refine gS ?_); apply Es_xg); rfl; rfl; (first | refine LStep_callHN [] [(6, 10), (3, 6001), (2000, 6002), (4, 6003)] cn rfl rfl trivial rfl trivial rfl rfl | refine LStep_range (T := Try.tab) rfl rfl rfl rfl rfl rfl rfl); rfl) | (with_reducible refine Es_nil ?_) | (with_reducible refine then_n ?_))
  refine AW_forE (S := List (K2 × Acc) × List (K2 × Acc) × Option Value) (fun t => (t.2.1 ++ t.1).Perm s.A) (fun _ => [])
    (fun t => [(1001, some (.map 75 77 (emap k2V aV s.A) (some (15, (emap k2V aV t.1).map (·.1), t.2.2)))), (6001, some (.map 75 77 (emap k2V aV (t.2.1.map rsA)) none))]) (fun s => s.1.length) (s.A, [], none) (List.Perm.refl _) (by (repeat' (first | exact trivial | exact rfl | (refine ⟨Or.inl rfl, ?_⟩) | (refine ⟨Or.inr rfl, ?_⟩) | (refine ⟨Or.inr trivial, ?_⟩) | (refine ⟨rfl, ?_⟩) | (refine ⟨?_, ?_⟩)))) (by (repeat' (first | exact trivial | exact rfl | (refine ⟨Or.inl rfl, ?_⟩) | (refine ⟨Or.inr rfl, ?_⟩) | (refine ⟨Or.inr trivial, ?_⟩) | (refine ⟨rfl, ?_⟩) | (refine ⟨?_, ?_⟩)))) ?_
  intro ⟨mt, acc, cur⟩ hp
  dsimp only at hp ⊢
  have hn3 : ((emap k2V aV mt).map (·.1)).Nodup := by
    have h1 : (emap k2V aV (acc ++ mt)).Perm (emap k2V aV s.A) := hp.map _
    have h2 := (h1.map (·.1)).nodup_iff.2 hkA
    rw [etodo_join, List.nodup_append] at h2
    exact h2.2.1
  repeat' (first | ((with_reducible refine gS ?_); refine Es_next 1001 rfl rfl rfl rfl rfl rfl hkA hn3 (fun h0 => ?_) (fun pre k post h0 => ?_)) | ((with_reducible refine gA ?_); (first | refine AW_seq ?_ | refine AW_region ?_ | refine AW_regionD Try.mixed ?_ | refine AW_condT rfl ?_ | refine AW_condF rfl ?_ | refine AW_block ?_ | refine AW_skip ?_ | refine AW_exit ?_)) | (first | ((with_reducible refine gS ?_); refine Es_s (T := Try.tab) rfl rfl rfl rfl ?_) | ((with_reducible refine gD ?_); refine Ed_s (T := Try.tab) rfl rfl rfl rfl ?_)) | ((first | refine Es_skip rfl ?_ rfl ?_ | refine Ed_skip rfl ?_ rfl ?_); (first | rfl | (refine w_tf ?_; assumption) | (refine w_ft ?_; assumption))) | (with_reducible refine Es_nil ?_) | (with_reducible refine then_n ?_) | (with_reducible refine then_e ?_) | ((with_reducible refine block_e ?_ ?_); rfl))
  rotate_left
  · obtain ⟨a, p, b, rfl, rfl, rfl, rfl⟩ := etodo_split h0
    have hpm : p ∈ s.A := hp.mem_iff.1 (by simp)
    have hmem : (k2V p.1, aV p.2) ∈ emap k2V aV s.A := List.mem_map.2 ⟨p, hpm, rfl⟩
    have hnew : aget p.1 (acc.map rsA) = none := by
      rw [aget_none, rs_keys]
      intro hm
      have h2 := (hp.map (fun q => q.1)).nodup_iff.2 (show (s.A.map (fun q => q.1)).Nodup from hs.nA)
      rw [List.map_append, List.nodup_append] at h2
      exact h2.2.2 p.1 hm p.1 (by simp) rfl
    have hput : mput (k2V p.1) (aV ⟨p.2.floor, 0, 0⟩) (emap k2V aV (acc.map rsA)) = emap k2V aV ((acc ++ [p]).map rsA) := by rw [mput_emap (cv := aV) k2V_keq, aput_new hnew, List.map_append]; rfl
    repeat' (first | ((with_reducible refine gA ?_); refine AW_regionD Try.mixed ?_) | (first | ((with_reducible refine gS ?_); refine Es_s (T := Try.tab) rfl rfl rfl rfl ?_) | ((with_reducible refine gD ?_); refine Ed_s (T := Try.tab) rfl rfl rfl rfl ?_)) | ((first | ((with_reducible refine gS ?_); apply Es_q) | ((with_reducible refine gD ?_); apply Ed_q)); rfl; rfl; refine LStep_entry (kav := .agg [.d (.sc (.string p.1.1)), .d (.sc (.string p.1.2))]) 1001 hmem rfl rfl rfl rfl hkA (k2_rep p.1)) | ((first | ((with_reducible refine gS ?_); apply Es_xn) | ((with_reducible refine gD ?_); apply Ed_xn)); rfl; rfl; refine LStep_mapUpdate (T := Try.tab) rfl rfl rfl keyK2 rfl rfl rfl rfl rfl (k2_keys _) rfl; rfl) | ((first | ((with_reducible refine gS ?_); apply Es_q) | ((with_reducible refine gD ?_); apply Ed_q)); rfl; rfl; refine LStep_buildN (T := Try.tab) rfl rfl rfl rfl rfl rfl rfl) | (refine Es_skip rfl ?_ rfl ?_; (first | rfl | (refine w_tf ?_; assumption) | (refine w_ft ?_; assumption))) | (((with_reducible refine gS ?_); apply Es_xs); rfl; rfl; refine LStep_allocN (T := Try.tab) rfl rfl rfl rfl rfl rfl; rfl) | (((with_reducible refine gS ?_); apply Es_xn); rfl; rfl; (refine LStep_storeN (T := Try.tab) rfl rfl rfl rfl rfl rfl rfl ?_ rfl; (refine Nat.le_of_ble_eq_true ?_; rfl)); rfl) | (with_reducible refine Es_nil ?_) | ((with_reducible refine Ed_nil ?_ ?_); kernel_rfl) | (with_reducible refine then_n ?_) | (with_reducible refine block_n ?_))
    refine ⟨(a ++ b, acc ++ [p], some (k2V p.1)), perm_mid hp, by simp, by (repeat' (first | exact trivial | exact rfl | (refine ⟨Or.inl rfl, ?_⟩) | (refine ⟨Or.inr rfl, ?_⟩) | (refine ⟨Or.inr trivial, ?_⟩) | (refine ⟨rfl, ?_⟩) | (refine ⟨?_, ?_⟩))), by (repeat' (first | exact trivial | exact rfl | (refine ⟨Or.inl rfl, ?_⟩) | (refine ⟨Or.inr rfl, ?_⟩) | (refine ⟨Or.inr trivial, ?_⟩) | (refine ⟨rfl, ?_⟩) | (refine ⟨?_, ?_⟩))), ?_, by (repeat' (first | exact trivial | exact rfl | (refine ⟨Or.inl rfl, ?_⟩) | (refine ⟨Or.inr rfl, ?_⟩) | (refine ⟨Or.inr trivial, ?_⟩) | (refine ⟨rfl, ?_⟩) | (refine ⟨?_, ?_⟩)))⟩
    dsimp only; rw [etodo_join, ← hput]; (repeat' (first | exact trivial | exact rfl | (refine ⟨Or.inl rfl, ?_⟩) | (refine ⟨Or.inr rfl, ?_⟩) | (refine ⟨Or.inr trivial, ?_⟩) | (refine ⟨rfl, ?_⟩) | (refine ⟨?_, ?_⟩)))
  have hm0 := etodo_nil h0
  subst hm0
  rw [List.append_nil] at hp
  repeat' (first | ((with_reducible refine gA ?_); refine AW_noIt 1001 rfl ?_) | ((with_reducible refine gA ?_); refine AW_block ?_) | ((with_reducible refine gD ?_); refine Ed_s (T := Try.tab) rfl rfl rfl rfl ?_) | (((with_reducible refine gD ?_); apply Ed_q); rfl; rfl; (first | refine LStep_lenOwn (T := Try.tab) rfl rfl rfl rfl rfl rfl | refine LStep_min rfl rfl rfl rfl rfl | refine LStep_max rfl rfl rfl rfl hm' | refine LStep_partOwnTo (T := Try.tab) rfl rfl rfl rfl rfl rfl rfl rfl (by rw [hlen]; exact m2) | refine LStep_lenPart (T := Try.tab) rfl rfl rfl rfl rfl rfl)) | ((with_reducible refine Ed_nil ?_ ?_); kernel_rfl) | (with_reducible refine then_n ?_))
  have ht0 : (⟨acc.map rsA, [], []⟩ : Led).Eqv (as0 s) := ⟨hp.map _, rfl, List.Perm.refl _⟩
  refine AW_forE (S := Nat) (fun k => k ≤ m) (fun k => [(43, .d (.sc (.int .i64 (k : Nat))))]) (fun k => hLn 10 6001 6002 6003 (asP ⟨acc.map rsA, [], []⟩ (s.P.take k))) (fun k => m - k) 0 (by omega) (by (repeat' (first | exact trivial | exact rfl | (refine ⟨Or.inl rfl, ?_⟩) | (refine ⟨Or.inr rfl, ?_⟩) | (refine ⟨Or.inr trivial, ?_⟩) | (refine ⟨rfl, ?_⟩) | (refine ⟨?_, ?_⟩)))) ⟨rfl, rfl, rfl, rfl, trivial⟩ ?_
  intro k hkl
  by_cases hlt : k < m
  · obtain ⟨p, hpk, _⟩ := drop_at (show k < s.P.length by omega)
    obtain ⟨g1, g2⟩ := hg p (List.mem_of_getElem? hpk)
    have hst : asP ⟨acc.map rsA, [], []⟩ (s.P.take (k + 1)) = enterS (asP ⟨acc.map rsA, [], []⟩ (s.P.take k)) p.text p.entries := by rw [take_at hpk, asP_snoc]
    obtain ⟨q1, q2, q3⟩ := asP_keys ⟨acc.map rsA, [], []⟩ (s.P.take k)
    have hkeys : akeys (asP ⟨acc.map rsA, [], []⟩ (s.P.take k)).A = akeys acc := q1.trans (rs_keys acc)
    have hna : (akeys acc).Nodup := (hp.map Prod.fst).nodup_iff.2 hs.nA
    generalize asP ⟨acc.map rsA, [], []⟩ (s.P.take k) = t at hst q1 q2 q3 hkeys ⊢
    have ce := enter_ac t p.text p.entries (by omega) (fun e he => (g2 e he).1) (fun e he => keys_has hkeys (by rw [aget_perm hp hna]; exact (g2 e he).2)) (by rw [hkeys]; exact hna) (by rw [q3, List.length_take]; simp only [List.length_nil]; omega)
    have hP := enter_grows t p.text p.entries
    repeat' (first | ((with_reducible refine gA ?_); (first | refine AW_seq ?_ | refine AW_region ?_ | (refine AW_cond rfl (fun hc => ?_) (fun hc => ?_) <;> try (exfalso; simp only [cmpL] at hc; omega)) | refine AW_block ?_ | refine AW_skip ?_)) | ((with_reducible refine gS ?_); refine Es_s (T := Try.tab) rfl rfl rfl rfl ?_) | (((with_reducible refine gS ?_); apply Es_q); rfl; rfl; (first | (refine LStep_loadEAM (T := Try.tab) (c := ?_) rfl rfl rfl rfl rfl rfl rfl ?_ rfl rfl; rotate_left; assumption) | (refine LStep_indexPart0 (T := Try.tab) rfl rfl rfl rfl rfl rfl rfl rfl ?_; omega))) | (((with_reducible refine gS ?_); apply Es_xg); rfl; rfl; refine LStep_callGN [1002] [(1000, 10), (1001, 6001), (1002, 6002), (1003, 6003)] [] ce rfl rfl ⟨rfl, rfl, rfl, rfl, trivial⟩ rfl ⟨trivial, trivial, hP, trivial, trivial⟩ rfl rfl; rfl) | (((with_reducible refine gS ?_); apply Es_q); rfl; rfl; (refine LStep_add rfl rfl rfl rfl ?_; (refine IntWalk.i64_in _ ?_; first | omega | (simp only [cmps] at *; omega)))) | (refine Es_skip rfl ?_ rfl ?_; (first | rfl | (refine w_tf ?_; assumption) | (refine w_ft ?_; assumption))) | (((with_reducible refine gS ?_); apply Es_xs); rfl; rfl; refine LStep_allocN (T := Try.tab) rfl rfl rfl rfl rfl rfl; rfl) | (((with_reducible refine gS ?_); apply Es_xn); rfl; rfl; (refine LStep_storeN (T := Try.tab) rfl rfl rfl rfl rfl rfl rfl ?_ rfl; (refine Nat.le_of_ble_eq_true ?_; rfl)); rfl) | (with_reducible refine Es_nil ?_) | (with_reducible refine then_n ?_) | (with_reducible refine block_n ?_))
    refine ⟨k + 1, by omega, by omega, by (repeat' (first | exact trivial | exact rfl | (refine ⟨Or.inl rfl, ?_⟩) | (refine ⟨Or.inr rfl, ?_⟩) | (refine ⟨Or.inr trivial, ?_⟩) | (refine ⟨rfl, ?_⟩) | (refine ⟨?_, ?_⟩))), by (repeat' (first | exact trivial | exact rfl | (refine ⟨Or.inl rfl, ?_⟩) | (refine ⟨Or.inr rfl, ?_⟩) | (refine ⟨Or.inr trivial, ?_⟩) | (refine ⟨rfl, ?_⟩) | (refine ⟨?_, ?_⟩))), ?_, by (repeat' (first | exact trivial | exact rfl | (refine ⟨Or.inl rfl, ?_⟩) | (refine ⟨Or.inr rfl, ?_⟩) | (refine ⟨Or.inr trivial, ?_⟩) | (refine ⟨rfl, ?_⟩) | (refine ⟨?_, ?_⟩)))⟩
    rw [hst]; (repeat' (first | exact trivial | exact rfl | (refine ⟨Or.inl rfl, ?_⟩) | (refine ⟨Or.inr rfl, ?_⟩) | (refine ⟨Or.inr trivial, ?_⟩) | (refine ⟨rfl, ?_⟩) | (refine ⟨?_, ?_⟩)))
  have : k = m := by omega
  subst this
  have hq := asP_eqv ht0 (s.P.take k)
  rw [hAs]
  have eH : (asP ⟨acc.map rsA, [], []⟩ (s.P.take k)).H = (asP (as0 s) (s.P.take k)).H := by rw [(asP_keys _ _).2.1, (asP_keys _ _).2.1]; rfl
  generalize asP ⟨acc.map rsA, [], []⟩ (s.P.take k) = t at hq eH ⊢
  generalize asP (as0 s) (s.P.take k) = u at hq eH ⊢
  repeat' (first | ((with_reducible refine gRc ?_); refine AW_toP 6001 (emap k2V aV u.A) rfl (hq.A.map _) ?_) | ((with_reducible refine gA ?_); (first | refine AW_seq ?_ | refine AW_region ?_ | (refine AW_cond rfl (fun hc => ?_) (fun hc => ?_) <;> try (exfalso; simp only [cmpL] at hc; omega)) | refine AW_ret ?_ | refine AW_exit ?_)) | ((with_reducible refine gS ?_); refine Es_s (T := Try.tab) rfl rfl rfl rfl ?_) | (with_reducible refine Es_nil ?_) | (with_reducible refine then_n ?_) | (with_reducible refine then_e ?_) | ((with_reducible refine block_e ?_ ?_); rfl) | ((with_reducible refine gR ?_); first | refine ret1 rfl ?_ | refine ret2 rfl rfl ?_ | refine ret0 ?_ | refine end1 rfl ?_ | refine end0 ?_))
  obtain ⟨tA, tP, tH⟩ := t
  obtain ⟨uA, uP, uH⟩ := u
  obtain ⟨_, e1, _⟩ := hq
  dsimp only at e1 eH
  subst e1
  subst eH
  exact ⟨rfl, rfl, rfl, rfl, rfl, rfl, rfl, rfl, rfl, trivial⟩
end Go.Proofs.Ytbekoielblcbmaa
