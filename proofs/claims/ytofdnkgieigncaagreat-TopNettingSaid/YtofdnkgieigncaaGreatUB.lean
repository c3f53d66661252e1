import Derived.Test.YtofdnkgieigncaaGreatTE
import Derived.Test.YtofdnkgieigncaaGreatTX
import Derived.Test.YtofdnkgieigncaaGreatTp
namespace Go.Proofs.YtofdnkgieigncaaGreat
open Go.SL

/-! ### TopNetting: booked -/
theorem lstep_fitU {P : Program} {T : Tab P} {O : Org} {env : Env} {h : Hp} {o : Oper} {av av' : AV} {Ts : List Nat} (hd : dstOk o.dst O.nt = true) (hs : simp1 T env h o.op = some (av, Ts)) (he : av = av') : LStep P O o env h Ts [] av' [] := he ▸ LStep_simp1 hd hs
def hLU (a b c d : Nat) (s : Led) : Hp := [(a, some (.cells [.mp b, .own c (s.P.map Post.enc).length, .mp d])), (b, some (.map 96 98 (emap k2V aV s.A) none)), (c, some (.arr 121 3 (s.P.map Post.enc))), (d, some (.map 9 299 (emap sV hV s.H) none))]
theorem openU (k j : Nat) (hk : k < 4) (hj : j < 2) : openS ⟨book0.take (2 * k + j), [], []⟩ (P4.getD k uUSD) (C2.getD j uUSD) (-1099511627776) = (⟨book0.take (2 * k + (j + 1)), [], []⟩, 0) :=
  match k, j, hk, hj with
  | 0, 0, _, _ => by kernel_rfl
  | 0, 1, _, _ => by kernel_rfl
  | 1, 0, _, _ => by kernel_rfl
  | 1, 1, _, _ => by kernel_rfl
  | 2, 0, _, _ => by kernel_rfl
  | 2, 1, _, _ => by kernel_rfl
  | 3, 0, _, _ => by kernel_rfl
  | 3, 1, _, _ => by kernel_rfl
theorem P4_at (k : Nat) (hk : k < 4) : ([[.sc (.string ⟨#[97]⟩)], [.sc (.string ⟨#[98]⟩)], [.sc (.string ⟨#[99]⟩)], [.sc (.string ⟨#[100]⟩)]] : List (List D))[((k : Nat) : Int).toNat]? = some [.sc (.string (P4.getD k uUSD))] := by
  have h1 : k = 0 ∨ k = 1 ∨ k = 2 ∨ k = 3 := by omega
  rcases h1 with rfl | rfl | rfl | rfl <;> rfl
theorem C2_at (k : Nat) (hk : k < 2) : ([[.sc (.string ⟨#[85, 83, 68]⟩)], [.sc (.string ⟨#[69, 85, 82]⟩)]] : List (List D))[((k : Nat) : Int).toNat]? = some [.sc (.string (C2.getD k uUSD))] := by
  have h1 : k = 0 ∨ k = 1 := by omega
  rcases h1 with rfl | rfl <;> rfl
set_option maxRecDepth 20000 in
set_option maxHeartbeats 8000000 in
theorem booked_ac (l : List Db) (h : Dbs l) (hs : amtS l ≤ 1099511627776) (hl : l.length ≤ 1000) : AC Tryz.prog 18 [.d (.sl 4 (l.map dbE))] [] [] (fun r h' => r = .ptr 12 0 ∧ SubH (hLU 12 1200 1201 1202 (bookL l)) h') := by
  have n1 := ledgerNew_ac ⟨#[99, 108, 101, 97, 114, 105, 110, 103]⟩
  refine AC_enter Tryz.func18 rfl Tryz.ntmps18 (rv := [.tmp 2]) rfl rfl (by simp) (fun w X G => ?_)
  repeat' (first | ((with_reducible refine gA ?_); (first | refine AW_seq ?_ | refine AW_region ?_ | refine AW_condF rfl ?_ | refine AW_block ?_ | refine AW_skip ?_)) | ((with_reducible refine gS ?_); refine Es_s (T := Tryz.tab) rfl rfl rfl rfl ?_) | (((with_reducible refine gS ?_); apply Es_q); rfl; rfl; refine LStep_eqNilP (T := Tryz.tab) rfl rfl rfl rfl) | (((with_reducible refine gS ?_); apply Es_xg); rfl; rfl; refine LStep_callHN [] [(6, 12), (3, 1200), (2000, 1201), (4, 1202)] n1 rfl rfl trivial rfl trivial rfl rfl; rfl) | (((with_reducible refine gS ?_); apply Es_q); rfl; rfl; (first | refine LStep_wrap (T := Tryz.tab) rfl rfl | (refine LStep_lit (T := Tryz.tab) rfl rfl rfl rfl rfl rfl rfl rfl ?_; (refine Nat.le_of_ble_eq_true ?_; rfl)))) | (with_reducible refine Es_nil ?_) | (with_reducible refine then_n ?_))
  refine AW_forE (S := Nat) (fun k => k ≤ 4) (fun k => [(17, .d (.sc (.int .i64 (k : Nat))))]) (fun k => hLU 12 1200 1201 1202 ⟨book0.take (2 * k), [], []⟩) (fun k => 4 - k) 0 (by omega) (by (repeat' (first | exact trivial | exact rfl | (refine ⟨Or.inl rfl, ?_⟩) | (refine ⟨Or.inr rfl, ?_⟩) | (refine ⟨Or.inr trivial, ?_⟩) | (refine ⟨rfl, ?_⟩) | (refine ⟨?_, ?_⟩)))) (by (repeat' (first | exact trivial | exact rfl | (refine ⟨Or.inl rfl, ?_⟩) | (refine ⟨Or.inr rfl, ?_⟩) | (refine ⟨Or.inr trivial, ?_⟩) | (refine ⟨rfl, ?_⟩) | (refine ⟨?_, ?_⟩)))) ?_
  intro k hk
  by_cases hlt : k < 4
  · have hp := P4_at k hlt
    have hp2 : P4.getD k uUSD = P4.getD k uUSD := rfl
    repeat' (first | ((with_reducible refine gA ?_); (first | refine AW_seq ?_ | refine AW_region ?_ | (refine AW_cond rfl (fun hc => ?_) (fun hc => ?_) <;> try (exfalso; simp only [cmpL] at hc; omega)) | refine AW_block ?_ | refine AW_skip ?_)) | ((with_reducible refine gS ?_); refine Es_s (T := Tryz.tab) rfl rfl rfl rfl ?_) | (((with_reducible refine gS ?_); apply Es_q); rfl; rfl; (refine LStep_index (T := Tryz.tab) (c := ?_) rfl rfl rfl rfl rfl rfl ?_ ?_; rotate_left; omega; exact hp)) | (((with_reducible refine gS ?_); apply Es_q); rfl; rfl; (first | refine LStep_wrap (T := Tryz.tab) rfl rfl | (refine LStep_lit (T := Tryz.tab) rfl rfl rfl rfl rfl rfl rfl rfl ?_; (refine Nat.le_of_ble_eq_true ?_; rfl)))) | (with_reducible refine Es_nil ?_) | (with_reducible refine then_n ?_))
    all_goals simp only [cmps] at *
    all_goals first
      | (exfalso; omega)
      | skip
    refine AW_forE (S := Nat) (fun j => j ≤ 2) (fun j => [(23, .d (.sc (.int .i64 (j : Nat))))]) (fun j => hLU 12 1200 1201 1202 ⟨book0.take (2 * k + j), [], []⟩) (fun j => 2 - j) 0 (by omega) (by (repeat' (first | exact trivial | exact rfl | (refine ⟨Or.inl rfl, ?_⟩) | (refine ⟨Or.inr rfl, ?_⟩) | (refine ⟨Or.inr trivial, ?_⟩) | (refine ⟨rfl, ?_⟩) | (refine ⟨?_, ?_⟩)))) (by (repeat' (first | exact trivial | exact rfl | (refine ⟨Or.inl rfl, ?_⟩) | (refine ⟨Or.inr rfl, ?_⟩) | (refine ⟨Or.inr trivial, ?_⟩) | (refine ⟨rfl, ?_⟩) | (refine ⟨?_, ?_⟩)))) ?_
    intro j hj
    by_cases hjl : j < 2
    · have hc := C2_at j hjl
      have o1 := open_ac ⟨book0.take (2 * k + j), [], []⟩ (P4.getD k uUSD) (C2.getD j uUSD) (-1099511627776) (by simp [book0, P4, C2]; omega)
      rw [openU k j hlt hjl] at o1
      repeat' (first | ((with_reducible refine gA ?_); (first | refine AW_seq ?_ | refine AW_region ?_ | refine AW_condF rfl ?_ | (refine AW_cond rfl (fun hc => ?_) (fun hc => ?_) <;> try (exfalso; simp only [cmpL] at hc; omega)) | refine AW_block ?_ | refine AW_skip ?_)) | (((with_reducible refine gS ?_); apply Es_q); rfl; rfl; refine LStep_neqF rfl rfl rfl rfl rfl) | ((with_reducible refine gS ?_); refine Es_s (T := Tryz.tab) rfl rfl rfl rfl ?_) | (((with_reducible refine gS ?_); apply Es_xg); rfl; rfl; refine LStep_callHN [(1000, 12), (1001, 1200), (1002, 1201), (1003, 1202)] [] o1 rfl rfl ⟨rfl, rfl, rfl, rfl, trivial⟩ rfl ⟨trivial, trivial, rfl, trivial, trivial⟩ rfl rfl; rfl) | (((with_reducible refine gS ?_); apply Es_q); rfl; rfl; (first | (refine LStep_add rfl rfl rfl rfl ?_; (refine IntWalk.i64_in _ ?_; first | omega | (simp only [cmps] at *; omega))) | (refine LStep_index (T := Tryz.tab) (c := ?_) rfl rfl rfl rfl rfl rfl ?_ ?_; rotate_left; omega; (first | assumption | rfl)))) | (with_reducible refine Es_nil ?_) | (with_reducible refine then_n ?_) | (with_reducible refine block_n ?_))
      all_goals simp only [cmps] at *
      all_goals first
        | (exfalso; omega)
        | (refine ⟨j + 1, ?_, by omega, by (repeat' (first | exact trivial | exact rfl | (refine ⟨Or.inl rfl, ?_⟩) | (refine ⟨Or.inr rfl, ?_⟩) | (refine ⟨Or.inr trivial, ?_⟩) | (refine ⟨rfl, ?_⟩) | (refine ⟨?_, ?_⟩))), by (repeat' (first | exact trivial | exact rfl | (refine ⟨Or.inl rfl, ?_⟩) | (refine ⟨Or.inr rfl, ?_⟩) | (refine ⟨Or.inr trivial, ?_⟩) | (refine ⟨rfl, ?_⟩) | (refine ⟨?_, ?_⟩))), by (repeat' (first | exact trivial | exact rfl | (refine ⟨Or.inl rfl, ?_⟩) | (refine ⟨Or.inr rfl, ?_⟩) | (refine ⟨Or.inr trivial, ?_⟩) | (refine ⟨rfl, ?_⟩) | (refine ⟨?_, ?_⟩))), by (repeat' (first | exact trivial | exact rfl | (refine ⟨Or.inl rfl, ?_⟩) | (refine ⟨Or.inr rfl, ?_⟩) | (refine ⟨Or.inr trivial, ?_⟩) | (refine ⟨rfl, ?_⟩) | (refine ⟨?_, ?_⟩)))⟩; omega)
        | trace_state
    · have : j = 2 := by omega
      subst this
      repeat' (first | ((with_reducible refine gA ?_); (first | refine AW_seq ?_ | refine AW_region ?_ | (refine AW_cond rfl (fun hc => ?_) (fun hc => ?_) <;> try (exfalso; simp only [cmpL] at hc; omega)) | refine AW_exit ?_)) | ((with_reducible refine gS ?_); refine Es_s (T := Tryz.tab) rfl rfl rfl rfl ?_) | (((with_reducible refine gS ?_); apply Es_q); rfl; rfl; (refine LStep_add rfl rfl rfl rfl ?_; (refine IntWalk.i64_in _ ?_; first | omega | (simp only [cmps] at *; omega)))) | (with_reducible refine Es_nil ?_) | (with_reducible refine then_n ?_) | (with_reducible refine then_e ?_) | (with_reducible refine block_n ?_) | ((with_reducible refine block_e ?_ ?_); rfl))
      all_goals simp only [cmps] at *
      all_goals first
        | (exfalso; omega)
        | (refine ⟨k + 1, ?_, by omega, by (repeat' (first | exact trivial | exact rfl | (refine ⟨Or.inl rfl, ?_⟩) | (refine ⟨Or.inr rfl, ?_⟩) | (refine ⟨Or.inr trivial, ?_⟩) | (refine ⟨rfl, ?_⟩) | (refine ⟨?_, ?_⟩))), by (repeat' (first | exact trivial | exact rfl | (refine ⟨Or.inl rfl, ?_⟩) | (refine ⟨Or.inr rfl, ?_⟩) | (refine ⟨Or.inr trivial, ?_⟩) | (refine ⟨rfl, ?_⟩) | (refine ⟨?_, ?_⟩))), by (repeat' (first | exact trivial | exact rfl | (refine ⟨Or.inl rfl, ?_⟩) | (refine ⟨Or.inr rfl, ?_⟩) | (refine ⟨Or.inr trivial, ?_⟩) | (refine ⟨rfl, ?_⟩) | (refine ⟨?_, ?_⟩))), by (repeat' (first | exact trivial | exact rfl | (refine ⟨Or.inl rfl, ?_⟩) | (refine ⟨Or.inr rfl, ?_⟩) | (refine ⟨Or.inr trivial, ?_⟩) | (refine ⟨rfl, ?_⟩) | (refine ⟨?_, ?_⟩)))⟩; omega)
        | trace_state
  · have : k = 4 := by omega
    subst this
    repeat' (first | ((with_reducible refine gA ?_); (first | refine AW_seq ?_ | refine AW_region ?_ | (refine AW_cond rfl (fun hc => ?_) (fun hc => ?_) <;> try (exfalso; simp only [cmpL] at hc; omega)) | refine AW_block ?_ | refine AW_exit ?_)) | ((with_reducible refine gS ?_); refine Es_s (T := Tryz.tab) rfl rfl rfl rfl ?_) | (((with_reducible refine gS ?_); apply Es_q); rfl; rfl; refine LStep_lenM (T := Tryz.tab) rfl rfl rfl rfl) | (with_reducible refine Es_nil ?_) | (with_reducible refine then_n ?_) | (with_reducible refine then_e ?_) | ((with_reducible refine block_e ?_ ?_); rfl))
    all_goals simp only [cmps] at *
    all_goals first
      | (exfalso; omega)
      | skip
    refine AW_forE (S := Nat × Led) (fun t => t.1 ≤ l.length ∧ t.2 = bookL (l.take t.1)) (fun t => [(36, .d (.sc (.int .i64 (t.1 : Nat))))]) (fun t => hLU 12 1200 1201 1202 t.2) (fun t => l.length - t.1) (0, ⟨book0, [], []⟩) ⟨by simp, rfl⟩ (by (repeat' (first | exact trivial | exact rfl | (refine ⟨Or.inl rfl, ?_⟩) | (refine ⟨Or.inr rfl, ?_⟩) | (refine ⟨Or.inr trivial, ?_⟩) | (refine ⟨rfl, ?_⟩) | (refine ⟨?_, ?_⟩)))) (by (repeat' (first | exact trivial | exact rfl | (refine ⟨Or.inl rfl, ?_⟩) | (refine ⟨Or.inr rfl, ?_⟩) | (refine ⟨Or.inr trivial, ?_⟩) | (refine ⟨rfl, ?_⟩) | (refine ⟨?_, ?_⟩)))) ?_
    rintro ⟨k, s0⟩ ⟨hk, hs0⟩
    dsimp only at hk hs0 ⊢
    by_cases hlt : k < l.length
    · obtain ⟨d, hd, _⟩ := drop_at hlt
      have hdm := List.mem_of_getElem? hd
      have hb := booked_of (l.take k) ⟨List.all_eq_true.2 (fun x hx => all_may h.may x (List.mem_of_mem_take hx)), fun x hx => h.par x (List.mem_of_mem_take hx)⟩
      have hpos := fun k => amtS_pos (l := l) (fun x hx => by have := (h.one hx).2; omega) k
      have p1 := hpos k
      have p2 := hpos (k + 1)
      rw [amtS_take hd] at p2
      have hb := hb (by omega)
      have hne := h.one hdm
      have hbk := bookL_take hd
      rw [← hs0] at hb hbk
      have e0 := hb.post p1.1 hne (h.par d hdm) (by omega) (by rw [List.length_take]; omega)
      have cp := postOk_ac s0 tDebt (payX (d.1.2.1, d.1.1) (d.1.2.2, d.1.1) d.2) hb.flat.nd e0
      have hg := enter_grows s0 tDebt (payX (d.1.2.1, d.1.1) (d.1.2.2, d.1.1) d.2)
      have hneg : AV.d (.sc (.int .i64 (wrp .i64 (0 - d.2)))) = .d (.sc (.int .i64 (-d.2))) := by rw [wrp_fit (by omega), Int.zero_sub]
      have e1 : enterS s0 tDebt (payX (d.1.2.1, d.1.1) (d.1.2.2, d.1.1) d.2) = bookL (l.take (k + 1)) := hbk.symm
      generalize enterS s0 tDebt (payX (d.1.2.1, d.1.1) (d.1.2.2, d.1.1) d.2) = s1 at *
      clear e0 hb hpos
      repeat' (first | ((with_reducible refine gA ?_); (first | refine AW_seq ?_ | refine AW_region ?_ | refine AW_condF rfl ?_ | (refine AW_cond rfl (fun hc => ?_) (fun hc => ?_) <;> try (exfalso; simp only [cmpL] at hc; omega)) | refine AW_block ?_ | refine AW_skip ?_)) | (((with_reducible refine gS ?_); apply Es_q); rfl; rfl; (first | refine lstep_fitU (T := Tryz.tab) rfl rfl hneg | refine LStep_neqF rfl rfl rfl rfl rfl)) | ((with_reducible refine gS ?_); refine Es_s (T := Tryz.tab) rfl rfl rfl rfl ?_) | (((with_reducible refine gS ?_); apply Es_xg); rfl; rfl; refine LStep_callGN [1002] [(1000, 12), (1001, 1200), (1002, 1201), (1003, 1202)] [] cp rfl rfl ⟨rfl, rfl, rfl, rfl, trivial⟩ rfl ⟨trivial, trivial, hg, trivial, trivial⟩ rfl rfl; rfl) | (((with_reducible refine gS ?_); apply Es_q); rfl; rfl; (first | (refine LStep_add rfl rfl rfl rfl ?_; (refine IntWalk.i64_in _ ?_; first | omega | (simp only [cmps] at *; omega))) | (refine LStep_indexM (T := Tryz.tab) (c := ?_) rfl rfl rfl rfl rfl rfl ?_; rotate_left; assumption) | (refine LStep_lit (T := Tryz.tab) rfl rfl rfl rfl rfl rfl rfl rfl ?_; (refine Nat.le_of_ble_eq_true ?_; rfl)) | refine LStep_buildN (T := Tryz.tab) rfl rfl rfl rfl rfl rfl rfl)) | (refine Es_skip rfl ?_ rfl ?_; (first | rfl | (refine w_tf ?_; assumption) | (refine w_ft ?_; assumption))) | (((with_reducible refine gS ?_); apply Es_xs); rfl; rfl; refine LStep_allocN (T := Tryz.tab) rfl rfl rfl rfl rfl rfl; rfl) | (((with_reducible refine gS ?_); apply Es_xn); rfl; rfl; (refine LStep_storeN (T := Tryz.tab) rfl rfl rfl rfl rfl rfl rfl ?_ rfl; (refine Nat.le_of_ble_eq_true ?_; rfl)); rfl) | (with_reducible refine Es_nil ?_) | (with_reducible refine then_n ?_) | (with_reducible refine block_n ?_))
      all_goals simp only [cmps] at *
      all_goals first
        | (exfalso; omega)
        | (refine ⟨(k + 1, s1), ?_, by omega, by (repeat' (first | exact trivial | exact rfl | (refine ⟨Or.inl rfl, ?_⟩) | (refine ⟨Or.inr rfl, ?_⟩) | (refine ⟨Or.inr trivial, ?_⟩) | (refine ⟨rfl, ?_⟩) | (refine ⟨?_, ?_⟩))), by (repeat' (first | exact trivial | exact rfl | (refine ⟨Or.inl rfl, ?_⟩) | (refine ⟨Or.inr rfl, ?_⟩) | (refine ⟨Or.inr trivial, ?_⟩) | (refine ⟨rfl, ?_⟩) | (refine ⟨?_, ?_⟩))), by (repeat' (first | exact trivial | exact rfl | (refine ⟨Or.inl rfl, ?_⟩) | (refine ⟨Or.inr rfl, ?_⟩) | (refine ⟨Or.inr trivial, ?_⟩) | (refine ⟨rfl, ?_⟩) | (refine ⟨?_, ?_⟩))), by (repeat' (first | exact trivial | exact rfl | (refine ⟨Or.inl rfl, ?_⟩) | (refine ⟨Or.inr rfl, ?_⟩) | (refine ⟨Or.inr trivial, ?_⟩) | (refine ⟨rfl, ?_⟩) | (refine ⟨?_, ?_⟩)))⟩; exact ⟨by omega, e1⟩)
        | trace_state
    · have : k = l.length := by omega
      subst this
      rw [List.take_length] at hs0
      rw [← hs0]
      repeat' (first | ((with_reducible refine gA ?_); (first | refine AW_seq ?_ | refine AW_region ?_ | (refine AW_cond rfl (fun hc => ?_) (fun hc => ?_) <;> try (exfalso; simp only [cmpL] at hc; omega)) | refine AW_ret ?_ | refine AW_exit ?_)) | ((with_reducible refine gS ?_); refine Es_s (T := Tryz.tab) rfl rfl rfl rfl ?_) | (with_reducible refine Es_nil ?_) | (with_reducible refine then_n ?_) | (with_reducible refine then_e ?_) | ((with_reducible refine block_e ?_ ?_); rfl) | ((with_reducible refine gR ?_); first | refine ret1 rfl ?_ | refine ret2 rfl rfl ?_ | refine ret0 ?_ | refine end1 rfl ?_ | refine end0 ?_))
      all_goals simp only [cmps] at *
      all_goals first
        | (exfalso; omega)
        | exact ⟨rfl, rfl, rfl, rfl, rfl, trivial⟩
        | trace_state
end Go.Proofs.YtofdnkgieigncaaGreat
