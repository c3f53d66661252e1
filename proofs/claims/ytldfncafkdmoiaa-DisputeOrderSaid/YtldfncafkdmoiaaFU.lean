import Derived.Test.YtldfncafkdmoiaaFT
namespace Go.Proofs.Ytldfncafkdmoiaa
open Go.SL Go.ChangeShapes Go.WideShapes Go.ChangeAt Go.RowKit
def strS : List CS := [.str]
theorem argK_str : argK Try.tab 9 = some (false, strS) := by kernel_rfl
theorem str_of {x : AV} (h : OkArg (false, strS) x) : ∃ s : ByteArray, x = .d (.sc (.string s)) ∧ s.size ≤ 140737488351232 := by
  obtain ⟨d, rfl, h⟩ := h
  obtain ⟨s, rfl, hs⟩ := h.str_inv
  exact ⟨s, rfl, hs⟩
/-! ### DisputeOrder -/
theorem ofT_self (l : List Cl) (t : ByteArray) : ofT (ofT l t) t = ofT l t := by
  unfold ofT; rw [List.filter_filter]; simp
theorem only_has {l : List Cl} {a : Aw} (h : a ∈ awardL l) : a ∈ awardL (ofT l a.1) := by
  obtain ⟨b, h1, h2⟩ := award_get.1 h
  exact award_get.2 ⟨b, by rw [ofT_self]; exact h1, h2⟩
theorem only_th {l : List Cl} {t : ByteArray} {a : Aw} (h : a ∈ awardL (ofT l t)) : a.1 = t := by
  obtain ⟨b, h1, _⟩ := award_get.1 h
  have k1 := (((bestC_spec _).2 b).1 h1).1
  have m1 := mem_ofT.1 k1
  rw [← m1.2]
  exact (mem_ofT.1 m1.1).2
theorem only_one (l : List Cl) (t : ByteArray) : (awardL (ofT l t)).length ≤ 1 := by
  have h := award_strict (ofT l t)
  have h2 := fun a => only_th (l := l) (t := t) (a := a)
  unfold strictA at h
  generalize awardL (ofT l t) = C at *
  match C, h, h2 with
  | [], _, _ => simp
  | [_], _, _ => simp
  | a :: b :: C, h, h2 =>
    have h3 := (List.pairwise_cons.1 h).1 b List.mem_cons_self
    rw [h2 a List.mem_cons_self, h2 b (List.mem_cons_of_mem _ List.mem_cons_self), lts_irrefl] at h3
    cases h3
theorem only_is {l : List Cl} {a : Aw} (h : a ∈ awardL l) : awardL (ofT l a.1) = [a] := by
  have h1 := only_has h
  have h2 := only_one l a.1
  generalize awardL (ofT l a.1) = C at *
  match C, h1, h2 with
  | [c], h1, _ => rw [List.mem_singleton.1 h1]
  | _ :: _ :: _, _, h2 => exact absurd h2 (by simp)
theorem ofT_take {l : List Cl} {k : Nat} {x : Cl} (t : ByteArray) (h : l[k]? = some x) : ofT (l.take (k + 1)) t = ofT (l.take k) t ++ (if x.th = t then [x] else []) := by
  unfold ofT
  rw [take_at h, List.filter_append]
  congr 1
  unfold onT
  by_cases e : x.th = t
  · rw [if_pos e]; simp [e]
  · rw [if_neg e]; simp [e]
/-- what an award answers -/
def awR (l : List Cl) : AV := if l.all mayC = true then .tup [.d (.sl 2 ((awardL l).map awE)), .d (.sc (.int .i64 0))] else .tup [.d (.sc (.slice none 0 0)), .d (.sc (.int .i64 1))]
theorem awR_ac (l : List Cl) (hl : l.length ≤ 4096) : AC Try.prog 22 [.d (.sl 5 (l.map Cl.enc))] [] [] (fun r _ => r = awR l) := by
  unfold awR
  cases h : l.all mayC with
  | true => exact award_ac l hl h
  | false => exact awardNo_ac l hl h
set_option maxRecDepth 10000 in
set_option maxHeartbeats 16000000 in
theorem lorder_ac (l : List Cl) (turn : Int) (th : ByteArray) (hl : l.length ≤ 140737488351232) (hs : ∀ c ∈ l, c.In) : AC Try.prog 7 [.d (.sl 5 (l.map Cl.enc)), .d (.sc (.int .i64 turn)), .d (.sc (.string th))] [] [] (fun r _ => r = .d (.sc (.bool true))) := by
  have cf := rfew_ac l hl hs
  by_cases hgo : fewCl l = true ∧ 0 ≤ turn ∧ turn ≤ (l.length : Nat) ∧ l.length ≤ 20
  · obtain ⟨hf, h0, h1, h20⟩ := hgo
    obtain ⟨k, rfl⟩ : ∃ k : Nat, turn = (k : Int) := ⟨turn.toNat, by omega⟩
    have hk : k ≤ l.length := by omega
    rw [hf] at cf
    have g1 : ltb ((k : Nat) : Int) 0 = false := by rw [ltb_f]; omega
    have g2 : ltb (l.length : Nat) ((k : Nat) : Int) = false := by rw [ltb_f]; omega
    have g3 : ltb 20 ((l.length : Nat) : Int) = false := by rw [ltb_f]; omega
    have cA := awR_ac l (by omega)
    have hb1 : ((l.take ((l.length : Nat) : Int).toNat).drop ((k : Nat) : Int).toNat).length ≤ 20 := by simp; omega
    have hb2 : ((l.take ((k : Nat) : Int).toNat).drop (0 : Int).toNat).length ≤ 20 := by simp; omega
    have cB := awR_ac ((l.take ((l.length : Nat) : Int).toNat).drop ((k : Nat) : Int).toNat ++ ((l.take ((k : Nat) : Int).toNat).drop (0 : Int).toNat ++ l)) (by rw [List.length_append, List.length_append]; omega)
    have hset : ∀ x, x ∈ (l.take ((l.length : Nat) : Int).toNat).drop ((k : Nat) : Int).toNat ++ ((l.take ((k : Nat) : Int).toNat).drop (0 : Int).toNat ++ l) ↔ x ∈ l := fun x => by
      simp only [List.mem_append]
      constructor
      · rintro (h | h | h)
        · exact List.mem_of_mem_take (List.mem_of_mem_drop h)
        · exact List.mem_of_mem_take (List.mem_of_mem_drop h)
        · exact h
      · exact fun h => .inr (.inr h)
    have eM : ((l.take ((l.length : Nat) : Int).toNat).drop ((k : Nat) : Int).toNat ++ ((l.take ((k : Nat) : Int).toNat).drop (0 : Int).toNat ++ l)).map Cl.enc = [] ++ ((l.take ((l.length : Nat) : Int).toNat).drop ((k : Nat) : Int).toNat).map Cl.enc ++ ((l.take ((k : Nat) : Int).toNat).drop (0 : Int).toNat).map Cl.enc ++ l.map Cl.enc := by simp
    have hawB : awR ((l.take ((l.length : Nat) : Int).toNat).drop ((k : Nat) : Int).toNat ++ ((l.take ((k : Nat) : Int).toNat).drop (0 : Int).toNat ++ l)) = awR l := by
      have e1 := award_set (l := (l.take ((l.length : Nat) : Int).toNat).drop ((k : Nat) : Int).toNat ++ ((l.take ((k : Nat) : Int).toNat).drop (0 : Int).toNat ++ l)) (m := l) hset
      have e2 : ((l.take ((l.length : Nat) : Int).toNat).drop ((k : Nat) : Int).toNat ++ ((l.take ((k : Nat) : Int).toNat).drop (0 : Int).toNat ++ l)).all mayC = l.all mayC := by
        rw [Bool.eq_iff_iff, List.all_eq_true, List.all_eq_true]
        exact ⟨fun h x hx => h x ((hset x).2 hx), fun h x hx => h x ((hset x).1 hx)⟩
      unfold awR
      rw [e1, e2]
    rw [eM, hawB, show ((l.length : Nat) : Int) = (((l.map Cl.enc).length : Nat) : Int) by rw [List.length_map]] at cB
    clear hset eM hawB
    have hol : (ofT l th).length ≤ 20 := by
      have : (ofT l th).length ≤ l.length := List.length_filter_le _ _
      omega
    have cC := awR_ac (ofT l th) (by omega)
    refine AC_enter Try.func7 rfl Try.ntmps7 (rv := [.tmp 6]) rfl rfl (by simp) (fun w X G => ?_)
    repeat' (first | ((with_reducible refine gA ?_); (first | refine AW_seq ?_ | refine AW_region ?_ | refine AW_regionD Try.mixed ?_ | refine AW_condF rfl ?_ | (refine AW_condN rfl ?_ ?_; assumption) | refine AW_block ?_ | refine AW_skip ?_)) | (first | ((with_reducible refine gS ?_); refine Es_s (T := Try.tab) rfl rfl rfl rfl ?_) | ((with_reducible refine gD ?_); refine Ed_s (T := Try.tab) rfl rfl rfl rfl ?_)) | ((first | ((with_reducible refine gS ?_); apply Es_q) | ((with_reducible refine gD ?_); apply Ed_q)); rfl; (first | rfl | (refine w_ff ?_; assumption)); (first | refine LStep_call (awake_ac) rfl rfl rfl rfl | refine LStep_call (cf) rfl rfl rfl rfl)) | ((first | ((with_reducible refine gS ?_); apply Es_xs) | ((with_reducible refine gD ?_); apply Ed_xs)); rfl; (first | rfl | (refine w_ff ?_; assumption)); (first | (refine LStep_litOwn (T := Try.tab) (len := 0) rfl rfl rfl rfl rfl rfl rfl rfl rfl rfl ?_ ?_; (refine Nat.le_of_ble_eq_true ?_; rfl); (unfold maxLen; omega)) | (refine LStep_appendD (T := Try.tab) (dst := 47) 37 rfl rfl rfl rfl rfl rfl rfl rfl rfl rfl rfl ?_ ?_ ?_; rfl; (simp only [List.length_map, List.length_nil, List.length_cons, List.length_append]; omega); (unfold maxLen; simp only [List.length_map, List.length_nil, List.length_cons, List.length_append]; omega)) | (refine LStep_append (T := Try.tab) rfl rfl rfl rfl rfl rfl rfl rfl rfl rfl ?_ ?_ ?_; rfl; (simp only [List.length_map, List.length_nil, List.length_cons, List.length_append]; omega); (unfold maxLen; simp only [List.length_map, List.length_nil, List.length_cons, List.length_append]; omega))); rfl) | ((first | ((with_reducible refine gS ?_); apply Es_q) | ((with_reducible refine gD ?_); apply Ed_q)); rfl; (first | rfl | (refine w_ff ?_; assumption)); (first | refine LStep_simp (T := Try.tab) rfl rfl | refine LStep_lenM (T := Try.tab) rfl rfl rfl rfl | (refine LStep_pickF rfl rfl ?_ rfl rfl; assumption) | (refine LStep_partM (T := Try.tab) rfl rfl rfl rfl rfl rfl rfl ?_ ?_ ?_; omega; (first | omega | (simp only [List.length_map]; omega)); (first | omega | (simp only [List.length_map]; omega))))) | (with_reducible refine Es_nil ?_) | ((with_reducible refine Ed_nil ?_ ?_); kernel_rfl) | (with_reducible refine then_n ?_))
    refine AW_openNil (t := 8) (id := 2000) (e := 23) (sz := 5) rfl rfl rfl rfl ?_
    refine AW_forE (S := Nat) (fun j => j ≤ l.length) (fun j => [(9, .d (.sc (.int .i64 (j : Nat)))), (8, .own 2000 ((ofT (l.take j) th).map Cl.enc).length)]) (fun j => [(2000, some (.arr 23 5 ((ofT (l.take j) th).map Cl.enc)))]) (fun j => l.length - j) 0 (by omega) (by (repeat' (first | exact trivial | exact rfl | (refine ⟨Or.inl rfl, ?_⟩) | (refine ⟨Or.inr rfl, ?_⟩) | (refine ⟨Or.inr trivial, ?_⟩) | (refine ⟨rfl, ?_⟩) | (refine ⟨?_, ?_⟩)))) (by (repeat' (first | exact trivial | exact rfl | (refine ⟨Or.inl rfl, ?_⟩) | (refine ⟨Or.inr rfl, ?_⟩) | (refine ⟨Or.inr trivial, ?_⟩) | (refine ⟨rfl, ?_⟩) | (refine ⟨?_, ?_⟩)))) ?_
    intro j hj
    by_cases hjl : j < l.length
    · obtain ⟨x, hx, _⟩ := drop_at hjl
      have g4 : ltb (j : Nat) (l.length : Nat) = true := by rw [ltb_t]; omega
      have hst := ofT_take th hx
      have hlen : (ofT (l.take j) th).length ≤ 20 := by
        have h1 : (ofT (l.take j) th).length ≤ (l.take j).length := List.length_filter_le _ _
        rw [List.length_take] at h1
        omega
      generalize hO' : ofT (l.take (j + 1)) th = O' at *
      generalize ofT (l.take j) th = O at *
      clear cA cB cC cf
      by_cases he : x.th = th
      · rw [if_pos he] at hst
        have g5 : eqs x.th th = true := eqs_t.2 he
        have e3 : O'.map Cl.enc = O.map Cl.enc ++ [x.enc] := by rw [hst, List.map_append]; rfl
        repeat' (first | ((with_reducible refine gA ?_); (first | refine AW_seq ?_ | refine AW_region ?_ | (refine AW_condY rfl ?_ ?_; assumption) | refine AW_block ?_ | refine AW_skip ?_)) | ((with_reducible refine gS ?_); refine Es_s (T := Try.tab) rfl rfl rfl rfl ?_) | (((with_reducible refine gS ?_); apply Es_xs); rfl; rfl; (refine LStep_append (T := Try.tab) rfl rfl rfl rfl rfl rfl rfl rfl rfl rfl ?_ ?_ ?_; rfl; (simp only [List.length_map, List.length_cons, List.length_nil]; omega); (unfold maxLen; simp only [List.length_map, List.length_cons, List.length_nil]; omega)); rfl) | (((with_reducible refine gS ?_); apply Es_q); rfl; rfl; (first | refine LStep_lenM (T := Try.tab) rfl rfl rfl rfl | (refine LStep_add rfl rfl rfl rfl ?_; (refine IntWalk.i64_in _ ?_; first | omega | (simp only [cmps] at *; omega))) | (refine LStep_indexM (T := Try.tab) (c := ?_) rfl rfl rfl rfl rfl rfl ?_; rotate_left; assumption) | (refine LStep_lit (T := Try.tab) rfl rfl rfl rfl rfl rfl rfl rfl ?_; (refine Nat.le_of_ble_eq_true ?_; rfl)))) | (with_reducible refine Es_nil ?_) | (with_reducible refine then_n ?_) | (with_reducible refine block_n ?_))
        all_goals first
          | (refine ⟨j + 1, by omega, by omega, ?_, by (repeat' (first | exact trivial | exact rfl | (refine ⟨Or.inl rfl, ?_⟩) | (refine ⟨Or.inr rfl, ?_⟩) | (refine ⟨Or.inr trivial, ?_⟩) | (refine ⟨rfl, ?_⟩) | (refine ⟨?_, ?_⟩))), ?_, by (repeat' (first | exact trivial | exact rfl | (refine ⟨Or.inl rfl, ?_⟩) | (refine ⟨Or.inr rfl, ?_⟩) | (refine ⟨Or.inr trivial, ?_⟩) | (refine ⟨rfl, ?_⟩) | (refine ⟨?_, ?_⟩)))⟩
             · rw [hO', e3]; (repeat' (first | exact trivial | exact rfl | (refine ⟨Or.inl rfl, ?_⟩) | (refine ⟨Or.inr rfl, ?_⟩) | (refine ⟨Or.inr trivial, ?_⟩) | (refine ⟨rfl, ?_⟩) | (refine ⟨?_, ?_⟩)))
             · rw [hO', e3]; (repeat' (first | exact trivial | exact rfl | (refine ⟨Or.inl rfl, ?_⟩) | (refine ⟨Or.inr rfl, ?_⟩) | (refine ⟨Or.inr trivial, ?_⟩) | (refine ⟨rfl, ?_⟩) | (refine ⟨?_, ?_⟩))))
          | trace_state
      · rw [if_neg he, List.append_nil] at hst
        have g5 : eqs x.th th = false := by
          cases e : eqs x.th th with
          | false => rfl
          | true => exact absurd (eqs_t.1 e) he
        repeat' (first | ((with_reducible refine gA ?_); (first | refine AW_seq ?_ | refine AW_region ?_ | (refine AW_condY rfl ?_ ?_; assumption) | (refine AW_condN rfl ?_ ?_; assumption) | refine AW_block ?_ | refine AW_skip ?_)) | ((with_reducible refine gS ?_); refine Es_s (T := Try.tab) rfl rfl rfl rfl ?_) | (((with_reducible refine gS ?_); apply Es_q); rfl; rfl; (first | refine LStep_lenM (T := Try.tab) rfl rfl rfl rfl | (refine LStep_add rfl rfl rfl rfl ?_; (refine IntWalk.i64_in _ ?_; first | omega | (simp only [cmps] at *; omega))) | (refine LStep_indexM (T := Try.tab) (c := ?_) rfl rfl rfl rfl rfl rfl ?_; rotate_left; assumption))) | (with_reducible refine Es_nil ?_) | (with_reducible refine then_n ?_) | (with_reducible refine block_n ?_))
        all_goals first
          | (refine ⟨j + 1, by omega, by omega, ?_, by (repeat' (first | exact trivial | exact rfl | (refine ⟨Or.inl rfl, ?_⟩) | (refine ⟨Or.inr rfl, ?_⟩) | (refine ⟨Or.inr trivial, ?_⟩) | (refine ⟨rfl, ?_⟩) | (refine ⟨?_, ?_⟩))), ?_, by (repeat' (first | exact trivial | exact rfl | (refine ⟨Or.inl rfl, ?_⟩) | (refine ⟨Or.inr rfl, ?_⟩) | (refine ⟨Or.inr trivial, ?_⟩) | (refine ⟨rfl, ?_⟩) | (refine ⟨?_, ?_⟩)))⟩
             · rw [hO', hst]; (repeat' (first | exact trivial | exact rfl | (refine ⟨Or.inl rfl, ?_⟩) | (refine ⟨Or.inr rfl, ?_⟩) | (refine ⟨Or.inr trivial, ?_⟩) | (refine ⟨rfl, ?_⟩) | (refine ⟨?_, ?_⟩)))
             · rw [hO', hst]; (repeat' (first | exact trivial | exact rfl | (refine ⟨Or.inl rfl, ?_⟩) | (refine ⟨Or.inr rfl, ?_⟩) | (refine ⟨Or.inr trivial, ?_⟩) | (refine ⟨rfl, ?_⟩) | (refine ⟨?_, ?_⟩))))
          | trace_state
    have : j = l.length := by omega
    subst this
    have g4 : ltb (l.length : Nat) (l.length : Nat) = false := by rw [ltb_f]; omega
    rw [List.take_length]
    refine AW_freeze [8] (id := 2000) ⟨rfl, trivial⟩ rfl rfl ?_
    cases hm : l.all mayC with
    | false =>
      have eA : awR l = .tup [.d (.sc (.slice none 0 0)), .d (.sc (.int .i64 1))] := by unfold awR; rw [if_neg (by rw [hm]; decide)]
      rw [eA] at cA cB
      have hC : ∃ y z, awR (ofT l th) = .tup [.d y, .d z] := by
        unfold awR
        split
        · exact ⟨_, _, rfl⟩
        · exact ⟨_, _, rfl⟩
      obtain ⟨y, z, eC⟩ := hC
      rw [eC] at cC
      repeat' (first | ((with_reducible refine gA ?_); (first | refine AW_seq ?_ | refine AW_region ?_ | (refine AW_condN rfl ?_ ?_; assumption) | (refine AW_cond rfl (fun hc => ?_) (fun hc => ?_) <;> try (exfalso; simp only [cmpL] at hc; omega)) | refine AW_ret ?_ | refine AW_exit ?_)) | ((with_reducible refine gS ?_); refine Es_s (T := Try.tab) rfl rfl rfl rfl ?_) | (((with_reducible refine gS ?_); apply Es_q); rfl; rfl; (first | refine LStep_call (cA) rfl rfl rfl rfl | refine LStep_call (cB) rfl rfl rfl rfl | refine LStep_call (cC) rfl rfl rfl rfl)) | (((with_reducible refine gS ?_); apply Es_q); rfl; rfl; (first | refine LStep_lenM (T := Try.tab) rfl rfl rfl rfl | refine LStep_wrap (T := Try.tab) rfl rfl)) | (with_reducible refine Es_nil ?_) | (with_reducible refine then_n ?_) | (with_reducible refine then_r ?_) | (with_reducible refine then_e ?_) | ((with_reducible refine block_e ?_ ?_); rfl) | ((with_reducible refine gR ?_); first | refine ret1 rfl ?_ | refine ret2 rfl rfl ?_ | refine ret0 ?_ | refine end1 rfl ?_ | refine end0 ?_))
      all_goals first
        | rfl
        | (rw [eqb_t.2 rfl]; done)
        | trace_state
    | true =>
      have eA : awR l = .tup [.d (.sl 2 ((awardL l).map awE)), .d (.sc (.int .i64 0))] := if_pos hm
      have eC : awR (ofT l th) = .tup [.d (.sl 2 ((awardL (ofT l th)).map awE)), .d (.sc (.int .i64 0))] := if_pos (List.all_eq_true.2 fun x hx => List.all_eq_true.1 hm x (List.mem_filter.1 hx).1)
      rw [eA] at cA cB
      rw [eC] at cC
      have hAl := awardL_len l (by omega)
      have cS := awards_ac (awardL l) (awardL l) (by omega) (by omega)
      rw [decide_eq_true rfl] at cS
      have h1C := only_one l th
      have hC : ∀ a ∈ awardL l, a.1 = th → awardL (ofT l th) = [a] := fun a ha e => by rw [← e]; exact only_is ha
      have g6 : ltb 1 ((awardL (ofT l th)).length : Nat) = false := by rw [ltb_f]; omega
      clear eA eC
      generalize awardL (ofT l th) = C at *
      generalize awardL l = A at *
      repeat' (first | ((with_reducible refine gA ?_); (first | refine AW_seq ?_ | refine AW_region ?_ | (refine AW_condN rfl ?_ ?_; assumption) | (refine AW_cond rfl (fun hc => ?_) (fun hc => ?_) <;> try (exfalso; simp only [cmpL] at hc; omega)) | refine AW_block ?_ | refine AW_skip ?_ | refine AW_exit ?_)) | ((with_reducible refine gS ?_); refine Es_s (T := Try.tab) rfl rfl rfl rfl ?_) | (((with_reducible refine gS ?_); apply Es_q); rfl; (first | rfl | (refine w_ff ?_; assumption)); (first | refine LStep_call (cA) rfl rfl rfl rfl | refine LStep_call (cB) rfl rfl rfl rfl | refine LStep_call (cC) rfl rfl rfl rfl | refine LStep_call (cS) rfl rfl rfl rfl)) | (((with_reducible refine gS ?_); apply Es_q); rfl; (first | rfl | (refine w_ff ?_; assumption)); (first | refine LStep_simp (T := Try.tab) rfl rfl | refine LStep_lenM (T := Try.tab) rfl rfl rfl rfl | (refine LStep_pickF rfl rfl ?_ rfl rfl; assumption))) | (with_reducible refine Es_nil ?_) | (with_reducible refine then_n ?_) | (with_reducible refine then_e ?_) | ((with_reducible refine block_e ?_ ?_); rfl))
      refine AW_forE (S := Nat) (fun i => i ≤ A.length) (fun i => [(16, .d (.sc (.int .i64 (i : Nat))))]) (fun _ => []) (fun i => A.length - i) 0 (by omega) (by (repeat' (first | exact trivial | exact rfl | (refine ⟨Or.inl rfl, ?_⟩) | (refine ⟨Or.inr rfl, ?_⟩) | (refine ⟨Or.inr trivial, ?_⟩) | (refine ⟨rfl, ?_⟩) | (refine ⟨?_, ?_⟩)))) (by (repeat' (first | exact trivial | exact rfl | (refine ⟨Or.inl rfl, ?_⟩) | (refine ⟨Or.inr rfl, ?_⟩) | (refine ⟨Or.inr trivial, ?_⟩) | (refine ⟨rfl, ?_⟩) | (refine ⟨?_, ?_⟩)))) ?_
      intro i hi
      by_cases hlt : i < A.length
      · obtain ⟨a, ha, _⟩ := drop_at hlt
        have g7 : ltb (i : Nat) (A.length : Nat) = true := by rw [ltb_t]; omega
        by_cases he : a.1 = th
        · have hCe := hC a (List.mem_of_getElem? ha) he
          subst hCe
          have g8 : eqs a.1 th = true := eqs_t.2 he
          have g9 : (!(awB a a)) = false := by rw [awB_eq, decide_eq_true rfl]; rfl
          have g10 : (!(eqb ((([a] : List Aw).length : Nat) : Int) 1)) = false := by rw [show eqb ((([a] : List Aw).length : Nat) : Int) 1 = true from eqb_t.2 rfl]; rfl
          repeat' (first | ((with_reducible refine gA ?_); (first | refine AW_seq ?_ | refine AW_region ?_ | refine AW_regionD Try.mixed ?_ | (refine AW_condY rfl ?_ ?_; assumption) | (refine AW_condN rfl ?_ ?_; assumption) | refine AW_block ?_ | refine AW_skip ?_)) | (first | ((with_reducible refine gS ?_); refine Es_s (T := Try.tab) rfl rfl rfl rfl ?_) | ((with_reducible refine gD ?_); refine Ed_s (T := Try.tab) rfl rfl rfl rfl ?_)) | ((first | ((with_reducible refine gS ?_); apply Es_q) | ((with_reducible refine gD ?_); apply Ed_q)); rfl; (first | rfl | (refine w_tt ?_; assumption) | (refine w_ff ?_; assumption)); refine LStep_neqAgg (T := Try.tab) eqS_aw eqG_aw (by omega) rfl rfl rfl rfl rfl rfl) | ((first | ((with_reducible refine gS ?_); apply Es_q) | ((with_reducible refine gD ?_); apply Ed_q)); rfl; (first | rfl | (refine w_tt ?_; assumption) | (refine w_ff ?_; assumption)); (first | refine LStep_simp (T := Try.tab) rfl rfl | refine LStep_lenM (T := Try.tab) rfl rfl rfl rfl | (refine LStep_add rfl rfl rfl rfl ?_; (refine IntWalk.i64_in _ ?_; first | omega | (simp only [cmps] at *; omega))) | (refine LStep_pickT rfl rfl ?_ rfl rfl; assumption) | (refine LStep_pickF rfl rfl ?_ rfl rfl; assumption) | (refine LStep_indexM (T := Try.tab) (c := ?_) rfl rfl rfl rfl rfl rfl ?_; rotate_left; assumption) | (refine LStep_index (T := Try.tab) (c := ?_) rfl rfl rfl rfl rfl rfl ?_ ?_; rotate_left; omega; (first | assumption | rfl)))) | (with_reducible refine Es_nil ?_) | ((with_reducible refine Ed_nil ?_ ?_); kernel_rfl) | (with_reducible refine then_n ?_) | (with_reducible refine block_n ?_))
          all_goals first
            | (refine ⟨i + 1, by omega, by omega, by (repeat' (first | exact trivial | exact rfl | (refine ⟨Or.inl rfl, ?_⟩) | (refine ⟨Or.inr rfl, ?_⟩) | (refine ⟨Or.inr trivial, ?_⟩) | (refine ⟨rfl, ?_⟩) | (refine ⟨?_, ?_⟩))), by (repeat' (first | exact trivial | exact rfl | (refine ⟨Or.inl rfl, ?_⟩) | (refine ⟨Or.inr rfl, ?_⟩) | (refine ⟨Or.inr trivial, ?_⟩) | (refine ⟨rfl, ?_⟩) | (refine ⟨?_, ?_⟩))), by (repeat' (first | exact trivial | exact rfl | (refine ⟨Or.inl rfl, ?_⟩) | (refine ⟨Or.inr rfl, ?_⟩) | (refine ⟨Or.inr trivial, ?_⟩) | (refine ⟨rfl, ?_⟩) | (refine ⟨?_, ?_⟩))), by (repeat' (first | exact trivial | exact rfl | (refine ⟨Or.inl rfl, ?_⟩) | (refine ⟨Or.inr rfl, ?_⟩) | (refine ⟨Or.inr trivial, ?_⟩) | (refine ⟨rfl, ?_⟩) | (refine ⟨?_, ?_⟩)))⟩; done)
            | trace_state
        · have g8 : eqs a.1 th = false := by
            cases e : eqs a.1 th with
            | false => rfl
            | true => exact absurd (eqs_t.1 e) he
          repeat' (first | ((with_reducible refine gA ?_); (first | refine AW_seq ?_ | refine AW_region ?_ | refine AW_regionD Try.mixed ?_ | refine AW_condF rfl ?_ | (refine AW_condY rfl ?_ ?_; assumption) | refine AW_block ?_ | refine AW_skip ?_)) | (first | ((with_reducible refine gS ?_); refine Es_s (T := Try.tab) rfl rfl rfl rfl ?_) | ((with_reducible refine gD ?_); refine Ed_s (T := Try.tab) rfl rfl rfl rfl ?_)) | ((first | ((with_reducible refine gS ?_); apply Es_q) | ((with_reducible refine gD ?_); apply Ed_q)); rfl; rfl; (first | refine LStep_lenM (T := Try.tab) rfl rfl rfl rfl | (refine LStep_add rfl rfl rfl rfl ?_; (refine IntWalk.i64_in _ ?_; first | omega | (simp only [cmps] at *; omega))) | (refine LStep_pickF rfl rfl ?_ rfl rfl; assumption) | (refine LStep_indexM (T := Try.tab) (c := ?_) rfl rfl rfl rfl rfl rfl ?_; rotate_left; assumption))) | (refine Ed_skip rfl ?_ rfl ?_; (first | rfl | (refine w_tf ?_; assumption) | (refine w_ft ?_; assumption))) | (with_reducible refine Es_nil ?_) | ((with_reducible refine Ed_nil ?_ ?_); kernel_rfl) | (with_reducible refine then_n ?_) | (with_reducible refine block_n ?_))
          all_goals first
            | (refine ⟨i + 1, by omega, by omega, by (repeat' (first | exact trivial | exact rfl | (refine ⟨Or.inl rfl, ?_⟩) | (refine ⟨Or.inr rfl, ?_⟩) | (refine ⟨Or.inr trivial, ?_⟩) | (refine ⟨rfl, ?_⟩) | (refine ⟨?_, ?_⟩))), by (repeat' (first | exact trivial | exact rfl | (refine ⟨Or.inl rfl, ?_⟩) | (refine ⟨Or.inr rfl, ?_⟩) | (refine ⟨Or.inr trivial, ?_⟩) | (refine ⟨rfl, ?_⟩) | (refine ⟨?_, ?_⟩))), by (repeat' (first | exact trivial | exact rfl | (refine ⟨Or.inl rfl, ?_⟩) | (refine ⟨Or.inr rfl, ?_⟩) | (refine ⟨Or.inr trivial, ?_⟩) | (refine ⟨rfl, ?_⟩) | (refine ⟨?_, ?_⟩))), by (repeat' (first | exact trivial | exact rfl | (refine ⟨Or.inl rfl, ?_⟩) | (refine ⟨Or.inr rfl, ?_⟩) | (refine ⟨Or.inr trivial, ?_⟩) | (refine ⟨rfl, ?_⟩) | (refine ⟨?_, ?_⟩)))⟩; done)
            | trace_state
      · have : i = A.length := by omega
        subst this
        have g7 : ltb (A.length : Nat) (A.length : Nat) = false := by rw [ltb_f]; omega
        repeat' (first | ((with_reducible refine gA ?_); (first | refine AW_seq ?_ | refine AW_region ?_ | (refine AW_condN rfl ?_ ?_; assumption) | refine AW_ret ?_ | refine AW_exit ?_)) | ((with_reducible refine gS ?_); refine Es_s (T := Try.tab) rfl rfl rfl rfl ?_) | (((with_reducible refine gS ?_); apply Es_q); rfl; rfl; refine LStep_lenM (T := Try.tab) rfl rfl rfl rfl) | (with_reducible refine Es_nil ?_) | (with_reducible refine then_n ?_) | (with_reducible refine then_e ?_) | ((with_reducible refine block_e ?_ ?_); rfl) | ((with_reducible refine gR ?_); first | refine ret1 rfl ?_ | refine ret2 rfl rfl ?_ | refine ret0 ?_ | refine end1 rfl ?_ | refine end0 ?_))
        all_goals first
          | rfl
          | trace_state
  · have hd : fewCl l = false ∨ turn < 0 ∨ ((l.length : Nat) : Int) < turn ∨ 20 < l.length := by
      cases h : fewCl l with
      | false => exact .inl rfl
      | true =>
        rw [h] at hgo
        by_cases h0 : turn < 0
        · exact .inr (.inl h0)
        by_cases h1 : ((l.length : Nat) : Int) < turn
        · exact .inr (.inr (.inl h1))
        exact .inr (.inr (.inr (Nat.lt_of_not_le (fun h2 => hgo ⟨rfl, by omega, by omega, h2⟩))))
    clear hgo
    generalize fewCl l = fb at *
    refine AC_enter Try.func7 rfl Try.ntmps7 (rv := [.tmp 6]) rfl rfl (by simp) (fun w X G => ?_)
    cases fb with
    | false =>
      repeat' (first | ((with_reducible refine gA ?_); (first | refine AW_seq ?_ | refine AW_region ?_ | refine AW_condT rfl ?_ | refine AW_condF rfl ?_ | refine AW_ret ?_ | refine AW_skip ?_)) | ((with_reducible refine gS ?_); refine Es_s (T := Try.tab) rfl rfl rfl rfl ?_) | (((with_reducible refine gS ?_); apply Es_q); rfl; rfl; (first | refine LStep_call (awake_ac) rfl rfl rfl rfl | refine LStep_call (cf) rfl rfl rfl rfl)) | (refine Es_skip rfl ?_ rfl ?_; (first | rfl | (refine w_tf ?_; assumption) | (refine w_ft ?_; assumption))) | (with_reducible refine Es_nil ?_) | (with_reducible refine then_n ?_) | (with_reducible refine then_r ?_) | ((with_reducible refine gR ?_); first | refine ret1 rfl ?_ | refine ret2 rfl rfl ?_ | refine ret0 ?_ | refine end1 rfl ?_ | refine end0 ?_))
      all_goals first
        | rfl
        | trace_state
    | true =>
      by_cases h0 : turn < 0
      · have g1 : ltb turn 0 = true := by rw [ltb_t]; exact h0
        repeat' (first | ((with_reducible refine gA ?_); (first | refine AW_seq ?_ | refine AW_region ?_ | refine AW_condT rfl ?_ | refine AW_condF rfl ?_ | refine AW_ret ?_ | refine AW_skip ?_)) | ((with_reducible refine gS ?_); refine Es_s (T := Try.tab) rfl rfl rfl rfl ?_) | (((with_reducible refine gS ?_); apply Es_q); rfl; rfl; (first | refine LStep_call (awake_ac) rfl rfl rfl rfl | refine LStep_call (cf) rfl rfl rfl rfl)) | (((with_reducible refine gS ?_); apply Es_q); rfl; rfl; (first | refine LStep_simp (T := Try.tab) rfl rfl | (refine LStep_pickT rfl rfl ?_ rfl rfl; assumption))) | (refine Es_skip rfl ?_ rfl ?_; (first | rfl | (refine w_tf ?_; assumption) | (refine w_ft ?_; assumption))) | (with_reducible refine Es_nil ?_) | (with_reducible refine then_n ?_) | (with_reducible refine then_r ?_) | ((with_reducible refine gR ?_); first | refine ret1 rfl ?_ | refine ret2 rfl rfl ?_ | refine ret0 ?_ | refine end1 rfl ?_ | refine end0 ?_))
        all_goals first
          | rfl
          | trace_state
      have g1 : ltb turn 0 = false := by rw [ltb_f]; omega
      by_cases h1 : ((l.length : Nat) : Int) < turn
      · have g2 : ltb (l.length : Nat) turn = true := by rw [ltb_t]; exact h1
        repeat' (first | ((with_reducible refine gA ?_); (first | refine AW_seq ?_ | refine AW_region ?_ | refine AW_condT rfl ?_ | refine AW_condF rfl ?_ | refine AW_ret ?_ | refine AW_skip ?_)) | ((with_reducible refine gS ?_); refine Es_s (T := Try.tab) rfl rfl rfl rfl ?_) | (((with_reducible refine gS ?_); apply Es_q); rfl; (first | rfl | (refine w_ff ?_; assumption)); (first | refine LStep_call (awake_ac) rfl rfl rfl rfl | refine LStep_call (cf) rfl rfl rfl rfl)) | (((with_reducible refine gS ?_); apply Es_q); rfl; (first | rfl | (refine w_ff ?_; assumption)); (first | refine LStep_simp (T := Try.tab) rfl rfl | refine LStep_lenM (T := Try.tab) rfl rfl rfl rfl | (refine LStep_pickT rfl rfl ?_ rfl rfl; assumption) | (refine LStep_pickF rfl rfl ?_ rfl rfl; assumption))) | (refine Es_skip rfl ?_ rfl ?_; (first | rfl | (refine w_tf ?_; assumption) | (refine w_ft ?_; assumption))) | (with_reducible refine Es_nil ?_) | (with_reducible refine then_n ?_) | (with_reducible refine then_r ?_) | ((with_reducible refine gR ?_); first | refine ret1 rfl ?_ | refine ret2 rfl rfl ?_ | refine ret0 ?_ | refine end1 rfl ?_ | refine end0 ?_))
        all_goals first
          | rfl
          | trace_state
      have g2 : ltb (l.length : Nat) turn = false := by rw [ltb_f]; omega
      have g3 : ltb 20 ((l.length : Nat) : Int) = true := by
        rw [ltb_t]
        rcases hd with h | h | h | h
        · cases h
        · omega
        · omega
        · omega
      repeat' (first | ((with_reducible refine gA ?_); (first | refine AW_seq ?_ | refine AW_region ?_ | refine AW_condF rfl ?_ | (refine AW_condY rfl ?_ ?_; assumption) | refine AW_ret ?_ | refine AW_skip ?_)) | ((with_reducible refine gS ?_); refine Es_s (T := Try.tab) rfl rfl rfl rfl ?_) | (((with_reducible refine gS ?_); apply Es_q); rfl; (first | rfl | (refine w_ff ?_; assumption)); (first | refine LStep_call (awake_ac) rfl rfl rfl rfl | refine LStep_call (cf) rfl rfl rfl rfl)) | (((with_reducible refine gS ?_); apply Es_q); rfl; (first | rfl | (refine w_ff ?_; assumption)); (first | refine LStep_simp (T := Try.tab) rfl rfl | refine LStep_lenM (T := Try.tab) rfl rfl rfl rfl | (refine LStep_pickF rfl rfl ?_ rfl rfl; assumption))) | (with_reducible refine Es_nil ?_) | (with_reducible refine then_n ?_) | (with_reducible refine then_r ?_) | ((with_reducible refine gR ?_); first | refine ret1 rfl ?_ | refine ret2 rfl rfl ?_ | refine ret0 ?_ | refine end1 rfl ?_ | refine end0 ?_))
      all_goals first
        | rfl
        | trace_state
end Go.Proofs.Ytldfncafkdmoiaa
