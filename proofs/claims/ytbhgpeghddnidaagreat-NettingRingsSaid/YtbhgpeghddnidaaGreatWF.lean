import Derived.Test.YtbhgpeghddnidaaGreatWE
namespace Go.Proofs.YtbhgpeghddnidaaGreat
open Go.SL
section
variable {P : Program} {O : Org} {T : Tab P} {env : Env} {h : Hp} {o : Oper}
theorem LStep_leqT {tt yt : Nat} {x y : Operand} {a b : ByteArray} (ho : o.op = .binOp .leq tt x y yt) (hx : evalA env x = .d (.sc (.string a))) (hy : evalA env y = .d (.sc (.string b))) (hd : dstOk o.dst O.nt = true) : LStep P O o env h [] [] (.d (.sc (.bool (!lts b a)))) [] := by
  refine .quiet hd (fun env' h' he _ ac w G r => ⟨.bool (!lts b a), ?_, .d _ _ (.sc _ rfl)⟩)
  have h1 := evalA_rep r.env x
  have h2 := evalA_rep r.env y
  rw [he x (by simp [ho, Op.operands]), hx] at h1
  rw [he y (by simp [ho, Op.operands]), hy] at h2
  rw [← lts_gt a b, lts_d a b]
  simp [execOp, ho, h1.sc_inv, h2.sc_inv, eqGuard, binOp, Op.stringOp]
end
/-! ### the document's search for rings -/
theorem filt_at {α β : Type} {p : α → Bool} {g : α → Option β} {P : List α} {k : Nat} {x : α} (hx : P[k]? = some x) (h0 : ∀ y ∈ (P.take k).filter p, g y = none) :
    (p x = true → ∀ b, g x = some b → (P.filter p).findSome? g = some b) ∧ ((p x = true → g x = none) → ∀ y ∈ (P.take (k + 1)).filter p, g y = none) := by
  refine ⟨fun hp b hb => ?_, fun h y hy => ?_⟩
  · rw [split_at hx, List.filter_append, List.findSome?_append, List.findSome?_eq_none_iff.2 h0, Option.none_or, List.filter_cons, if_pos hp, List.findSome?_cons, hb]
  · rw [take_at hx, List.filter_append] at hy
    rcases List.mem_append.1 hy with q | q
    · exact h0 y q
    · rw [List.filter_cons, List.filter_nil] at q
      split at q
      · rename_i hp
        rw [List.mem_singleton.1 q]
        exact h hp
      · cases q
theorem fst_atB {l : List ByteArray} (h : l ≠ []) : l[(0 : Int).toNat]? = some (fstR zB l) := by
  cases l with
  | nil => exact absurd rfl h
  | cons a l => rfl
theorem lst_atB {l : List ByteArray} (h : l ≠ []) : l[l.length - 1]? = some (lstR zB l) := by
  unfold lstR
  rw [List.getLastD_eq_getLast?, List.getLast?_eq_getElem?]
  cases hq : l[l.length - 1]? with
  | none =>
    have := List.length_pos_iff.2 h
    rw [List.getElem?_eq_none_iff] at hq
    omega
  | some x => rfl
def ringE : Option (List ByteArray) → D
  | none => .sc (.slice none 0 0)
  | some r => .sl 1 (r.map sN)
set_option maxRecDepth 10000 in
theorem in_ac (l : List ByteArray) (s : ByteArray) (hl : l.length ≤ 1048576) : AC Tryz.prog 79 [.d (.sl 1 (l.map sN)), .d (.sc (.string s))] [] [] (fun r _ => r = .d (.sc (.bool (decide (s ∈ l))))) := by
  refine AC_enter Tryz.func79 rfl Tryz.ntmps79 (rv := [.tmp 4]) rfl rfl (by simp) (fun w X G => ?_)
  repeat' (first | ((with_reducible refine gA ?_); (first | refine AW_seq ?_ | refine AW_region ?_ | refine AW_block ?_)) | ((with_reducible refine gS ?_); refine Es_s (T := Tryz.tab) rfl rfl rfl rfl ?_) | (with_reducible refine Es_nil ?_) | (with_reducible refine then_n ?_))
  refine AW_forE (S := Nat) (fun k => k ≤ l.length ∧ s ∉ l.take k) (fun k => [(5, .d (.sc (.int .i64 (k : Nat))))]) (fun _ => []) (fun k => l.length - k) 0 ⟨by omega, by simp⟩ (by (repeat' (first | exact trivial | exact rfl | (refine ⟨Or.inl rfl, ?_⟩) | (refine ⟨Or.inr rfl, ?_⟩) | (refine ⟨Or.inr trivial, ?_⟩) | (refine ⟨rfl, ?_⟩) | (refine ⟨?_, ?_⟩)))) (by (repeat' (first | exact trivial | exact rfl | (refine ⟨Or.inl rfl, ?_⟩) | (refine ⟨Or.inr rfl, ?_⟩) | (refine ⟨Or.inr trivial, ?_⟩) | (refine ⟨rfl, ?_⟩) | (refine ⟨?_, ?_⟩)))) ?_
  intro k ⟨hk, hno⟩
  by_cases hlt : k < l.length
  · obtain ⟨y, hy, _⟩ := drop_at hlt
    have g1 : ltb ((k : Nat) : Int) ((l.length : Nat) : Int) = true := by rw [ltb_t]; omega
    by_cases e : y = s
    · have g2 : eqs y s = true := (eqs_t).2 e
      have hm : s ∈ l := e ▸ List.mem_of_getElem? hy
      rw [decide_eq_true hm]
      repeat' (first | ((with_reducible refine gA ?_); (first | refine AW_seq ?_ | refine AW_region ?_ | (refine AW_condY rfl ?_ ?_; assumption) | refine AW_block ?_ | refine AW_ret ?_ | refine AW_skip ?_)) | ((with_reducible refine gS ?_); refine Es_s (T := Tryz.tab) rfl rfl rfl rfl ?_) | (((with_reducible refine gS ?_); apply Es_q); rfl; rfl; (first | refine LStep_lenM (T := Tryz.tab) rfl rfl rfl rfl | (refine LStep_indexM (T := Tryz.tab) (c := ?_) rfl rfl rfl rfl rfl rfl ?_; rotate_left; assumption))) | (with_reducible refine Es_nil ?_) | (with_reducible refine then_n ?_) | (with_reducible refine then_r ?_) | (with_reducible refine block_r ?_) | ((with_reducible refine gR ?_); first | refine ret1 rfl ?_ | refine ret2 rfl rfl ?_ | refine ret0 ?_ | refine end1 rfl ?_ | refine end0 ?_))
      all_goals first
        | rfl
        | trace_state
    · have g2 : eqs y s = false := by rw [Bool.eq_false_iff]; exact fun h => e ((eqs_t).1 h)
      have hno' : s ∉ l.take (k + 1) := fun h => by
        rcases mem_take_snoc hy h with q | q
        · exact hno q
        · exact e q.symm
      repeat' (first | ((with_reducible refine gA ?_); (first | refine AW_seq ?_ | refine AW_region ?_ | (refine AW_condY rfl ?_ ?_; assumption) | (refine AW_condN rfl ?_ ?_; assumption) | refine AW_block ?_ | refine AW_skip ?_)) | ((with_reducible refine gS ?_); refine Es_s (T := Tryz.tab) rfl rfl rfl rfl ?_) | (((with_reducible refine gS ?_); apply Es_q); rfl; rfl; (first | refine LStep_lenM (T := Tryz.tab) rfl rfl rfl rfl | (refine LStep_add rfl rfl rfl rfl ?_; (refine IntWalk.i64_in _ ?_; first | omega | (simp only [cmps] at *; omega))) | (refine LStep_indexM (T := Tryz.tab) (c := ?_) rfl rfl rfl rfl rfl rfl ?_; rotate_left; assumption))) | (with_reducible refine Es_nil ?_) | (with_reducible refine then_n ?_) | (with_reducible refine block_n ?_))
      all_goals first
        | (refine ⟨k + 1, ?_, by omega, by (repeat' (first | exact trivial | exact rfl | (refine ⟨Or.inl rfl, ?_⟩) | (refine ⟨Or.inr rfl, ?_⟩) | (refine ⟨Or.inr trivial, ?_⟩) | (refine ⟨rfl, ?_⟩) | (refine ⟨?_, ?_⟩))), by (repeat' (first | exact trivial | exact rfl | (refine ⟨Or.inl rfl, ?_⟩) | (refine ⟨Or.inr rfl, ?_⟩) | (refine ⟨Or.inr trivial, ?_⟩) | (refine ⟨rfl, ?_⟩) | (refine ⟨?_, ?_⟩))), by (repeat' (first | exact trivial | exact rfl | (refine ⟨Or.inl rfl, ?_⟩) | (refine ⟨Or.inr rfl, ?_⟩) | (refine ⟨Or.inr trivial, ?_⟩) | (refine ⟨rfl, ?_⟩) | (refine ⟨?_, ?_⟩))), by (repeat' (first | exact trivial | exact rfl | (refine ⟨Or.inl rfl, ?_⟩) | (refine ⟨Or.inr rfl, ?_⟩) | (refine ⟨Or.inr trivial, ?_⟩) | (refine ⟨rfl, ?_⟩) | (refine ⟨?_, ?_⟩)))⟩; exact ⟨by omega, hno'⟩)
        | trace_state
  · have hkl : k = l.length := by omega
    subst hkl
    have g1 : ltb ((l.length : Nat) : Int) ((l.length : Nat) : Int) = false := by rw [ltb_f]; omega
    rw [List.take_length] at hno
    rw [decide_eq_false hno]
    repeat' (first | ((with_reducible refine gA ?_); (first | refine AW_seq ?_ | refine AW_region ?_ | (refine AW_condN rfl ?_ ?_; assumption) | refine AW_ret ?_ | refine AW_exit ?_)) | ((with_reducible refine gS ?_); refine Es_s (T := Tryz.tab) rfl rfl rfl rfl ?_) | (((with_reducible refine gS ?_); apply Es_q); rfl; rfl; refine LStep_lenM (T := Tryz.tab) rfl rfl rfl rfl) | (with_reducible refine Es_nil ?_) | (with_reducible refine then_n ?_) | (with_reducible refine then_e ?_) | ((with_reducible refine block_e ?_ ?_); rfl) | ((with_reducible refine gR ?_); first | refine ret1 rfl ?_ | refine ret2 rfl rfl ?_ | refine ret0 ?_ | refine end1 rfl ?_ | refine end0 ?_))
    all_goals first
      | rfl
      | trace_state
def owT (X : List Db) (c p q : ByteArray) : Int := ow X (c, p, q)
set_option maxRecDepth 10000 in
set_option maxHeartbeats 16000000 in
theorem rRing_ac (Y : List Db) (P : List ByteArray) (c : ByteArray) (hX : Y.length ≤ 4096) (hb : ∀ d ∈ Y, 0 ≤ d.2 ∧ d.2 ≤ 1099511627776) (hP : P.length ≤ 10000) : ∀ (f : Nat) (path : List ByteArray), path ≠ [] → path.Nodup → (∀ x ∈ path, x ∈ P) → path.length + f = P.length + 1 →
    AC Tryz.prog 58 [.d (.sl 4 (Y.map dbE)), .d (.sl 1 (P.map sN)), .d (.sc (.string c)), .d (.sl 1 (path.map sN))] [] [] (fun r _ => r = .d (ringE (alongR zB (owT Y c) P lts f path)))
  | 0, path, _, hnd, h8, hlen => by
    have := nodup_le hnd h8
    omega
  | f + 1, path, h0, hnd, h8, hlen => by
    have ih := rRing_ac Y P c hX hb hP f
    have hpl := List.length_pos_iff.2 h0
    have hf := fst_atB h0
    have hl := lst_atB h0
    have hmin : AV.d (.sc (.int .i64 (wrp .i64 ((path.length : Nat) - 1 : Int)))) = .d (.sc (.int .i64 ((path.length - 1 : Nat) : Int))) := by rw [wrp_fit (by omega), show ((path.length : Nat) : Int) - 1 = ((path.length - 1 : Nat) : Int) by omega]
    have hl' : path[((path.length - 1 : Nat) : Int).toNat]? = some (lstR zB path) := by rw [Int.toNat_natCast]; exact hl
    have hunf : alongR zB (owT Y c) P lts (f + 1) path = if 1 < path.length ∧ 0 < owT Y c (lstR zB path) (fstR zB path) then some path else (P.filter fun x => lts (fstR zB path) x && (decide (0 < owT Y c (lstR zB path) x) && !(decide (x ∈ path)))).findSome? fun x => alongR zB (owT Y c) P lts f (path ++ [x]) := rfl
    rw [hunf]
    have hcin := fun x => in_ac path x (by omega)
    have hml : (path.map sN).length = path.length := List.length_map _
    have cO := fun p q => rOwes_ac Y p q c hX hb
    have hT : ∀ p q, ow Y (c, p, q) = owT Y c p q := fun _ _ => rfl
    simp only [hT] at cO
    generalize fstR zB path = a at *
    generalize lstR zB path = b at *
    have cba := cO b a
    by_cases hc : 1 < path.length ∧ 0 < owT Y c b a
    · rw [if_pos hc]
      have g1 : leb 2 ((path.length : Nat) : Int) = true := by rw [leb_t]; omega
      have g2 : ltb 0 (owT Y c b a) = true := by rw [ltb_t]; exact hc.2
      refine AC_enter Tryz.func58 rfl Tryz.ntmps58 (rv := [.tmp 8]) rfl rfl (by simp) (fun w X G => ?_)
      repeat' (first | ((with_reducible refine gA ?_); (first | refine AW_seq ?_ | refine AW_region ?_ | refine AW_regionD Tryz.mixed ?_ | (refine AW_condY rfl ?_ ?_; assumption) | refine AW_ret ?_)) | ((first | ((with_reducible refine gS ?_); apply Es_q) | ((with_reducible refine gD ?_); apply Ed_q)); rfl; (first | rfl | (refine w_tt ?_; assumption)); refine LStep_fitQ (T := Tryz.tab) rfl rfl hmin) | (first | ((with_reducible refine gS ?_); refine Es_s (T := Tryz.tab) rfl rfl rfl rfl ?_) | ((with_reducible refine gD ?_); refine Ed_s (T := Tryz.tab) rfl rfl rfl rfl ?_)) | (((with_reducible refine gD ?_); apply Ed_q); rfl; (first | rfl | (refine w_tt ?_; assumption)); refine LStep_call (cba) rfl rfl rfl rfl) | (((with_reducible refine gD ?_); apply Ed_q); rfl; (first | rfl | (refine w_tt ?_; assumption)); (first | refine LStep_simp (T := Tryz.tab) rfl rfl | refine LStep_lenM (T := Tryz.tab) rfl rfl rfl rfl | (refine LStep_pickT rfl rfl ?_ rfl rfl; assumption) | (refine LStep_indexM (T := Tryz.tab) (c := ?_) rfl rfl rfl rfl rfl rfl ?_; rotate_left; assumption))) | (with_reducible refine Es_nil ?_) | ((with_reducible refine Ed_nil ?_ ?_); kernel_rfl) | (with_reducible refine then_n ?_) | (with_reducible refine then_r ?_) | ((with_reducible refine gR ?_); first | refine ret1 rfl ?_ | refine ret2 rfl rfl ?_ | refine ret0 ?_ | refine end1 rfl ?_ | refine end0 ?_))
      all_goals first
        | rfl
        | trace_state
    · rw [if_neg hc]
      have hcond : ∀ n, lts a n = true → 0 < owT Y c b n → n ∉ path → (lts a n && (decide (0 < owT Y c b n) && !(decide (n ∈ path)))) = true := fun n h1 h2 h3 => by rw [h1, decide_eq_true h2, decide_eq_false h3]; rfl
      have hdone := fun (k : Nat) (x : ByteArray) (hx : P[k]? = some x) => filt_at (p := fun x => lts a x && (decide (0 < owT Y c b x) && !(decide (x ∈ path)))) (g := fun x => alongR zB (owT Y c) P lts f (path ++ [x])) hx
      have g1 : leb 2 ((path.length : Nat) : Int) = true → ltb 0 (owT Y c b a) = false := fun h => by rw [leb_t] at h; rw [ltb_f]; omega
      refine AC_enter Tryz.func58 rfl Tryz.ntmps58 (rv := [.tmp 8]) rfl rfl (by simp) (fun w X G => ?_)
      repeat' (first | ((with_reducible refine gA ?_); (first | refine AW_seq ?_ | refine AW_region ?_ | refine AW_regionD Tryz.mixed ?_ | refine AW_condF rfl ?_ | (refine AW_cond rfl (fun hc => ?_) (fun hc => ?_) <;> try (exfalso; simp only [cmpL] at hc; omega)) | refine AW_block ?_ | refine AW_ret ?_ | refine AW_skip ?_)) | ((first | ((with_reducible refine gS ?_); apply Es_q) | ((with_reducible refine gD ?_); apply Ed_q)); rfl; (first | rfl | (refine w_tt ?_; assumption)); refine LStep_fitQ (T := Tryz.tab) rfl rfl hmin) | (first | ((with_reducible refine gS ?_); refine Es_s (T := Tryz.tab) rfl rfl rfl rfl ?_) | ((with_reducible refine gD ?_); refine Ed_s (T := Tryz.tab) rfl rfl rfl rfl ?_)) | (((with_reducible refine gD ?_); apply Ed_q); rfl; (first | rfl | (refine w_tt ?_; assumption)); refine LStep_call (cba) rfl rfl rfl rfl) | (((with_reducible refine gD ?_); apply Ed_q); rfl; (first | rfl | (refine w_tt ?_; assumption)); (first | refine LStep_simp (T := Tryz.tab) rfl rfl | refine LStep_lenM (T := Tryz.tab) rfl rfl rfl rfl | (refine LStep_pickT rfl rfl ?_ rfl rfl; assumption) | (refine LStep_pickF rfl rfl ?_ rfl rfl; assumption) | (refine LStep_indexM (T := Tryz.tab) (c := ?_) rfl rfl rfl rfl rfl rfl ?_; rotate_left; assumption))) | (refine Ed_skip rfl ?_ rfl ?_; (first | rfl | (refine w_tf ?_; assumption) | (refine w_ft ?_; assumption))) | (refine Ed_split rfl ?_ (fun _ => ?_) (fun _ => ?_); ((fail_if_success (refine und_t ?_; assumption)); (fail_if_success (refine und_f ?_; assumption)); exact trivial)) | (with_reducible refine Es_nil ?_) | ((with_reducible refine Ed_nil ?_ ?_); kernel_rfl) | (with_reducible refine then_n ?_) | (with_reducible refine then_r ?_) | ((with_reducible refine gR ?_); first | refine ret1 rfl ?_ | refine ret2 rfl rfl ?_ | refine ret0 ?_ | refine end1 rfl ?_ | refine end0 ?_))
      all_goals try (exfalso; simp_all; done)
      all_goals
        refine AW_forE (S := Nat) (fun k => k ≤ P.length ∧ ∀ j ∈ (P.take k).filter (fun x => lts a x && (decide (0 < owT Y c b x) && !(decide (x ∈ path)))), alongR zB (owT Y c) P lts f (path ++ [j]) = none) (fun k => [(9, .d (.sc (.int .i64 (k : Nat))))]) (fun _ => []) (fun k => P.length - k) 0 ⟨by omega, by simp⟩ (by (repeat' (first | exact trivial | exact rfl | (refine ⟨Or.inl rfl, ?_⟩) | (refine ⟨Or.inr rfl, ?_⟩) | (refine ⟨Or.inr trivial, ?_⟩) | (refine ⟨rfl, ?_⟩) | (refine ⟨?_, ?_⟩)))) (by (repeat' (first | exact trivial | exact rfl | (refine ⟨Or.inl rfl, ?_⟩) | (refine ⟨Or.inr rfl, ?_⟩) | (refine ⟨Or.inr trivial, ?_⟩) | (refine ⟨rfl, ?_⟩) | (refine ⟨?_, ?_⟩)))) ?_
        intro k ⟨hk, hno⟩
        by_cases hlt : k < P.length
        · obtain ⟨n, hn, _⟩ := drop_at hlt
          obtain ⟨d1, d2⟩ := hdone k n hn hno
          have cn := hcin n
          have cbn := cO b n
          have g3 : ltb ((k : Nat) : Int) ((P.length : Nat) : Int) = true := by rw [ltb_t]; omega
          cases hcl : lts a n with
          | false =>
            have g4 : (!lts a n) = true := by rw [hcl]; rfl
            have hn' := d2 (fun h => by rw [hcl] at h; cases h)
            repeat' (first | ((with_reducible refine gA ?_); (first | refine AW_seq ?_ | refine AW_region ?_ | refine AW_regionD Tryz.mixed ?_ | refine AW_condT rfl ?_ | (refine AW_condY rfl ?_ ?_; assumption) | refine AW_block ?_ | refine AW_skip ?_ | refine AW_exit ?_)) | (first | ((with_reducible refine gS ?_); refine Es_s (T := Tryz.tab) rfl rfl rfl rfl ?_) | ((with_reducible refine gD ?_); refine Ed_s (T := Tryz.tab) rfl rfl rfl rfl ?_)) | ((first | ((with_reducible refine gS ?_); apply Es_q) | ((with_reducible refine gD ?_); apply Ed_q)); rfl; rfl; refine LStep_leqT rfl rfl rfl rfl) | ((first | ((with_reducible refine gS ?_); apply Es_q) | ((with_reducible refine gD ?_); apply Ed_q)); rfl; rfl; (first | refine LStep_lenM (T := Tryz.tab) rfl rfl rfl rfl | (refine LStep_add rfl rfl rfl rfl ?_; (refine IntWalk.i64_in _ ?_; first | omega | (simp only [cmps] at *; omega))) | (refine LStep_pickT rfl rfl ?_ rfl rfl; assumption) | (refine LStep_indexM (T := Tryz.tab) (c := ?_) rfl rfl rfl rfl rfl rfl ?_; rotate_left; assumption))) | (refine Ed_skip rfl ?_ rfl ?_; (first | rfl | (refine w_tf ?_; assumption) | (refine w_ft ?_; assumption))) | (with_reducible refine Es_nil ?_) | ((with_reducible refine Ed_nil ?_ ?_); kernel_rfl) | (with_reducible refine then_n ?_) | (with_reducible refine then_e ?_) | ((with_reducible refine block_e ?_ ?_); rfl))
            all_goals first
              | (refine ⟨k + 1, ?_, by omega, by (repeat' (first | exact trivial | exact rfl | (refine ⟨Or.inl rfl, ?_⟩) | (refine ⟨Or.inr rfl, ?_⟩) | (refine ⟨Or.inr trivial, ?_⟩) | (refine ⟨rfl, ?_⟩) | (refine ⟨?_, ?_⟩))), by (repeat' (first | exact trivial | exact rfl | (refine ⟨Or.inl rfl, ?_⟩) | (refine ⟨Or.inr rfl, ?_⟩) | (refine ⟨Or.inr trivial, ?_⟩) | (refine ⟨rfl, ?_⟩) | (refine ⟨?_, ?_⟩))), by (repeat' (first | exact trivial | exact rfl | (refine ⟨Or.inl rfl, ?_⟩) | (refine ⟨Or.inr rfl, ?_⟩) | (refine ⟨Or.inr trivial, ?_⟩) | (refine ⟨rfl, ?_⟩) | (refine ⟨?_, ?_⟩))), by (repeat' (first | exact trivial | exact rfl | (refine ⟨Or.inl rfl, ?_⟩) | (refine ⟨Or.inr rfl, ?_⟩) | (refine ⟨Or.inr trivial, ?_⟩) | (refine ⟨rfl, ?_⟩) | (refine ⟨?_, ?_⟩)))⟩; exact ⟨by omega, hn'⟩)
              | trace_state
          | true =>
            have g4 : (!lts a n) = false := by rw [hcl]; rfl
            by_cases hin : n ∈ path
            · have hn' := d2 (fun h => by rw [Bool.and_eq_true, Bool.and_eq_true, Bool.not_eq_true', decide_eq_false_iff_not] at h; exact absurd hin h.2.2)
              rw [decide_eq_true hin] at cn
              repeat' (first | ((with_reducible refine gA ?_); (first | refine AW_seq ?_ | refine AW_region ?_ | refine AW_regionD Tryz.mixed ?_ | refine AW_condT rfl ?_ | (refine AW_condY rfl ?_ ?_; assumption) | refine AW_block ?_ | refine AW_skip ?_ | refine AW_exit ?_)) | (first | ((with_reducible refine gS ?_); refine Es_s (T := Tryz.tab) rfl rfl rfl rfl ?_) | ((with_reducible refine gD ?_); refine Ed_s (T := Tryz.tab) rfl rfl rfl rfl ?_)) | ((first | ((with_reducible refine gS ?_); apply Es_q) | ((with_reducible refine gD ?_); apply Ed_q)); rfl; (first | rfl | (refine w_ff ?_; assumption)); (first | refine LStep_leqT rfl rfl rfl rfl | refine LStep_call (cn) rfl rfl rfl rfl)) | ((first | ((with_reducible refine gS ?_); apply Es_q) | ((with_reducible refine gD ?_); apply Ed_q)); rfl; (first | rfl | (refine w_ff ?_; assumption)); (first | refine LStep_simp (T := Tryz.tab) rfl rfl | refine LStep_lenM (T := Tryz.tab) rfl rfl rfl rfl | (refine LStep_add rfl rfl rfl rfl ?_; (refine IntWalk.i64_in _ ?_; first | omega | (simp only [cmps] at *; omega))) | (refine LStep_pickF rfl rfl ?_ rfl rfl; assumption) | (refine LStep_indexM (T := Tryz.tab) (c := ?_) rfl rfl rfl rfl rfl rfl ?_; rotate_left; assumption))) | (refine Ed_skip rfl ?_ rfl ?_; (first | rfl | (refine w_tf ?_; assumption) | (refine w_ft ?_; assumption))) | (with_reducible refine Es_nil ?_) | ((with_reducible refine Ed_nil ?_ ?_); kernel_rfl) | (with_reducible refine then_n ?_) | (with_reducible refine then_e ?_) | ((with_reducible refine block_e ?_ ?_); rfl))
              all_goals first
                | (refine ⟨k + 1, ?_, by omega, by (repeat' (first | exact trivial | exact rfl | (refine ⟨Or.inl rfl, ?_⟩) | (refine ⟨Or.inr rfl, ?_⟩) | (refine ⟨Or.inr trivial, ?_⟩) | (refine ⟨rfl, ?_⟩) | (refine ⟨?_, ?_⟩))), by (repeat' (first | exact trivial | exact rfl | (refine ⟨Or.inl rfl, ?_⟩) | (refine ⟨Or.inr rfl, ?_⟩) | (refine ⟨Or.inr trivial, ?_⟩) | (refine ⟨rfl, ?_⟩) | (refine ⟨?_, ?_⟩))), by (repeat' (first | exact trivial | exact rfl | (refine ⟨Or.inl rfl, ?_⟩) | (refine ⟨Or.inr rfl, ?_⟩) | (refine ⟨Or.inr trivial, ?_⟩) | (refine ⟨rfl, ?_⟩) | (refine ⟨?_, ?_⟩))), by (repeat' (first | exact trivial | exact rfl | (refine ⟨Or.inl rfl, ?_⟩) | (refine ⟨Or.inr rfl, ?_⟩) | (refine ⟨Or.inr trivial, ?_⟩) | (refine ⟨rfl, ?_⟩) | (refine ⟨?_, ?_⟩)))⟩; exact ⟨by omega, hn'⟩)
                | trace_state
            · rw [decide_eq_false hin] at cn
              by_cases hz : 0 < owT Y c b n
              · have g5 : leb (owT Y c b n) 0 = false := by rw [leb_f]; exact hz
                have hp := hcond n hcl hz hin
                have ci := ih (path ++ [n]) (by simp) (snoc_nodup hnd hin) (fun x hx => by
                  rcases List.mem_append.1 hx with q | q
                  · exact h8 x q
                  · rw [List.mem_singleton.1 q]; exact List.mem_of_getElem? hn) (by rw [List.length_append]; simp only [List.length_cons, List.length_nil]; omega)
                have hmp : (path ++ [n]).map sN = path.map sN ++ [[.sc (.string n)]] := by rw [List.map_append]; rfl
                rw [hmp] at ci
                cases hal : alongR zB (owT Y c) P lts f (path ++ [n]) with
                | none =>
                  have hn' := d2 (fun _ => hal)
                  rw [hal, show ringE none = D.sc (.slice none 0 0) from rfl] at ci
                  repeat' (first | ((with_reducible refine gA ?_); (first | refine AW_seq ?_ | refine AW_region ?_ | refine AW_regionD Tryz.mixed ?_ | refine AW_condF rfl ?_ | (refine AW_condY rfl ?_ ?_; assumption) | (refine AW_condN rfl ?_ ?_; assumption) | refine AW_block ?_ | refine AW_skip ?_)) | ((first | ((with_reducible refine gS ?_); apply Es_q) | ((with_reducible refine gD ?_); apply Ed_q)); rfl; (first | rfl | (refine w_ff ?_; assumption)); refine LStep_fitQ (T := Tryz.tab) rfl rfl hmin) | (first | ((with_reducible refine gS ?_); refine Es_s (T := Tryz.tab) rfl rfl rfl rfl ?_) | ((with_reducible refine gD ?_); refine Ed_s (T := Tryz.tab) rfl rfl rfl rfl ?_)) | ((first | ((with_reducible refine gS ?_); apply Es_q) | ((with_reducible refine gD ?_); apply Ed_q)); rfl; (first | rfl | (refine w_ff ?_; assumption)); (first | refine LStep_leqT rfl rfl rfl rfl | refine LStep_call (cn) rfl rfl rfl rfl | refine LStep_call (cbn) rfl rfl rfl rfl | refine LStep_call (ci) rfl rfl rfl rfl | refine LStep_neqNil0 (T := Tryz.tab) rfl rfl rfl rfl)) | ((first | ((with_reducible refine gS ?_); apply Es_xs) | ((with_reducible refine gD ?_); apply Ed_xs)); rfl; (first | rfl | (refine w_ff ?_; assumption)); (first | (refine LStep_litOwn (T := Tryz.tab) (len := 0) rfl rfl rfl rfl rfl rfl rfl rfl rfl rfl ?_ ?_; (refine Nat.le_of_ble_eq_true ?_; rfl); (unfold maxLen; omega)) | (refine LStep_append (T := Tryz.tab) rfl rfl rfl rfl rfl rfl rfl rfl rfl rfl ?_ ?_ ?_; rfl; (simp only [List.length_map, List.length_nil]; omega); (unfold maxLen; simp only [List.length_map, List.length_nil]; omega)) | (refine LStep_appendD (T := Tryz.tab) (dst := 79) 71 rfl rfl rfl rfl rfl rfl rfl rfl rfl rfl rfl ?_ ?_ ?_; rfl; (simp only [List.length_map, List.length_nil, List.length_cons, List.length_append]; omega); (unfold maxLen; simp only [List.length_map, List.length_nil, List.length_cons, List.length_append]; omega))); rfl) | ((first | ((with_reducible refine gS ?_); apply Es_q) | ((with_reducible refine gD ?_); apply Ed_q)); rfl; (first | rfl | (refine w_ff ?_; assumption)); (first | refine LStep_simp (T := Tryz.tab) rfl rfl | refine LStep_lenM (T := Tryz.tab) rfl rfl rfl rfl | (refine LStep_add rfl rfl rfl rfl ?_; (refine IntWalk.i64_in _ ?_; first | omega | (simp only [cmps] at *; omega))) | (refine LStep_pickF rfl rfl ?_ rfl rfl; assumption) | (refine LStep_indexM (T := Tryz.tab) (c := ?_) rfl rfl rfl rfl rfl rfl ?_; rotate_left; assumption) | (refine LStep_lit (T := Tryz.tab) rfl rfl rfl rfl rfl rfl rfl rfl ?_; (refine Nat.le_of_ble_eq_true ?_; rfl)))) | (with_reducible refine Es_nil ?_) | ((with_reducible refine Ed_nil ?_ ?_); kernel_rfl) | (with_reducible refine then_n ?_) | (with_reducible refine block_n ?_))
                  all_goals first
                    | (refine ⟨k + 1, ?_, by omega, by (repeat' (first | exact trivial | exact rfl | (refine ⟨Or.inl rfl, ?_⟩) | (refine ⟨Or.inr rfl, ?_⟩) | (refine ⟨Or.inr trivial, ?_⟩) | (refine ⟨rfl, ?_⟩) | (refine ⟨?_, ?_⟩))), by (repeat' (first | exact trivial | exact rfl | (refine ⟨Or.inl rfl, ?_⟩) | (refine ⟨Or.inr rfl, ?_⟩) | (refine ⟨Or.inr trivial, ?_⟩) | (refine ⟨rfl, ?_⟩) | (refine ⟨?_, ?_⟩))), by (repeat' (first | exact trivial | exact rfl | (refine ⟨Or.inl rfl, ?_⟩) | (refine ⟨Or.inr rfl, ?_⟩) | (refine ⟨Or.inr trivial, ?_⟩) | (refine ⟨rfl, ?_⟩) | (refine ⟨?_, ?_⟩))), by (repeat' (first | exact trivial | exact rfl | (refine ⟨Or.inl rfl, ?_⟩) | (refine ⟨Or.inr rfl, ?_⟩) | (refine ⟨Or.inr trivial, ?_⟩) | (refine ⟨rfl, ?_⟩) | (refine ⟨?_, ?_⟩)))⟩; exact ⟨by omega, hn'⟩)
                    | trace_state
                | some r =>
                  have hr := d1 hp r hal
                  have hrne := alongR_ne (by simp) hal
                  have hrne' : r.map sN ≠ [] := by simpa using hrne
                  rw [hal, show ringE (some r) = D.sl 1 (r.map sN) from rfl] at ci
                  rw [hr]
                  repeat' (first | ((with_reducible refine gA ?_); (first | refine AW_seq ?_ | refine AW_region ?_ | refine AW_regionD Tryz.mixed ?_ | refine AW_condT rfl ?_ | (refine AW_condY rfl ?_ ?_; assumption) | (refine AW_condN rfl ?_ ?_; assumption) | refine AW_block ?_ | refine AW_ret ?_ | refine AW_skip ?_)) | ((first | ((with_reducible refine gS ?_); apply Es_q) | ((with_reducible refine gD ?_); apply Ed_q)); rfl; (first | rfl | (refine w_ff ?_; assumption)); refine LStep_fitQ (T := Tryz.tab) rfl rfl hmin) | (first | ((with_reducible refine gS ?_); refine Es_s (T := Tryz.tab) rfl rfl rfl rfl ?_) | ((with_reducible refine gD ?_); refine Ed_s (T := Tryz.tab) rfl rfl rfl rfl ?_)) | ((first | ((with_reducible refine gS ?_); apply Es_q) | ((with_reducible refine gD ?_); apply Ed_q)); rfl; (first | rfl | (refine w_ff ?_; assumption)); (first | refine LStep_leqT rfl rfl rfl rfl | refine LStep_call (cn) rfl rfl rfl rfl | refine LStep_call (cbn) rfl rfl rfl rfl | refine LStep_call (ci) rfl rfl rfl rfl | refine LStep_neqNilS (T := Tryz.tab) rfl rfl rfl rfl hrne')) | ((first | ((with_reducible refine gS ?_); apply Es_xs) | ((with_reducible refine gD ?_); apply Ed_xs)); rfl; (first | rfl | (refine w_ff ?_; assumption)); (first | (refine LStep_litOwn (T := Tryz.tab) (len := 0) rfl rfl rfl rfl rfl rfl rfl rfl rfl rfl ?_ ?_; (refine Nat.le_of_ble_eq_true ?_; rfl); (unfold maxLen; omega)) | (refine LStep_append (T := Tryz.tab) rfl rfl rfl rfl rfl rfl rfl rfl rfl rfl ?_ ?_ ?_; rfl; (simp only [List.length_map, List.length_nil]; omega); (unfold maxLen; simp only [List.length_map, List.length_nil]; omega)) | (refine LStep_appendD (T := Tryz.tab) (dst := 79) 71 rfl rfl rfl rfl rfl rfl rfl rfl rfl rfl rfl ?_ ?_ ?_; rfl; (simp only [List.length_map, List.length_nil, List.length_cons, List.length_append]; omega); (unfold maxLen; simp only [List.length_map, List.length_nil, List.length_cons, List.length_append]; omega))); rfl) | ((first | ((with_reducible refine gS ?_); apply Es_q) | ((with_reducible refine gD ?_); apply Ed_q)); rfl; (first | rfl | (refine w_ff ?_; assumption)); (first | refine LStep_simp (T := Tryz.tab) rfl rfl | refine LStep_lenM (T := Tryz.tab) rfl rfl rfl rfl | (refine LStep_pickF rfl rfl ?_ rfl rfl; assumption) | (refine LStep_indexM (T := Tryz.tab) (c := ?_) rfl rfl rfl rfl rfl rfl ?_; rotate_left; assumption) | (refine LStep_lit (T := Tryz.tab) rfl rfl rfl rfl rfl rfl rfl rfl ?_; (refine Nat.le_of_ble_eq_true ?_; rfl)))) | (with_reducible refine Es_nil ?_) | ((with_reducible refine Ed_nil ?_ ?_); kernel_rfl) | (with_reducible refine then_n ?_) | (with_reducible refine then_r ?_) | (with_reducible refine block_r ?_) | ((with_reducible refine gR ?_); first | refine ret1 rfl ?_ | refine ret2 rfl rfl ?_ | refine ret0 ?_ | refine end1 rfl ?_ | refine end0 ?_))
                  all_goals first
                    | rfl
                    | trace_state
              · have g5 : leb (owT Y c b n) 0 = true := by rw [leb_t]; omega
                have hn' := d2 (fun h => by rw [Bool.and_eq_true, Bool.and_eq_true] at h; exact absurd (of_decide_eq_true h.2.1) hz)
                repeat' (first | ((with_reducible refine gA ?_); (first | refine AW_seq ?_ | refine AW_region ?_ | refine AW_regionD Tryz.mixed ?_ | (refine AW_condY rfl ?_ ?_; assumption) | refine AW_block ?_ | refine AW_skip ?_ | refine AW_exit ?_)) | ((first | ((with_reducible refine gS ?_); apply Es_q) | ((with_reducible refine gD ?_); apply Ed_q)); rfl; (first | rfl | (refine w_ff ?_; assumption)); refine LStep_fitQ (T := Tryz.tab) rfl rfl hmin) | (first | ((with_reducible refine gS ?_); refine Es_s (T := Tryz.tab) rfl rfl rfl rfl ?_) | ((with_reducible refine gD ?_); refine Ed_s (T := Tryz.tab) rfl rfl rfl rfl ?_)) | ((first | ((with_reducible refine gS ?_); apply Es_q) | ((with_reducible refine gD ?_); apply Ed_q)); rfl; (first | rfl | (refine w_ff ?_; assumption)); (first | refine LStep_leqT rfl rfl rfl rfl | refine LStep_call (cn) rfl rfl rfl rfl | refine LStep_call (cbn) rfl rfl rfl rfl)) | ((first | ((with_reducible refine gS ?_); apply Es_q) | ((with_reducible refine gD ?_); apply Ed_q)); rfl; (first | rfl | (refine w_ff ?_; assumption)); (first | refine LStep_simp (T := Tryz.tab) rfl rfl | refine LStep_lenM (T := Tryz.tab) rfl rfl rfl rfl | (refine LStep_add rfl rfl rfl rfl ?_; (refine IntWalk.i64_in _ ?_; first | omega | (simp only [cmps] at *; omega))) | (refine LStep_pickF rfl rfl ?_ rfl rfl; assumption) | (refine LStep_indexM (T := Tryz.tab) (c := ?_) rfl rfl rfl rfl rfl rfl ?_; rotate_left; assumption))) | (with_reducible refine Es_nil ?_) | ((with_reducible refine Ed_nil ?_ ?_); kernel_rfl) | (with_reducible refine then_n ?_) | (with_reducible refine then_e ?_) | ((with_reducible refine block_e ?_ ?_); rfl))
                all_goals first
                  | (refine ⟨k + 1, ?_, by omega, by (repeat' (first | exact trivial | exact rfl | (refine ⟨Or.inl rfl, ?_⟩) | (refine ⟨Or.inr rfl, ?_⟩) | (refine ⟨Or.inr trivial, ?_⟩) | (refine ⟨rfl, ?_⟩) | (refine ⟨?_, ?_⟩))), by (repeat' (first | exact trivial | exact rfl | (refine ⟨Or.inl rfl, ?_⟩) | (refine ⟨Or.inr rfl, ?_⟩) | (refine ⟨Or.inr trivial, ?_⟩) | (refine ⟨rfl, ?_⟩) | (refine ⟨?_, ?_⟩))), by (repeat' (first | exact trivial | exact rfl | (refine ⟨Or.inl rfl, ?_⟩) | (refine ⟨Or.inr rfl, ?_⟩) | (refine ⟨Or.inr trivial, ?_⟩) | (refine ⟨rfl, ?_⟩) | (refine ⟨?_, ?_⟩))), by (repeat' (first | exact trivial | exact rfl | (refine ⟨Or.inl rfl, ?_⟩) | (refine ⟨Or.inr rfl, ?_⟩) | (refine ⟨Or.inr trivial, ?_⟩) | (refine ⟨rfl, ?_⟩) | (refine ⟨?_, ?_⟩)))⟩; exact ⟨by omega, hn'⟩)
                  | trace_state
        · have hn8 : k = P.length := by omega
          subst hn8
          have g3 : ltb ((P.length : Nat) : Int) ((P.length : Nat) : Int) = false := by rw [ltb_f]; omega
          rw [List.take_length] at hno
          rw [List.findSome?_eq_none_iff.2 hno]
          repeat' (first | ((with_reducible refine gA ?_); (first | refine AW_seq ?_ | refine AW_region ?_ | (refine AW_condN rfl ?_ ?_; assumption) | refine AW_ret ?_ | refine AW_exit ?_)) | ((with_reducible refine gS ?_); refine Es_s (T := Tryz.tab) rfl rfl rfl rfl ?_) | (((with_reducible refine gS ?_); apply Es_q); rfl; rfl; refine LStep_lenM (T := Tryz.tab) rfl rfl rfl rfl) | (with_reducible refine Es_nil ?_) | (with_reducible refine then_n ?_) | (with_reducible refine then_e ?_) | ((with_reducible refine block_e ?_ ?_); rfl) | ((with_reducible refine gR ?_); first | refine ret1 rfl ?_ | refine ret2 rfl rfl ?_ | refine ret0 ?_ | refine end1 rfl ?_ | refine end0 ?_))
          all_goals first
            | rfl
            | trace_state
end Go.Proofs.YtbhgpeghddnidaaGreat
namespace Go.Proofs.YtbhgpeghddnidaaGreat
open Go.SL
/-! ### First, less -/
theorem find_at {α β : Type} {g : α → Option β} {P : List α} {k : Nat} {x : α} (hx : P[k]? = some x) (h0 : ∀ y ∈ P.take k, g y = none) :
    (∀ b, g x = some b → P.findSome? g = some b) ∧ (g x = none → ∀ y ∈ P.take (k + 1), g y = none) := by
  refine ⟨fun b hb => ?_, fun h y hy => ?_⟩
  · rw [split_at hx, List.findSome?_append, List.findSome?_eq_none_iff.2 h0, Option.none_or, List.findSome?_cons, hb]
  · rcases mem_take_snoc hx hy with q | q
    · exact h0 y q
    · rw [q]; exact h
set_option maxRecDepth 10000 in
set_option maxHeartbeats 4000000 in
theorem rFirst_ac (Y : List Db) (c : ByteArray) (hX : Y.length ≤ 4096) (hm : Y.all mayD = true) (hs : ∀ d ∈ Y, smD d) :
    AC Tryz.prog 39 [.d (.sl 4 (Y.map dbE)), .d (.sc (.string c))] [] [] (fun r _ => r = .d (ringE (ringR zB (owT Y c) (parN Y) lts))) := by
  have cp := rParties_ac Y hX hs
  rw [mF_all hm] at cp
  have hpl := parN_len Y
  have cr := fun a (ha : a ∈ parN Y) => rRing_ac Y (parN Y) c hX (may_bd hm) (by omega) (parN Y).length [a] (by simp) (by simp) (fun x hx => by rw [List.mem_singleton.1 hx]; exact ha) (by simp only [List.length_cons, List.length_nil]; omega)
  have hrr : ringR zB (owT Y c) (parN Y) lts = (parN Y).findSome? fun a => alongR zB (owT Y c) (parN Y) lts (parN Y).length [a] := rfl
  rw [hrr]
  have hdone := fun (k : Nat) (x : ByteArray) (hx : (parN Y)[k]? = some x) => find_at (g := fun a => alongR zB (owT Y c) (parN Y) lts (parN Y).length [a]) hx
  generalize parN Y = P at *
  refine AC_enter Tryz.func39 rfl Tryz.ntmps39 (rv := [.tmp 4]) rfl rfl (by simp) (fun w X G => ?_)
  repeat' (first | ((with_reducible refine gA ?_); (first | refine AW_seq ?_ | refine AW_region ?_ | refine AW_block ?_)) | ((with_reducible refine gS ?_); refine Es_s (T := Tryz.tab) rfl rfl rfl rfl ?_) | (((with_reducible refine gS ?_); apply Es_q); rfl; rfl; refine LStep_call (cp) rfl rfl rfl rfl) | (with_reducible refine Es_nil ?_) | (with_reducible refine then_n ?_))
  refine AW_forE (S := Nat) (fun k => k ≤ P.length ∧ ∀ j ∈ P.take k, alongR zB (owT Y c) P lts P.length [j] = none) (fun k => [(6, .d (.sc (.int .i64 (k : Nat))))]) (fun _ => []) (fun k => P.length - k) 0 ⟨by omega, by simp⟩ (by (repeat' (first | exact trivial | exact rfl | (refine ⟨Or.inl rfl, ?_⟩) | (refine ⟨Or.inr rfl, ?_⟩) | (refine ⟨Or.inr trivial, ?_⟩) | (refine ⟨rfl, ?_⟩) | (refine ⟨?_, ?_⟩)))) (by (repeat' (first | exact trivial | exact rfl | (refine ⟨Or.inl rfl, ?_⟩) | (refine ⟨Or.inr rfl, ?_⟩) | (refine ⟨Or.inr trivial, ?_⟩) | (refine ⟨rfl, ?_⟩) | (refine ⟨?_, ?_⟩)))) ?_
  intro k ⟨hk, hno⟩
  by_cases hlt : k < P.length
  · obtain ⟨n, hn, _⟩ := drop_at hlt
    obtain ⟨d1, d2⟩ := hdone k n hn hno
    have ci := cr n (List.mem_of_getElem? hn)
    have g3 : ltb ((k : Nat) : Int) ((P.length : Nat) : Int) = true := by rw [ltb_t]; omega
    have hmp : ([n] : List ByteArray).map sN = [[.sc (.string n)]] := rfl
    rw [hmp] at ci
    cases hal : alongR zB (owT Y c) P lts P.length [n] with
    | none =>
      have hn' := d2 hal
      rw [hal, show ringE none = D.sc (.slice none 0 0) from rfl] at ci
      repeat' (first | ((with_reducible refine gA ?_); (first | refine AW_seq ?_ | refine AW_region ?_ | refine AW_condF rfl ?_ | (refine AW_condY rfl ?_ ?_; assumption) | refine AW_block ?_ | refine AW_skip ?_)) | ((with_reducible refine gS ?_); refine Es_s (T := Tryz.tab) rfl rfl rfl rfl ?_) | (((with_reducible refine gS ?_); apply Es_q); rfl; rfl; (first | refine LStep_call (ci) rfl rfl rfl rfl | refine LStep_neqNil0 (T := Tryz.tab) rfl rfl rfl rfl)) | (((with_reducible refine gS ?_); apply Es_q); rfl; rfl; (first | refine LStep_lenM (T := Tryz.tab) rfl rfl rfl rfl | (refine LStep_add rfl rfl rfl rfl ?_; (refine IntWalk.i64_in _ ?_; first | omega | (simp only [cmps] at *; omega))) | (refine LStep_indexM (T := Tryz.tab) (c := ?_) rfl rfl rfl rfl rfl rfl ?_; rotate_left; assumption) | (refine LStep_lit (T := Tryz.tab) rfl rfl rfl rfl rfl rfl rfl rfl ?_; (refine Nat.le_of_ble_eq_true ?_; rfl)))) | (with_reducible refine Es_nil ?_) | (with_reducible refine then_n ?_) | (with_reducible refine block_n ?_))
      all_goals first
        | (refine ⟨k + 1, ?_, by omega, by (repeat' (first | exact trivial | exact rfl | (refine ⟨Or.inl rfl, ?_⟩) | (refine ⟨Or.inr rfl, ?_⟩) | (refine ⟨Or.inr trivial, ?_⟩) | (refine ⟨rfl, ?_⟩) | (refine ⟨?_, ?_⟩))), by (repeat' (first | exact trivial | exact rfl | (refine ⟨Or.inl rfl, ?_⟩) | (refine ⟨Or.inr rfl, ?_⟩) | (refine ⟨Or.inr trivial, ?_⟩) | (refine ⟨rfl, ?_⟩) | (refine ⟨?_, ?_⟩))), by (repeat' (first | exact trivial | exact rfl | (refine ⟨Or.inl rfl, ?_⟩) | (refine ⟨Or.inr rfl, ?_⟩) | (refine ⟨Or.inr trivial, ?_⟩) | (refine ⟨rfl, ?_⟩) | (refine ⟨?_, ?_⟩))), by (repeat' (first | exact trivial | exact rfl | (refine ⟨Or.inl rfl, ?_⟩) | (refine ⟨Or.inr rfl, ?_⟩) | (refine ⟨Or.inr trivial, ?_⟩) | (refine ⟨rfl, ?_⟩) | (refine ⟨?_, ?_⟩)))⟩; exact ⟨by omega, hn'⟩)
        | trace_state
    | some r =>
      have hr := d1 r hal
      have hrne := alongR_ne (by simp) hal
      have hrne' : r.map sN ≠ [] := by simpa using hrne
      rw [hal, show ringE (some r) = D.sl 1 (r.map sN) from rfl] at ci
      rw [hr]
      repeat' (first | ((with_reducible refine gA ?_); (first | refine AW_seq ?_ | refine AW_region ?_ | refine AW_condT rfl ?_ | (refine AW_condY rfl ?_ ?_; assumption) | refine AW_block ?_ | refine AW_ret ?_ | refine AW_skip ?_)) | ((with_reducible refine gS ?_); refine Es_s (T := Tryz.tab) rfl rfl rfl rfl ?_) | (((with_reducible refine gS ?_); apply Es_q); rfl; rfl; (first | refine LStep_call (ci) rfl rfl rfl rfl | refine LStep_neqNilS (T := Tryz.tab) rfl rfl rfl rfl hrne')) | (((with_reducible refine gS ?_); apply Es_q); rfl; rfl; (first | refine LStep_lenM (T := Tryz.tab) rfl rfl rfl rfl | (refine LStep_indexM (T := Tryz.tab) (c := ?_) rfl rfl rfl rfl rfl rfl ?_; rotate_left; assumption) | (refine LStep_lit (T := Tryz.tab) rfl rfl rfl rfl rfl rfl rfl rfl ?_; (refine Nat.le_of_ble_eq_true ?_; rfl)))) | (with_reducible refine Es_nil ?_) | (with_reducible refine then_n ?_) | (with_reducible refine then_r ?_) | (with_reducible refine block_r ?_) | ((with_reducible refine gR ?_); first | refine ret1 rfl ?_ | refine ret2 rfl rfl ?_ | refine ret0 ?_ | refine end1 rfl ?_ | refine end0 ?_))
      all_goals first
        | rfl
        | trace_state
  · have hkl : k = P.length := by omega
    subst hkl
    have g3 : ltb ((P.length : Nat) : Int) ((P.length : Nat) : Int) = false := by rw [ltb_f]; omega
    rw [List.take_length] at hno
    rw [List.findSome?_eq_none_iff.2 hno]
    repeat' (first | ((with_reducible refine gA ?_); (first | refine AW_seq ?_ | refine AW_region ?_ | (refine AW_condN rfl ?_ ?_; assumption) | refine AW_ret ?_ | refine AW_exit ?_)) | ((with_reducible refine gS ?_); refine Es_s (T := Tryz.tab) rfl rfl rfl rfl ?_) | (((with_reducible refine gS ?_); apply Es_q); rfl; rfl; refine LStep_lenM (T := Tryz.tab) rfl rfl rfl rfl) | (with_reducible refine Es_nil ?_) | (with_reducible refine then_n ?_) | (with_reducible refine then_e ?_) | ((with_reducible refine block_e ?_ ?_); rfl) | ((with_reducible refine gR ?_); first | refine ret1 rfl ?_ | refine ret2 rfl rfl ?_ | refine ret0 ?_ | refine end1 rfl ?_ | refine end0 ?_))
    all_goals first
      | rfl
      | trace_state
/-- a debt by so much -/
def lsF (k : DK) (n : Int) (d : Db) : List Db := if d.1 = k then (if 0 < d.2 - n then [(d.1, d.2 - n)] else []) else (if 0 < d.2 then [d] else [])
def lessL (k : DK) (n : Int) (Y : List Db) : List Db := Y.flatMap (lsF k n)
theorem lsF_len (k : DK) (n : Int) (d : Db) : (lsF k n d).length ≤ 1 := by unfold lsF; split <;> split <;> simp
theorem lsF_in {k : DK} {n : Int} {d x : Db} (h : x ∈ lsF k n d) : x.1 = d.1 ∧ 0 < x.2 ∧ x.2 = if d.1 = k then d.2 - n else d.2 := by
  unfold lsF at h
  split at h <;> rename_i e <;> split at h
  · rename_i h0; rw [List.mem_singleton.1 h]; exact ⟨rfl, h0, by rw [if_pos e]⟩
  · cases h
  · rename_i h0; rw [List.mem_singleton.1 h]; exact ⟨rfl, h0, by rw [if_neg e]⟩
  · cases h
theorem less_told {Y : List Db} {F : DK → Int} (h : Told Y F) {k : DK} {n : Int} (hn : 0 ≤ n) : Told (lessL k n Y) (fun j => if j = k then F j - n else F j) := by
  refine ⟨?_, fun x => ⟨fun hx => ?_, fun ⟨h1, h2⟩ => ?_⟩⟩
  · refine fm_pw h.1 (fun d _ => ?_) (fun a b hab x hx y hy => ?_)
    · have := lsF_len k n d
      match lsF k n d, this with
      | [], _ => exact List.Pairwise.nil
      | [_], _ => exact List.pairwise_singleton _ _
      | _ :: _ :: _, h => simp at h
    · rw [(lsF_in hx).1, (lsF_in hy).1]; exact hab
  · obtain ⟨d, hd, hx⟩ := List.mem_flatMap.1 hx
    obtain ⟨e1, e2, e3⟩ := lsF_in hx
    obtain ⟨d1, d2⟩ := (h.2 d).1 hd
    refine ⟨e2, ?_⟩
    dsimp only
    rw [e1, e3]
    split
    · rw [d2]
    · exact d2
  · dsimp only at h2
    by_cases e : x.1 = k
    · rw [if_pos e] at h2
      refine List.mem_flatMap.2 ⟨(x.1, F x.1), (h.2 _).2 ⟨by dsimp only; omega, rfl⟩, ?_⟩
      unfold lsF
      rw [if_pos e, if_pos (by dsimp only; omega)]
      dsimp only
      rw [h2]
      exact List.mem_singleton.2 rfl
    · rw [if_neg e] at h2
      refine List.mem_flatMap.2 ⟨x, (h.2 _).2 ⟨h1, h2⟩, ?_⟩
      unfold lsF
      rw [if_neg e, if_pos h1]
      exact List.mem_singleton.2 rfl
theorem lessL_snoc (k : DK) (n : Int) {Y : List Db} {i : Nat} {d : Db} (hd : Y[i]? = some d) : lessL k n (Y.take (i + 1)) = lessL k n (Y.take i) ++ lsF k n d := by
  unfold lessL
  rw [take_at hd, List.flatMap_append, List.flatMap_cons, List.flatMap_nil, List.append_nil]
theorem lessL_len (k : DK) (n : Int) (Y : List Db) : (lessL k n Y).length ≤ Y.length := by
  have := flat_le (lsF k n) 1 (lsF_len k n) Y
  rw [Nat.mul_one] at this
  exact this
set_option maxRecDepth 10000 in
set_option maxHeartbeats 8000000 in
theorem rLess_ac (Y : List Db) (c p q : ByteArray) (n : Int) (hX : Y.length ≤ 4096) (hb : ∀ d ∈ Y, 0 ≤ d.2 ∧ d.2 ≤ 1099511627776) (hn : 0 ≤ n ∧ n ≤ 1099511627776) :
    AC Tryz.prog 40 [.d (.sl 4 (Y.map dbE)), .d (.sc (.string p)), .d (.sc (.string q)), .d (.sc (.string c)), .d (.sc (.int .i64 n))] [] [] (fun r _ => r = .d (.sl 4 ((lessL (c, p, q) n Y).map dbE))) := by
  refine AC_enter Tryz.func40 rfl Tryz.ntmps40 (rv := [.tmp 10]) rfl rfl (by simp) (fun w X G => ?_)
  repeat' (first | ((with_reducible refine gA ?_); (first | refine AW_seq ?_ | refine AW_region ?_ | refine AW_block ?_)) | ((with_reducible refine gS ?_); refine Es_s (T := Tryz.tab) rfl rfl rfl rfl ?_) | (with_reducible refine Es_nil ?_) | (with_reducible refine then_n ?_))
  refine AW_openNil (t := 11) (id := 2000) (e := 38) (sz := 4) rfl rfl rfl rfl ?_
  refine AW_forE (S := Nat) (fun k => k ≤ Y.length) (fun k => [(12, .d (.sc (.int .i64 (k : Nat)))), (11, .own 2000 ((lessL (c, p, q) n (Y.take k)).map dbE).length)]) (fun k => [(2000, some (.arr 38 4 ((lessL (c, p, q) n (Y.take k)).map dbE)))]) (fun k => Y.length - k) 0 (by omega) (by (repeat' (first | exact trivial | exact rfl | (refine ⟨Or.inl rfl, ?_⟩) | (refine ⟨Or.inr rfl, ?_⟩) | (refine ⟨Or.inr trivial, ?_⟩) | (refine ⟨rfl, ?_⟩) | (refine ⟨?_, ?_⟩)))) (by (repeat' (first | exact trivial | exact rfl | (refine ⟨Or.inl rfl, ?_⟩) | (refine ⟨Or.inr rfl, ?_⟩) | (refine ⟨Or.inr trivial, ?_⟩) | (refine ⟨rfl, ?_⟩) | (refine ⟨?_, ?_⟩)))) ?_
  intro k hk
  by_cases hlt : k < Y.length
  · obtain ⟨d, hd, _⟩ := drop_at hlt
    have g1 : ltb ((k : Nat) : Int) ((Y.length : Nat) : Int) = true := by rw [ltb_t]; omega
    have hsn := lessL_snoc (c, p, q) n hd
    have hbd := hb d (List.mem_of_getElem? hd)
    have hlen : (lessL (c, p, q) n (Y.take k)).length ≤ 4096 := by
      have := lessL_len (c, p, q) n (Y.take k)
      rw [List.length_take] at this
      omega
    obtain ⟨⟨c1, p1, q1⟩, m⟩ := d
    dsimp only at hbd
    have hls : lsF (c, p, q) n ((c1, p1, q1), m) = if (c1, p1, q1) = (c, p, q) then (if 0 < m - n then [((c1, p1, q1), m - n)] else []) else (if 0 < m then [((c1, p1, q1), m)] else []) := rfl
    have hk1 : eqs p1 p = true → eqs q1 q = true → eqs c1 c = true → (c1, p1, q1) = (c, p, q) := fun a b d => by rw [(eqs_t).1 a, (eqs_t).1 b, (eqs_t).1 d]
    have hk0 : (eqs p1 p = false ∨ eqs q1 q = false ∨ eqs c1 c = false) → ¬ (c1, p1, q1) = (c, p, q) := fun h e => by
      obtain ⟨e1, e2⟩ := Prod.mk.inj e
      obtain ⟨e2, e3⟩ := Prod.mk.inj e2
      rcases h with h | h | h
      · rw [(eqs_t).2 e2] at h; cases h
      · rw [(eqs_t).2 e3] at h; cases h
      · rw [(eqs_t).2 e1] at h; cases h
    generalize hE' : lessL (c, p, q) n (Y.take (k + 1)) = E' at *
    generalize lessL (c, p, q) n (Y.take k) = E at *
    have hA1 : eqs p1 p = true → eqs q1 q = true → eqs c1 c = true → ltb 0 (m - n) = true → E'.map dbE = E.map dbE ++ [[.sc (.string p1), .sc (.string q1), .sc (.string c1), .sc (.int .i64 (m - n))]] := fun a b d h => by
      rw [hsn, hls, if_pos (hk1 a b d), if_pos ((ltb_t).1 h), List.map_append]; rfl
    have hA0 : eqs p1 p = true → eqs q1 q = true → eqs c1 c = true → ltb 0 (m - n) = false → E' = E := fun a b d h => by
      have := (ltb_f).1 h
      rw [hsn, hls, if_pos (hk1 a b d), if_neg (by omega), List.append_nil]
    have hB1 : (eqs p1 p = false ∨ eqs q1 q = false ∨ eqs c1 c = false) → ltb 0 m = true → E'.map dbE = E.map dbE ++ [[.sc (.string p1), .sc (.string q1), .sc (.string c1), .sc (.int .i64 m)]] := fun a h => by
      rw [hsn, hls, if_neg (hk0 a), if_pos ((ltb_t).1 h), List.map_append]; rfl
    have hB0 : (eqs p1 p = false ∨ eqs q1 q = false ∨ eqs c1 c = false) → ltb 0 m = false → E' = E := fun a h => by
      have := (ltb_f).1 h
      rw [hsn, hls, if_neg (hk0 a), if_neg (by omega), List.append_nil]
    clear hls hsn
    repeat' (first | ((with_reducible refine gA ?_); (first | refine AW_seq ?_ | refine AW_region ?_ | refine AW_condF rfl ?_ | (refine AW_condY rfl ?_ ?_; assumption) | (refine AW_cond rfl (fun hc => ?_) (fun hc => ?_) <;> try (exfalso; simp only [cmpL] at hc; omega)) | refine AW_block ?_ | refine AW_skip ?_)) | ((with_reducible refine gS ?_); refine Es_s (T := Tryz.tab) rfl rfl rfl rfl ?_) | (((with_reducible refine gS ?_); apply Es_xs); rfl; (first | rfl | (refine w_tt ?_; assumption)); (refine LStep_append (T := Tryz.tab) rfl rfl rfl rfl rfl rfl rfl rfl rfl rfl ?_ ?_ ?_; rfl; (simp only [List.length_map, List.length_cons, List.length_nil]; omega); (unfold maxLen; simp only [List.length_map, List.length_cons, List.length_nil]; omega)); rfl) | (((with_reducible refine gS ?_); apply Es_q); rfl; (first | rfl | (refine w_tt ?_; assumption)); (first | refine LStep_simp (T := Tryz.tab) rfl rfl | refine LStep_lenM (T := Tryz.tab) rfl rfl rfl rfl | (refine LStep_add rfl rfl rfl rfl ?_; (refine IntWalk.i64_in _ ?_; first | omega | (simp only [cmps] at *; omega))) | (refine LStep_sub rfl rfl rfl rfl ?_; (refine IntWalk.i64_in _ ?_; first | omega | (simp only [cmps] at *; omega))) | (refine LStep_pickT rfl rfl ?_ rfl rfl; assumption) | (refine LStep_pickF rfl rfl ?_ rfl rfl; assumption) | (refine LStep_indexM (T := Tryz.tab) (c := ?_) rfl rfl rfl rfl rfl rfl ?_; rotate_left; assumption) | (refine LStep_lit (T := Tryz.tab) rfl rfl rfl rfl rfl rfl rfl rfl ?_; (refine Nat.le_of_ble_eq_true ?_; rfl)))) | (refine Es_skip rfl ?_ rfl ?_; (first | rfl | (refine w_tf ?_; assumption) | (refine w_ft ?_; assumption))) | (((with_reducible refine gS ?_); apply Es_xs); rfl; rfl; refine LStep_allocN (T := Tryz.tab) rfl rfl rfl rfl rfl rfl; rfl) | (((with_reducible refine gS ?_); apply Es_xn); rfl; rfl; (refine LStep_storeN (T := Tryz.tab) rfl rfl rfl rfl rfl rfl rfl ?_ rfl; (refine Nat.le_of_ble_eq_true ?_; rfl)); rfl) | (refine Es_split rfl ?_ (fun _ => ?_) (fun _ => ?_); ((fail_if_success (refine und_t ?_; assumption)); (fail_if_success (refine und_f ?_; assumption)); exact trivial)) | (with_reducible refine Es_nil ?_) | (with_reducible refine then_n ?_) | (with_reducible refine block_n ?_))
    all_goals first
      | (refine ⟨k + 1, by omega, by omega, ?_, by (repeat' (first | exact trivial | exact rfl | (refine ⟨Or.inl rfl, ?_⟩) | (refine ⟨Or.inr rfl, ?_⟩) | (refine ⟨Or.inr trivial, ?_⟩) | (refine ⟨rfl, ?_⟩) | (refine ⟨?_, ?_⟩))), ?_, by (repeat' (first | exact trivial | exact rfl | (refine ⟨Or.inl rfl, ?_⟩) | (refine ⟨Or.inr rfl, ?_⟩) | (refine ⟨Or.inr trivial, ?_⟩) | (refine ⟨rfl, ?_⟩) | (refine ⟨?_, ?_⟩)))⟩
         · rw [hE', hA1 (by assumption) (by assumption) (by assumption) (by assumption)]; (repeat' (first | exact trivial | exact rfl | (refine ⟨Or.inl rfl, ?_⟩) | (refine ⟨Or.inr rfl, ?_⟩) | (refine ⟨Or.inr trivial, ?_⟩) | (refine ⟨rfl, ?_⟩) | (refine ⟨?_, ?_⟩)))
         · rw [hE', hA1 (by assumption) (by assumption) (by assumption) (by assumption)]; (repeat' (first | exact trivial | exact rfl | (refine ⟨Or.inl rfl, ?_⟩) | (refine ⟨Or.inr rfl, ?_⟩) | (refine ⟨Or.inr trivial, ?_⟩) | (refine ⟨rfl, ?_⟩) | (refine ⟨?_, ?_⟩))))
      | (refine ⟨k + 1, by omega, by omega, ?_, by (repeat' (first | exact trivial | exact rfl | (refine ⟨Or.inl rfl, ?_⟩) | (refine ⟨Or.inr rfl, ?_⟩) | (refine ⟨Or.inr trivial, ?_⟩) | (refine ⟨rfl, ?_⟩) | (refine ⟨?_, ?_⟩))), ?_, by (repeat' (first | exact trivial | exact rfl | (refine ⟨Or.inl rfl, ?_⟩) | (refine ⟨Or.inr rfl, ?_⟩) | (refine ⟨Or.inr trivial, ?_⟩) | (refine ⟨rfl, ?_⟩) | (refine ⟨?_, ?_⟩)))⟩
         · rw [hE', hA0 (by assumption) (by assumption) (by assumption) (by assumption)]; (repeat' (first | exact trivial | exact rfl | (refine ⟨Or.inl rfl, ?_⟩) | (refine ⟨Or.inr rfl, ?_⟩) | (refine ⟨Or.inr trivial, ?_⟩) | (refine ⟨rfl, ?_⟩) | (refine ⟨?_, ?_⟩)))
         · rw [hE', hA0 (by assumption) (by assumption) (by assumption) (by assumption)]; (repeat' (first | exact trivial | exact rfl | (refine ⟨Or.inl rfl, ?_⟩) | (refine ⟨Or.inr rfl, ?_⟩) | (refine ⟨Or.inr trivial, ?_⟩) | (refine ⟨rfl, ?_⟩) | (refine ⟨?_, ?_⟩))))
      | (refine ⟨k + 1, by omega, by omega, ?_, by (repeat' (first | exact trivial | exact rfl | (refine ⟨Or.inl rfl, ?_⟩) | (refine ⟨Or.inr rfl, ?_⟩) | (refine ⟨Or.inr trivial, ?_⟩) | (refine ⟨rfl, ?_⟩) | (refine ⟨?_, ?_⟩))), ?_, by (repeat' (first | exact trivial | exact rfl | (refine ⟨Or.inl rfl, ?_⟩) | (refine ⟨Or.inr rfl, ?_⟩) | (refine ⟨Or.inr trivial, ?_⟩) | (refine ⟨rfl, ?_⟩) | (refine ⟨?_, ?_⟩)))⟩
         · rw [hE', hB1 (by first | exact .inl (by assumption) | exact .inr (.inl (by assumption)) | exact .inr (.inr (by assumption))) (by assumption)]; (repeat' (first | exact trivial | exact rfl | (refine ⟨Or.inl rfl, ?_⟩) | (refine ⟨Or.inr rfl, ?_⟩) | (refine ⟨Or.inr trivial, ?_⟩) | (refine ⟨rfl, ?_⟩) | (refine ⟨?_, ?_⟩)))
         · rw [hE', hB1 (by first | exact .inl (by assumption) | exact .inr (.inl (by assumption)) | exact .inr (.inr (by assumption))) (by assumption)]; (repeat' (first | exact trivial | exact rfl | (refine ⟨Or.inl rfl, ?_⟩) | (refine ⟨Or.inr rfl, ?_⟩) | (refine ⟨Or.inr trivial, ?_⟩) | (refine ⟨rfl, ?_⟩) | (refine ⟨?_, ?_⟩))))
      | (refine ⟨k + 1, by omega, by omega, ?_, by (repeat' (first | exact trivial | exact rfl | (refine ⟨Or.inl rfl, ?_⟩) | (refine ⟨Or.inr rfl, ?_⟩) | (refine ⟨Or.inr trivial, ?_⟩) | (refine ⟨rfl, ?_⟩) | (refine ⟨?_, ?_⟩))), ?_, by (repeat' (first | exact trivial | exact rfl | (refine ⟨Or.inl rfl, ?_⟩) | (refine ⟨Or.inr rfl, ?_⟩) | (refine ⟨Or.inr trivial, ?_⟩) | (refine ⟨rfl, ?_⟩) | (refine ⟨?_, ?_⟩)))⟩
         · rw [hE', hB0 (by first | exact .inl (by assumption) | exact .inr (.inl (by assumption)) | exact .inr (.inr (by assumption))) (by assumption)]; (repeat' (first | exact trivial | exact rfl | (refine ⟨Or.inl rfl, ?_⟩) | (refine ⟨Or.inr rfl, ?_⟩) | (refine ⟨Or.inr trivial, ?_⟩) | (refine ⟨rfl, ?_⟩) | (refine ⟨?_, ?_⟩)))
         · rw [hE', hB0 (by first | exact .inl (by assumption) | exact .inr (.inl (by assumption)) | exact .inr (.inr (by assumption))) (by assumption)]; (repeat' (first | exact trivial | exact rfl | (refine ⟨Or.inl rfl, ?_⟩) | (refine ⟨Or.inr rfl, ?_⟩) | (refine ⟨Or.inr trivial, ?_⟩) | (refine ⟨rfl, ?_⟩) | (refine ⟨?_, ?_⟩))))
      | trace_state
  · have hkl : k = Y.length := by omega
    subst hkl
    have g1 : ltb ((Y.length : Nat) : Int) ((Y.length : Nat) : Int) = false := by rw [ltb_f]; omega
    rw [List.take_length]
    repeat' (first | ((with_reducible refine gRc ?_); refine AW_freeze [10] (id := 2000) ⟨rfl, trivial⟩ rfl rfl ?_) | ((with_reducible refine gA ?_); (first | refine AW_seq ?_ | refine AW_region ?_ | (refine AW_condN rfl ?_ ?_; assumption) | refine AW_ret ?_ | refine AW_exit ?_)) | ((with_reducible refine gS ?_); refine Es_s (T := Tryz.tab) rfl rfl rfl rfl ?_) | (((with_reducible refine gS ?_); apply Es_q); rfl; rfl; refine LStep_lenM (T := Tryz.tab) rfl rfl rfl rfl) | (with_reducible refine Es_nil ?_) | (with_reducible refine then_n ?_) | (with_reducible refine then_e ?_) | ((with_reducible refine block_e ?_ ?_); rfl) | ((with_reducible refine gR ?_); first | refine ret1 rfl ?_ | refine ret2 rfl rfl ?_ | refine ret0 ?_ | refine end1 rfl ?_ | refine end0 ?_))
    all_goals first
      | rfl
      | trace_state
end Go.Proofs.YtbhgpeghddnidaaGreat
