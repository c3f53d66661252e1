import Derived.Test.YtodgjgkoaahhmaaGreatDoorEE
import Derived.Test.YtodgjgkoaahhmaaGreatDoorFJ
import Derived.Laws.BytesArg
namespace Go.Proofs.YtodgjgkoaahhmaaGreatDoor
open Go.SL
/-! ### TopStow: bytes made a text -/
section
variable {P : Program} {O : Org} {T : Tab P} {env : Env} {h : Hp} {o : Oper}
theorem LStep_bytesStr {src dst e : Nat} {x : Operand} {xs : List Int} (ho : o.op = .convert src dst x) (hS : T.desc src = some (.slice e)) (hE : T.desc e = some (.int .u8)) (hD : T.desc dst = some .string) (hx : evalA env x = .d (.sl 1 (xs.map fun n => [.sc (.int .u8 n)]))) (h0 : 0 < xs.length) (hd : dstOk o.dst O.nt = true) :
    LStep P O o env h [] [] (.d (.sc (.string (strOfNums xs)))) [] := by
  refine .quiet hd (fun env' h' he _ a w G r => ⟨.string (strOfNums xs), ?_, .d _ _ (.sc _ rfl)⟩)
  have h1 := evalA_rep r.env x
  rw [he x (by simp [ho, Op.operands]), hx] at h1
  generalize hv : a.eval x = xv at h1
  cases h1 with
  | d _ _ h1 =>
    cases h1 with
    | sl _ _ A n c b off vs hn hcap hA hsz hcell hrep =>
      rw [List.length_map] at hn
      obtain ⟨rfl, _, _⟩ := hA (by omega)
      have := run_convert_bytes_arg (P := P) w src e (T.desc_ok hS) (T.desc_ok hE) b off n c xs hn (fun i hi => by
        have hi' : i < xs.length := by omega
        have e1 : (xs.map fun n => [D.sc (.int .u8 n)])[i]? = some [.sc (.int .u8 xs[i])] := by rw [List.getElem?_map, List.getElem?_eq_getElem hi']; rfl
        have e2 := hcell i _ e1 0 _ rfl
        have e3 := hrep i _ e1 0 _ rfl
        rw [Nat.mul_one, Nat.add_zero] at e2
        generalize vs i 0 = v at e2 e3
        cases e3 with
        | sc _ _ => rw [e2, List.getD_eq_getElem?_getD, List.getElem?_eq_getElem hi']; rfl) dst (T.desc_ok hD)
      simp [execOp, ho, hv, this]
end
/-! ### the example; the ship, the loads -/
set_option maxRecDepth 10000 in
set_option maxHeartbeats 2000000 in
theorem tcounts_ac : AC Tryz.prog 4 [] [] [] (fun r _ => r = .d (.sc (.bool true))) := by
  have cs := split_ac 10 [1, 1, 1] (by omega) (by simp) (by simp) (fun x hx => by simp at hx; omega) (fun _ => by decide) (fun w hw => by
    have : w = 1 := by simpa using hw
    subst this
    have := div64z_ac 10 3 (by omega) (by omega)
    exact this) (srtR20 _ _ rfl (by simp))
  rw [show splitN 10 [1, 1, 1] = [4, 3, 3] from by decide +kernel] at cs
  have k1 : eqb ((([4, 3, 3] : List Nat).length : Nat) : Int) 3 = true := eqb_t.2 rfl
  have k2 : eqb ((4 : Nat) : Int) 4 = true := eqb_t.2 rfl
  have k0 : eqb 0 0 = true := eqb_t.2 rfl
  have k3 : eqb ((3 : Nat) : Int) 3 = true := eqb_t.2 rfl
  refine AC_enter Tryz.func4 rfl Tryz.ntmps4 (rv := [.tmp 0]) rfl rfl (by simp) (fun w X G => ?_)
  repeat' (first | ((with_reducible refine gA ?_); (first | refine AW_seq ?_ | refine AW_region ?_ | refine AW_ret ?_)) | ((with_reducible refine gS ?_); refine Es_s (T := Tryz.tab) rfl rfl rfl rfl ?_) | (((with_reducible refine gS ?_); apply Es_q); rfl; (first | rfl | (refine w_tt ?_; assumption)); refine LStep_call (cs) rfl rfl rfl rfl) | (((with_reducible refine gS ?_); apply Es_q); rfl; (first | rfl | (refine w_tt ?_; assumption)); (first | refine LStep_simp (T := Tryz.tab) rfl rfl | refine LStep_lenM (T := Tryz.tab) rfl rfl rfl rfl | (refine LStep_pickT rfl rfl ?_ rfl rfl; assumption) | (refine LStep_index (T := Tryz.tab) (c := ?_) rfl rfl rfl rfl rfl rfl ?_ ?_; rotate_left; omega; (first | assumption | rfl)) | (refine LStep_lit (T := Tryz.tab) rfl rfl rfl rfl rfl rfl rfl rfl ?_; (refine Nat.le_of_ble_eq_true ?_; rfl)))) | (with_reducible refine Es_nil ?_) | (with_reducible refine then_n ?_) | ((with_reducible refine gR ?_); first | refine ret1 rfl ?_ | refine ret2 rfl rfl ?_ | refine ret0 ?_ | refine end1 rfl ?_ | refine end0 ?_))
  all_goals first
    | rfl
    | (rw [k3]; done)
    | (exfalso; omega)
    | trace_state
theorem u8_fit {n : Int} (h : 0 ≤ n ∧ n < 256) : IntKind.u8.wrap n = n := by
  simp [IntKind.wrap, IntKind.signed, IntKind.bits]
  omega
def tship (a b c st mo : Nat) : Ship := ⟨⟨#[115, 104, 105, 112]⟩, 1 + ((a % 3 : Nat) : Int), 1 + ((b % 3 : Nat) : Int), 1 + ((c % 3 : Nat) : Int), (st : Int), 40, 40, 60, (mo : Int)⟩
set_option maxRecDepth 10000 in
set_option maxHeartbeats 2000000 in
theorem ship_ac (a b c st mo : Nat) (ha : a < 256) (hb : b < 256) (hc : c < 256) (hst : st < 65536) (hmo : mo < 65536) : AC Tryz.prog 5 [.d (.sc (.int .u8 (a : Int))), .d (.sc (.int .u8 (b : Int))), .d (.sc (.int .u8 (c : Int))), .d (.sc (.int .u16 (st : Int))), .d (.sc (.int .u16 (mo : Int)))] [] [] (fun r _ => r = .agg (tship a b c st mo).cs) := by
  have e1 : ((a : Nat) : Int).tmod 3 = ((a % 3 : Nat) : Int) := rfl
  have e2 : ((b : Nat) : Int).tmod 3 = ((b % 3 : Nat) : Int) := rfl
  have e3 : ((c : Nat) : Int).tmod 3 = ((c % 3 : Nat) : Int) := rfl
  have h1 : a % 3 < 3 := Nat.mod_lt _ (by omega)
  have h2 : b % 3 < 3 := Nat.mod_lt _ (by omega)
  have h3 : c % 3 < 3 := Nat.mod_lt _ (by omega)
  unfold tship Ship.cs
  dsimp only
  generalize a % 3 = a' at *
  generalize b % 3 = b' at *
  generalize c % 3 = c' at *
  refine AC_enterC Tryz.tab Tryz.func5 rfl Tryz.ntmps5 (a0 := 10) (t0 := 26) rfl rfl (by simp) (fun w X G => ?_)
  repeat' (first | ((with_reducible refine gA ?_); (first | refine AW_seq ?_ | refine AW_region ?_ | refine AW_ret ?_)) | ((with_reducible refine gS ?_); refine Es_s (T := Tryz.tab) rfl rfl rfl rfl ?_) | (((with_reducible refine gS ?_); apply Es_q); rfl; rfl; (first | (refine LStep_rem rfl rfl rfl ?_ e1 rfl; omega) | (refine LStep_rem rfl rfl rfl ?_ e2 rfl; omega) | (refine LStep_rem rfl rfl rfl ?_ e3 rfl; omega))) | (((with_reducible refine gS ?_); apply Es_q); rfl; rfl; (first | (refine LStep_add rfl rfl rfl rfl ?_; (refine IntWalk.i64_in _ ?_; first | omega | (simp only [cmps] at *; omega))) | (refine LStep_conv (T := Tryz.tab) rfl rfl rfl rfl rfl ?_; (refine IntWalk.i64_in _ ?_; first | omega | (simp only [cmps] at *; omega))) | refine LStep_buildN (T := Tryz.tab) rfl rfl rfl rfl rfl rfl rfl)) | (refine Es_skip rfl ?_ rfl ?_; (first | rfl | (refine w_tf ?_; assumption) | (refine w_ft ?_; assumption))) | (((with_reducible refine gS ?_); apply Es_xs); rfl; rfl; refine LStep_allocN (T := Tryz.tab) rfl rfl rfl rfl rfl rfl; rfl) | (((with_reducible refine gS ?_); apply Es_xn); rfl; rfl; (refine LStep_storeN (T := Tryz.tab) rfl rfl rfl rfl rfl rfl rfl ?_ rfl; (refine Nat.le_of_ble_eq_true ?_; rfl)); rfl) | (with_reducible refine Es_nil ?_) | (with_reducible refine then_n ?_) | ((with_reducible refine gC ?_); first | refine retC1 rfl ?_ | refine endC1 rfl ?_))
  all_goals first
    | rfl
    | trace_state
/-- a box: weight, class, port, slot -/
abbrev Bx := (Nat × Nat × Nat) × (Nat × Nat × Nat)
def bxE (b : Bx) : List D := [.sc (.int .u8 (b.1.1 : Int)), .sc (.int .u8 (b.1.2.1 : Int)), .sc (.int .u8 (b.1.2.2 : Int)), .sc (.int .u8 (b.2.1 : Int)), .sc (.int .u8 (b.2.2.1 : Int)), .sc (.int .u8 (b.2.2.2 : Int))]
def bxOk (b : Bx) : Prop := (b.1.1 < 256 ∧ b.1.2.1 < 256 ∧ b.1.2.2 < 256) ∧ b.2.1 < 256 ∧ b.2.2.1 < 256 ∧ b.2.2.2 < 256
def bxN (i : Nat) : ByteArray := strOfNums [98, 97 + ((i % 26 : Nat) : Int)]
def ldT (i : Nat) (b : Bx) : Load := ⟨⟨((b.2.1 % 3 : Nat) : Int), ((b.2.2.1 % 3 : Nat) : Int), ((b.2.2.2 % 3 : Nat) : Int)⟩, bxN i, 1 + (b.1.1 : Int), ((b.1.2.1 % 10 : Nat) : Int), ((b.1.2.2 % 5 : Nat) : Int)⟩
def ldsT (l : List Bx) : List Load := l.mapIdx ldT
theorem ldsT_len (l : List Bx) : (ldsT l).length = l.length := by unfold ldsT; rw [List.length_mapIdx]
theorem ldsT_snoc (l : List Bx) (b : Bx) : ldsT (l ++ [b]) = ldsT l ++ [ldT l.length b] := by unfold ldsT; rw [List.mapIdx_append]; show _ ++ [ldT (0 + l.length) b] = _; rw [Nat.zero_add]
theorem bxN_inj : ∀ i < 20, ∀ j < 20, bxN i = bxN j → i = j := by decide +kernel
theorem bxN_ok (i : Nat) (h : i < 20) : bnameOk (bxN i) = true := by
  have : ∀ i < 20, bnameOk (bxN i) = true := by decide +kernel
  exact this i h
theorem ldsT_at {l : List Bx} {i : Nat} {x : Load} (h : (ldsT l)[i]? = some x) : ∃ b, l[i]? = some b ∧ x = ldT i b := by
  unfold ldsT at h
  rw [List.getElem?_mapIdx] at h
  cases hb : l[i]? with
  | none => rw [hb] at h; cases h
  | some b => rw [hb] at h; exact ⟨b, rfl, (Option.some.inj h).symm⟩
theorem tplan_ok {a b c st mo : Nat} (hst : st < 65536) (hmo : mo < 65536) {l : List Bx} (hl : l.length ≤ 20) (hb : ∀ x ∈ l, bxOk x) : planE (tship a b c st mo) (ldsT l) = 0 := by
  have hS : shipOk (tship a b c st mo) = true := by
    have e : bnameOk (⟨#[115, 104, 105, 112]⟩ : ByteArray) = true := by decide +kernel
    unfold shipOk tship
    dsimp only
    rw [e]
    simp only [frB, Bool.true_and, Bool.and_eq_true, decide_eq_true_eq]
    omega
  have hA : mayAllB (tship a b c st mo) (ldsT l) = true := by
    unfold mayAllB
    rw [hS, Bool.true_and, List.all_eq_true]
    intro x hx
    obtain ⟨i, hi⟩ := List.getElem?_of_mem hx
    obtain ⟨b, hbi, rfl⟩ := ldsT_at hi
    have hil : i < l.length := (List.getElem?_eq_some_iff.1 hbi).1
    obtain ⟨⟨b1, b2, b3⟩, _⟩ := hb b (List.mem_of_getElem? hbi)
    unfold mayL ldT
    dsimp only
    rw [bxN_ok i (by omega)]
    simp only [frB, Bool.true_and, Bool.and_eq_true, decide_eq_true_eq]
    omega
  have hN : ((ldsT l).map (·.box)).Nodup := by
    rw [List.nodup_iff_pairwise_ne, List.pairwise_iff_getElem]
    intro i j hi hj hij e
    rw [List.length_map, ldsT_len] at hi hj
    have gi : ((ldsT l).map (·.box))[i]? = some (bxN i) := by
      rw [List.getElem?_map]
      unfold ldsT
      rw [List.getElem?_mapIdx, List.getElem?_eq_getElem hi]
      rfl
    have gj : ((ldsT l).map (·.box))[j]? = some (bxN j) := by
      rw [List.getElem?_map]
      unfold ldsT
      rw [List.getElem?_mapIdx, List.getElem?_eq_getElem hj]
      rfl
    have e1 := (List.getElem?_eq_some_iff.1 gi).2
    have e2 := (List.getElem?_eq_some_iff.1 gj).2
    rw [e1, e2] at e
    have := bxN_inj i (by omega) j (by omega) e
    omega
  unfold planE
  rw [hA, if_neg (by decide)]
  unfold twiceB
  rw [decide_eq_true hN]
  rfl
set_option maxRecDepth 10000 in
set_option maxHeartbeats 4000000 in
theorem tloads_ac (l : List Bx) (hl : l.length ≤ 20) (hb : ∀ x ∈ l, bxOk x) : AC Tryz.prog 6 [.d (.sl 6 (l.map bxE))] [] [] (fun r _ => r = .d (.sl 7 ((ldsT l).map Load.enc))) := by
  refine AC_enter Tryz.func6 rfl Tryz.ntmps6 (rv := [.tmp 2]) rfl rfl (by simp) (fun w X G => ?_)
  repeat' (first | ((with_reducible refine gA ?_); (first | refine AW_seq ?_ | refine AW_region ?_ | refine AW_block ?_)) | ((with_reducible refine gS ?_); refine Es_s (T := Tryz.tab) rfl rfl rfl rfl ?_) | (((with_reducible refine gS ?_); apply Es_q); rfl; rfl; refine LStep_lenM (T := Tryz.tab) rfl rfl rfl rfl) | (with_reducible refine Es_nil ?_) | (with_reducible refine then_n ?_))
  refine AW_openNil (t := 3) (id := 2000) (e := 40) (sz := 7) rfl rfl rfl rfl ?_
  refine AW_forE (S := Nat) (fun k => k ≤ l.length) (fun k => [(8, .d (.sc (.int .i64 (k : Nat)))), (3, .own 2000 ((ldsT (l.take k)).map Load.enc).length)]) (fun k => [(2000, some (.arr 40 7 ((ldsT (l.take k)).map Load.enc)))]) (fun k => l.length - k) 0 (by omega) (by (repeat' (first | exact trivial | exact rfl | (refine ⟨Or.inl rfl, ?_⟩) | (refine ⟨Or.inr rfl, ?_⟩) | (refine ⟨Or.inr trivial, ?_⟩) | (refine ⟨rfl, ?_⟩) | (refine ⟨?_, ?_⟩)))) (by (repeat' (first | exact trivial | exact rfl | (refine ⟨Or.inl rfl, ?_⟩) | (refine ⟨Or.inr rfl, ?_⟩) | (refine ⟨Or.inr trivial, ?_⟩) | (refine ⟨rfl, ?_⟩) | (refine ⟨?_, ?_⟩)))) ?_
  intro k hk
  by_cases hlt : k < l.length
  · obtain ⟨b, hx, _⟩ := drop_at hlt
    have hsn := ldsT_snoc (l.take k) b
    rw [← take_at hx, List.length_take, Nat.min_eq_left hk] at hsn
    have hlk := ldsT_len (l.take k)
    rw [List.length_take, Nat.min_eq_left hk] at hlk
    obtain ⟨⟨b1, b2, b3⟩, b4, b5, b6⟩ := hb b (List.mem_of_getElem? hx)
    obtain ⟨⟨w, cl, po⟩, s0, s1, s2⟩ := b
    dsimp only at *
    have r0 : ((s0 : Nat) : Int).tmod 3 = ((s0 % 3 : Nat) : Int) := rfl
    have r1 : ((s1 : Nat) : Int).tmod 3 = ((s1 % 3 : Nat) : Int) := rfl
    have r2 : ((s2 : Nat) : Int).tmod 3 = ((s2 % 3 : Nat) : Int) := rfl
    have r3 : ((cl : Nat) : Int).tmod 10 = ((cl % 10 : Nat) : Int) := rfl
    have r4 : ((po : Nat) : Int).tmod 5 = ((po % 5 : Nat) : Int) := rfl
    have r5 : ((k : Nat) : Int).tmod 26 = ((k % 26 : Nat) : Int) := rfl
    have q0 : s0 % 3 < 3 := Nat.mod_lt _ (by omega)
    have q1 : s1 % 3 < 3 := Nat.mod_lt _ (by omega)
    have q2 : s2 % 3 < 3 := Nat.mod_lt _ (by omega)
    have q3 : cl % 10 < 10 := Nat.mod_lt _ (by omega)
    have q4 : po % 5 < 5 := Nat.mod_lt _ (by omega)
    have q5 : k % 26 < 26 := Nat.mod_lt _ (by omega)
    have hE : (ldsT (l.take (k + 1))).map Load.enc = (ldsT (l.take k)).map Load.enc ++ [[D.sc (.int .i64 ((s0 % 3 : Nat) : Int)), .sc (.int .i64 ((s1 % 3 : Nat) : Int)), .sc (.int .i64 ((s2 % 3 : Nat) : Int)), .sc (.string (strOfNums [98, 97 + ((k % 26 : Nat) : Int)])), .sc (.int .i64 (1 + (w : Int))), .sc (.int .i64 ((cl % 10 : Nat) : Int)), .sc (.int .i64 ((po % 5 : Nat) : Int))]] := by rw [hsn, List.map_append]; rfl
    have hE0 : ((ldsT (l.take k)).map Load.enc).length = k := by rw [List.length_map]; exact hlk
    generalize (ldsT (l.take k)).map Load.enc = E0 at *
    repeat' (first | ((with_reducible refine gA ?_); (first | refine AW_seq ?_ | refine AW_region ?_ | (refine AW_cond rfl (fun hc => ?_) (fun hc => ?_) <;> try (exfalso; simp only [cmpL] at hc; omega)) | refine AW_block ?_ | refine AW_skip ?_)) | (((with_reducible refine gS ?_); apply Es_q); rfl; rfl; (refine LStep_conv (T := Tryz.tab) rfl rfl rfl rfl rfl ?_; (refine u8_fit ?_; omega))) | ((with_reducible refine gS ?_); refine Es_s (T := Tryz.tab) rfl rfl rfl rfl ?_) | (((with_reducible refine gS ?_); apply Es_q); rfl; rfl; (first | (refine LStep_rem rfl rfl rfl ?_ r0 rfl; omega) | (refine LStep_rem rfl rfl rfl ?_ r1 rfl; omega) | (refine LStep_rem rfl rfl rfl ?_ r2 rfl; omega) | (refine LStep_rem rfl rfl rfl ?_ r3 rfl; omega) | (refine LStep_rem rfl rfl rfl ?_ r4 rfl; omega) | (refine LStep_rem rfl rfl rfl ?_ r5 rfl; omega) | refine LStep_indexPtr (T := Tryz.tab) (k := 0) rfl rfl rfl rfl rfl rfl rfl | refine LStep_indexPtr (T := Tryz.tab) (k := 1) rfl rfl rfl rfl rfl rfl rfl | refine LStep_indexPtr (T := Tryz.tab) (k := 2) rfl rfl rfl rfl rfl rfl rfl | (refine LStep_bytesStr (T := Tryz.tab) (xs := [98, 97 + ((k % 26 : Nat) : Int)]) rfl rfl rfl rfl rfl ?_ rfl; (simp only [List.length_cons, List.length_nil]; omega)))) | (((with_reducible refine gS ?_); apply Es_xs); rfl; rfl; (refine LStep_append (T := Tryz.tab) rfl rfl rfl rfl rfl rfl rfl rfl rfl rfl ?_ ?_ ?_; rfl; (simp only [List.length_cons, List.length_nil]; omega); (unfold maxLen; simp only [List.length_cons, List.length_nil]; omega)); rfl) | (((with_reducible refine gS ?_); apply Es_q); rfl; rfl; (first | (refine LStep_add rfl rfl rfl rfl ?_; (refine IntWalk.i64_in _ ?_; first | omega | (simp only [cmps] at *; omega))) | (refine LStep_conv (T := Tryz.tab) rfl rfl rfl rfl rfl ?_; (refine IntWalk.i64_in _ ?_; first | omega | (simp only [cmps] at *; omega))) | (refine LStep_indexM (T := Tryz.tab) (c := ?_) rfl rfl rfl rfl rfl rfl ?_; rotate_left; assumption) | (refine LStep_lit (T := Tryz.tab) rfl rfl rfl rfl rfl rfl rfl rfl ?_; (refine Nat.le_of_ble_eq_true ?_; rfl)) | refine LStep_buildN (T := Tryz.tab) rfl rfl rfl rfl rfl rfl rfl)) | (refine Es_skip rfl ?_ rfl ?_; (first | rfl | (refine w_tf ?_; assumption) | (refine w_ft ?_; assumption))) | (((with_reducible refine gS ?_); apply Es_xs); rfl; rfl; refine LStep_allocN (T := Tryz.tab) rfl rfl rfl rfl rfl rfl; rfl) | (((with_reducible refine gS ?_); apply Es_xn); rfl; rfl; (refine LStep_storeN (T := Tryz.tab) rfl rfl rfl rfl rfl rfl rfl ?_ rfl; (refine Nat.le_of_ble_eq_true ?_; rfl)); rfl) | (with_reducible refine Es_nil ?_) | (with_reducible refine then_n ?_) | (with_reducible refine block_n ?_))
    all_goals try simp only [cmps] at *
    all_goals first
      | (exfalso; omega)
      | (refine ⟨k + 1, by omega, by omega, by rw [hE]; (repeat' (first | exact trivial | exact rfl | (refine ⟨Or.inl rfl, ?_⟩) | (refine ⟨Or.inr rfl, ?_⟩) | (refine ⟨Or.inr trivial, ?_⟩) | (refine ⟨rfl, ?_⟩) | (refine ⟨?_, ?_⟩))), by (repeat' (first | exact trivial | exact rfl | (refine ⟨Or.inl rfl, ?_⟩) | (refine ⟨Or.inr rfl, ?_⟩) | (refine ⟨Or.inr trivial, ?_⟩) | (refine ⟨rfl, ?_⟩) | (refine ⟨?_, ?_⟩))), by rw [hE]; (repeat' (first | exact trivial | exact rfl | (refine ⟨Or.inl rfl, ?_⟩) | (refine ⟨Or.inr rfl, ?_⟩) | (refine ⟨Or.inr trivial, ?_⟩) | (refine ⟨rfl, ?_⟩) | (refine ⟨?_, ?_⟩))), by (repeat' (first | exact trivial | exact rfl | (refine ⟨Or.inl rfl, ?_⟩) | (refine ⟨Or.inr rfl, ?_⟩) | (refine ⟨Or.inr trivial, ?_⟩) | (refine ⟨rfl, ?_⟩) | (refine ⟨?_, ?_⟩)))⟩; done)
      | trace_state
  · have hkl : k = l.length := by omega
    subst hkl
    rw [List.take_length]
    repeat' (first | ((with_reducible refine gRc ?_); refine AW_freeze [2] (id := 2000) ⟨rfl, trivial⟩ rfl rfl ?_) | ((with_reducible refine gA ?_); (first | refine AW_seq ?_ | refine AW_region ?_ | (refine AW_cond rfl (fun hc => ?_) (fun hc => ?_) <;> try (exfalso; simp only [cmpL] at hc; omega)) | refine AW_ret ?_ | refine AW_exit ?_)) | ((with_reducible refine gS ?_); refine Es_s (T := Tryz.tab) rfl rfl rfl rfl ?_) | (with_reducible refine Es_nil ?_) | (with_reducible refine then_n ?_) | (with_reducible refine then_e ?_) | ((with_reducible refine block_e ?_ ?_); rfl) | ((with_reducible refine gR ?_); first | refine ret1 rfl ?_ | refine ret2 rfl rfl ?_ | refine ret0 ?_ | refine end1 rfl ?_ | refine end0 ?_))
    all_goals try simp only [cmps] at *
    all_goals first
      | (exfalso; omega)
      | rfl
      | trace_state
end Go.Proofs.YtodgjgkoaahhmaaGreatDoor
namespace Go.Proofs.YtodgjgkoaahhmaaGreatDoor
open Go.SL
/-! ### TopStow -/
theorem at_splitT {α : Type} {l : List α} {k : Nat} {a : α} (ha : l[k]? = some a) : l = l.take k ++ a :: l.drop (k + 1) := by
  obtain ⟨hlt, rfl⟩ := List.getElem?_eq_some_iff.1 ha
  rw [← List.drop_eq_getElem_cons hlt, List.take_append_drop]
def seenM (l : List ByteArray) : List (ByteArray × Bool) := l.map fun x => (x, true)
theorem seenM_keys (l : List ByteArray) : akeys (seenM l) = l := by unfold akeys seenM; rw [List.map_map]; exact List.map_id _
theorem seenM_no {b : ByteArray} {l : List ByteArray} (h : b ∉ l) : aget b (seenM l) = none := by
  rw [aget_none, seenM_keys]
  exact h
theorem seenM_snoc {b : ByteArray} {l : List ByteArray} (h : b ∉ l) : aput b true (seenM l) = seenM (l ++ [b]) := by
  rw [aput_new (seenM_no h)]
  unfold seenM
  rw [List.map_append]
  rfl
theorem seen_keysO (l : List ByteArray) : ∀ p ∈ emap sV bV (seenM l), keyB .string p.1 = true := emap_keys (q := fun v => keyB .string v = true) (fun _ => rfl)
set_option maxRecDepth 10000 in
set_option maxHeartbeats 16000000 in
theorem topStow_ac (a b c st mo : Nat) (l : List Bx) (ha : a < 256) (hb : b < 256) (hc : c < 256) (hst : st < 65536) (hmo : mo < 65536) (hlb : l.length ≤ 140737488351232) (hbx : ∀ x ∈ l, bxOk x) :
    AC Tryz.prog 3 [.d (.sc (.int .u8 (a : Int))), .d (.sc (.int .u8 (b : Int))), .d (.sc (.int .u8 (c : Int))), .d (.sc (.int .u16 (st : Int))), .d (.sc (.int .u16 (mo : Int))), .d (.sl 6 (l.map bxE))] [hG] [9000] (fun r h' => r = .d (.sc (.bool true)) ∧ SubH [hG] h') := by
  have c0 := tcounts_ac
  by_cases hl : l.length ≤ 20
  · have cs := ship_ac a b c st mo ha hb hc hst hmo
    have cl := tloads_ac l hl hbx
    have hE := tplan_ok (a := a) (b := b) (c := c) hst hmo hl hbx
    have hLl := ldsT_len l
    generalize ldsT l = L at *
    generalize tship a b c st mo = S at *
    have c1 := plan_ac S L (by omega)
    rw [planR_yes hE] at c1
    have hP := planned hE
    generalize lsort (planL S (bN S) (rN S) L) = D at *
    generalize sortS (planO S (bN S) (rN S) L) = W at *
    have hlen := hP.len
    have c2 := sright_ac S D (by omega)
    rw [hP.right] at c2
    have c3 := safe_ac S D (by omega)
    rw [hP.safe] at c3
    have c4 := moves_ac S D 5 (by omega) (by omega)
    have hm : movesE S D 5 = 0 := by unfold movesE; rw [if_pos hP.right]; exact (falls_moves hP.hv hP.falls _).1
    rw [hm] at c4
    have hnd : (D.map (·.box) ++ W).Nodup := hP.all.nodup_iff.2 hP.nd
    have f0 : (!(eqb 0 0)) = false := by rw [eqb_self]; rfl
    have f1 : (!(eqb ((D.length : Nat) + (W.length : Nat)) (L.length : Nat))) = false := by rw [eqb_t.2 (by omega)]; rfl
    have f2 : ltb 20 ((l.length : Nat) : Int) = false := by rw [ltb_f]; omega
    clear hE hP hm hlb hbx
    refine AC_enter Tryz.func3 rfl Tryz.ntmps3 (rv := [.tmp 12]) rfl rfl (by simp) (fun w X G => ?_)
    repeat' (first | ((with_reducible refine gA ?_); (first | refine AW_seq ?_ | refine AW_region ?_ | (refine AW_condN rfl ?_ ?_; assumption) | refine AW_block ?_ | refine AW_skip ?_)) | ((with_reducible refine gS ?_); refine Es_s (T := Tryz.tab) rfl rfl rfl rfl ?_) | (((with_reducible refine gS ?_); apply Es_q); rfl; (first | rfl | (refine w_ff ?_; assumption)); (first | refine LStep_call (c0) rfl rfl rfl rfl | refine LStep_call (cs) rfl rfl rfl rfl | refine LStep_call (cl) rfl rfl rfl rfl | refine LStep_call (c3) rfl rfl rfl rfl)) | (((with_reducible refine gS ?_); apply Es_xs); rfl; (first | rfl | (refine w_ff ?_; assumption)); refine lstep_makeMapT (T := Tryz.tab) rfl rfl rfl rfl rfl; rfl) | (((with_reducible refine gS ?_); apply Es_xg); rfl; (first | rfl | (refine w_ff ?_; assumption)); (first | refine LStep_callHN [] [] c1 rfl rfl ⟨rfl, trivial⟩ rfl ⟨trivial, trivial⟩ rfl rfl | refine LStep_callHN [] [] c2 rfl rfl ⟨rfl, trivial⟩ rfl ⟨trivial, trivial⟩ rfl rfl | refine LStep_callHN [] [] c4 rfl rfl ⟨rfl, trivial⟩ rfl ⟨trivial, trivial⟩ rfl rfl); rfl) | (((with_reducible refine gS ?_); apply Es_q); rfl; (first | rfl | (refine w_ff ?_; assumption)); (first | refine LStep_simp (T := Tryz.tab) rfl rfl | refine LStep_lenM (T := Tryz.tab) rfl rfl rfl rfl | (refine LStep_add rfl rfl rfl rfl ?_; (refine IntWalk.i64_in _ ?_; first | omega | (simp only [cmps] at *; omega))) | (refine LStep_pickF rfl rfl ?_ rfl rfl; assumption))) | (refine Es_skip rfl ?_ rfl ?_; (first | rfl | (refine w_tf ?_; assumption) | (refine w_ft ?_; assumption))) | (((with_reducible refine gS ?_); apply Es_xs); rfl; rfl; refine LStep_allocN (T := Tryz.tab) rfl rfl rfl rfl rfl rfl; rfl) | (((with_reducible refine gS ?_); apply Es_xn); rfl; rfl; (refine LStep_storeN (T := Tryz.tab) rfl rfl rfl rfl rfl rfl rfl ?_ rfl; (refine Nat.le_of_ble_eq_true ?_; rfl)); rfl) | (with_reducible refine Es_nil ?_) | (with_reducible refine then_n ?_))
    refine AW_forE (S := Nat) (fun k => k ≤ D.length) (fun k => [(79, .d (.sc (.int .i64 (k : Nat))))]) (fun k => [(76, some (.map 9 4 (emap sV bV (seenM ((D.map (·.box)).take k))) none))]) (fun k => D.length - k) 0 (by omega) (by (repeat' (first | exact trivial | exact rfl | (refine ⟨Or.inl rfl, ?_⟩) | (refine ⟨Or.inr rfl, ?_⟩) | (refine ⟨Or.inr trivial, ?_⟩) | (refine ⟨rfl, ?_⟩) | (refine ⟨?_, ?_⟩)))) (by (repeat' (first | exact trivial | exact rfl | (refine ⟨Or.inl rfl, ?_⟩) | (refine ⟨Or.inr rfl, ?_⟩) | (refine ⟨Or.inr trivial, ?_⟩) | (refine ⟨rfl, ?_⟩) | (refine ⟨?_, ?_⟩)))) ?_
    intro k hk
    by_cases hlt : k < D.length
    · obtain ⟨x, hx, _⟩ := drop_at hlt
      have hxb : (D.map (·.box))[k]? = some x.box := by rw [List.getElem?_map, hx]; rfl
      have hno : x.box ∉ (D.map (·.box)).take k := fun hq => by
        have h1 := (List.nodup_append.1 hnd).1
        rw [at_splitT hxb, List.nodup_append] at h1
        exact h1.2.2 _ hq _ List.mem_cons_self rfl
      have hp : mput (sV x.box) (bV true) (emap sV bV (seenM ((D.map (·.box)).take k))) = emap sV bV (seenM ((D.map (·.box)).take (k + 1))) := by
        rw [mput_emap sV_keq, seenM_snoc hno, take_at hxb]
      have g1 : ltb (k : Nat) (D.length : Nat) = true := by rw [ltb_t]; omega
      repeat' (first | ((with_reducible refine gA ?_); (first | refine AW_seq ?_ | refine AW_region ?_ | (refine AW_condY rfl ?_ ?_; assumption) | refine AW_block ?_ | refine AW_skip ?_)) | ((with_reducible refine gS ?_); refine Es_s (T := Tryz.tab) rfl rfl rfl rfl ?_) | (((with_reducible refine gS ?_); apply Es_xn); rfl; rfl; refine LStep_mapUpdate (T := Tryz.tab) rfl rfl rfl rfl rfl rfl rfl rfl rfl (seen_keysO _) rfl; rfl) | (((with_reducible refine gS ?_); apply Es_q); rfl; rfl; (first | (refine LStep_add rfl rfl rfl rfl ?_; (refine IntWalk.i64_in _ ?_; first | omega | (simp only [cmps] at *; omega))) | (refine LStep_indexM (T := Tryz.tab) (c := ?_) rfl rfl rfl rfl rfl rfl ?_; rotate_left; assumption))) | (refine Es_skip rfl ?_ rfl ?_; (first | rfl | (refine w_tf ?_; assumption) | (refine w_ft ?_; assumption))) | (((with_reducible refine gS ?_); apply Es_xs); rfl; rfl; refine LStep_allocN (T := Tryz.tab) rfl rfl rfl rfl rfl rfl; rfl) | (((with_reducible refine gS ?_); apply Es_xn); rfl; rfl; (refine LStep_storeN (T := Tryz.tab) rfl rfl rfl rfl rfl rfl rfl ?_ rfl; (refine Nat.le_of_ble_eq_true ?_; rfl)); rfl) | (with_reducible refine Es_nil ?_) | (with_reducible refine then_n ?_) | (with_reducible refine block_n ?_))
      all_goals first
        | (refine ⟨k + 1, by omega, by omega, by (repeat' (first | exact trivial | exact rfl | (refine ⟨Or.inl rfl, ?_⟩) | (refine ⟨Or.inr rfl, ?_⟩) | (refine ⟨Or.inr trivial, ?_⟩) | (refine ⟨rfl, ?_⟩) | (refine ⟨?_, ?_⟩))), by (repeat' (first | exact trivial | exact rfl | (refine ⟨Or.inl rfl, ?_⟩) | (refine ⟨Or.inr rfl, ?_⟩) | (refine ⟨Or.inr trivial, ?_⟩) | (refine ⟨rfl, ?_⟩) | (refine ⟨?_, ?_⟩))), ?_, by (repeat' (first | exact trivial | exact rfl | (refine ⟨Or.inl rfl, ?_⟩) | (refine ⟨Or.inr rfl, ?_⟩) | (refine ⟨Or.inr trivial, ?_⟩) | (refine ⟨rfl, ?_⟩) | (refine ⟨?_, ?_⟩)))⟩; rw [← hp]; (repeat' (first | exact trivial | exact rfl | (refine ⟨Or.inl rfl, ?_⟩) | (refine ⟨Or.inr rfl, ?_⟩) | (refine ⟨Or.inr trivial, ?_⟩) | (refine ⟨rfl, ?_⟩) | (refine ⟨?_, ?_⟩))); done)
        | trace_state
    · have hkl : k = D.length := by omega
      subst hkl
      have g1 : ltb (D.length : Nat) (D.length : Nat) = false := by rw [ltb_f]; omega
      rw [List.take_of_length_le (by rw [List.length_map]; omega)]
      repeat' (first | ((with_reducible refine gA ?_); (first | refine AW_seq ?_ | refine AW_region ?_ | (refine AW_condN rfl ?_ ?_; assumption) | refine AW_block ?_ | refine AW_exit ?_)) | ((with_reducible refine gS ?_); refine Es_s (T := Tryz.tab) rfl rfl rfl rfl ?_) | (((with_reducible refine gS ?_); apply Es_q); rfl; rfl; refine LStep_lenM (T := Tryz.tab) rfl rfl rfl rfl) | (with_reducible refine Es_nil ?_) | (with_reducible refine then_n ?_) | (with_reducible refine then_e ?_) | ((with_reducible refine block_e ?_ ?_); rfl))
      refine AW_forE (S := Nat) (fun k => k ≤ W.length) (fun k => [(89, .d (.sc (.int .i64 (k : Nat))))]) (fun k => [(76, some (.map 9 4 (emap sV bV (seenM (D.map (·.box) ++ W.take k))) none))]) (fun k => W.length - k) 0 (by omega) (by (repeat' (first | exact trivial | exact rfl | (refine ⟨Or.inl rfl, ?_⟩) | (refine ⟨Or.inr rfl, ?_⟩) | (refine ⟨Or.inr trivial, ?_⟩) | (refine ⟨rfl, ?_⟩) | (refine ⟨?_, ?_⟩)))) (by rw [List.take_zero, List.append_nil]; (repeat' (first | exact trivial | exact rfl | (refine ⟨Or.inl rfl, ?_⟩) | (refine ⟨Or.inr rfl, ?_⟩) | (refine ⟨Or.inr trivial, ?_⟩) | (refine ⟨rfl, ?_⟩) | (refine ⟨?_, ?_⟩)))) ?_
      intro k hk
      by_cases hlw : k < W.length
      · obtain ⟨w', hw, _⟩ := drop_at hlw
        have hno : w' ∉ D.map (·.box) ++ W.take k := fun hq => by
          have h1 := hnd
          rw [at_splitT hw, ← List.append_assoc, List.nodup_append] at h1
          exact h1.2.2 _ hq _ List.mem_cons_self rfl
        have hf := mfind_no (cv := bV) sV_keq (seenM_no hno)
        have hp : mput (sV w') (bV true) (emap sV bV (seenM (D.map (·.box) ++ W.take k))) = emap sV bV (seenM (D.map (·.box) ++ W.take (k + 1))) := by
          rw [mput_emap sV_keq, seenM_snoc hno, take_at hw, List.append_assoc]
        have g2 : ltb (k : Nat) (W.length : Nat) = true := by rw [ltb_t]; omega
        repeat' (first | ((with_reducible refine gA ?_); (first | refine AW_seq ?_ | refine AW_region ?_ | refine AW_condF rfl ?_ | (refine AW_condY rfl ?_ ?_; assumption) | refine AW_block ?_ | refine AW_skip ?_)) | ((with_reducible refine gS ?_); refine Es_s (T := Tryz.tab) rfl rfl rfl rfl ?_) | (((with_reducible refine gS ?_); apply Es_q); rfl; rfl; refine LStep_lookup0 (T := Tryz.tab) rfl rfl rfl rfl rfl rfl rfl rfl (seen_keysO _) rfl rfl hf) | (((with_reducible refine gS ?_); apply Es_xn); rfl; rfl; refine LStep_mapUpdate (T := Tryz.tab) rfl rfl rfl rfl rfl rfl rfl rfl rfl (seen_keysO _) rfl; rfl) | (((with_reducible refine gS ?_); apply Es_q); rfl; rfl; (first | (refine LStep_add rfl rfl rfl rfl ?_; (refine IntWalk.i64_in _ ?_; first | omega | (simp only [cmps] at *; omega))) | (refine LStep_indexM (T := Tryz.tab) (c := ?_) rfl rfl rfl rfl rfl rfl ?_; rotate_left; assumption))) | (with_reducible refine Es_nil ?_) | (with_reducible refine then_n ?_) | (with_reducible refine block_n ?_))
        all_goals first
          | (refine ⟨k + 1, by omega, by omega, by (repeat' (first | exact trivial | exact rfl | (refine ⟨Or.inl rfl, ?_⟩) | (refine ⟨Or.inr rfl, ?_⟩) | (refine ⟨Or.inr trivial, ?_⟩) | (refine ⟨rfl, ?_⟩) | (refine ⟨?_, ?_⟩))), by (repeat' (first | exact trivial | exact rfl | (refine ⟨Or.inl rfl, ?_⟩) | (refine ⟨Or.inr rfl, ?_⟩) | (refine ⟨Or.inr trivial, ?_⟩) | (refine ⟨rfl, ?_⟩) | (refine ⟨?_, ?_⟩))), ?_, by (repeat' (first | exact trivial | exact rfl | (refine ⟨Or.inl rfl, ?_⟩) | (refine ⟨Or.inr rfl, ?_⟩) | (refine ⟨Or.inr trivial, ?_⟩) | (refine ⟨rfl, ?_⟩) | (refine ⟨?_, ?_⟩)))⟩; rw [← hp]; (repeat' (first | exact trivial | exact rfl | (refine ⟨Or.inl rfl, ?_⟩) | (refine ⟨Or.inr rfl, ?_⟩) | (refine ⟨Or.inr trivial, ?_⟩) | (refine ⟨rfl, ?_⟩) | (refine ⟨?_, ?_⟩))); done)
          | trace_state
      · have hkw : k = W.length := by omega
        subst hkw
        rw [List.take_length]
        have g2 : ltb (W.length : Nat) (W.length : Nat) = false := by rw [ltb_f]; omega
        have hML : (emap sV bV (seenM (D.map (·.box) ++ W))).length = L.length := by
          rw [emap_len]
          unfold seenM
          rw [List.length_map, List.length_append, List.length_map]
          exact hlen
        have g3 : eqb ((L.length : Nat) : Int) ((L.length : Nat) : Int) = true := eqb_t.2 rfl
        repeat' (first | ((with_reducible refine gA ?_); (first | refine AW_seq ?_ | refine AW_region ?_ | (refine AW_condN rfl ?_ ?_; assumption) | refine AW_ret ?_ | refine AW_exit ?_)) | ((with_reducible refine gS ?_); refine Es_s (T := Tryz.tab) rfl rfl rfl rfl ?_) | (((with_reducible refine gS ?_); apply Es_q); rfl; rfl; refine LStep_lenMap (T := Tryz.tab) rfl rfl rfl rfl rfl) | (((with_reducible refine gS ?_); apply Es_q); rfl; rfl; refine LStep_lenM (T := Tryz.tab) rfl rfl rfl rfl) | (with_reducible refine Es_nil ?_) | (with_reducible refine then_n ?_) | (with_reducible refine then_e ?_) | ((with_reducible refine block_e ?_ ?_); rfl) | ((with_reducible refine gR ?_); first | refine ret1 rfl ?_ | refine ret2 rfl rfl ?_ | refine ret0 ?_ | refine end1 rfl ?_ | refine end0 ?_))
        all_goals first
          | exact ⟨rfl, by (repeat' (first | exact trivial | exact rfl | (refine ⟨Or.inl rfl, ?_⟩) | (refine ⟨Or.inr rfl, ?_⟩) | (refine ⟨Or.inr trivial, ?_⟩) | (refine ⟨rfl, ?_⟩) | (refine ⟨?_, ?_⟩)))⟩
          | (refine ⟨?_, by (repeat' (first | exact trivial | exact rfl | (refine ⟨Or.inl rfl, ?_⟩) | (refine ⟨Or.inr rfl, ?_⟩) | (refine ⟨Or.inr trivial, ?_⟩) | (refine ⟨rfl, ?_⟩) | (refine ⟨?_, ?_⟩)))⟩; rw [hML]; rw [g3]; done)
          | trace_state
  · have f2 : ltb 20 ((l.length : Nat) : Int) = true := by rw [ltb_t]; omega
    refine AC_enter Tryz.func3 rfl Tryz.ntmps3 (rv := [.tmp 12]) rfl rfl (by simp) (fun w X G => ?_)
    repeat' (first | ((with_reducible refine gA ?_); (first | refine AW_seq ?_ | refine AW_region ?_ | (refine AW_condY rfl ?_ ?_; assumption) | refine AW_ret ?_)) | ((with_reducible refine gS ?_); refine Es_s (T := Tryz.tab) rfl rfl rfl rfl ?_) | (((with_reducible refine gS ?_); apply Es_q); rfl; rfl; refine LStep_call (c0) rfl rfl rfl rfl) | (((with_reducible refine gS ?_); apply Es_q); rfl; rfl; (first | refine LStep_simp (T := Tryz.tab) rfl rfl | refine LStep_lenM (T := Tryz.tab) rfl rfl rfl rfl)) | (with_reducible refine Es_nil ?_) | (with_reducible refine then_n ?_) | (with_reducible refine then_r ?_) | ((with_reducible refine gR ?_); first | refine ret1 rfl ?_ | refine ret2 rfl rfl ?_ | refine ret0 ?_ | refine end1 rfl ?_ | refine end0 ?_))
    all_goals first
      | exact ⟨rfl, by (repeat' (first | exact trivial | exact rfl | (refine ⟨Or.inl rfl, ?_⟩) | (refine ⟨Or.inr rfl, ?_⟩) | (refine ⟨Or.inr trivial, ?_⟩) | (refine ⟨rfl, ?_⟩) | (refine ⟨?_, ?_⟩)))⟩
      | trace_state
/-! ### the rows' arguments -/
def u8S : List CS := [.int .u8]
def u16S : List CS := [.int .u16]
theorem argK_u8 : argK Tryz.tab 5 = some (false, u8S) := by kernel_rfl
theorem argK_u16 : argK Tryz.tab 22 = some (false, u16S) := by kernel_rfl
theorem u8c {x : D} (h : OkC (.int .u8) x) : ∃ n : Nat, x = .sc (.int .u8 (n : Int)) ∧ n < 256 := by
  obtain ⟨n, rfl, h2⟩ := h.int_inv
  simp [Lit.wf, IntKind.min, IntKind.max, IntKind.signed, IntKind.bits] at h2
  exact ⟨n.toNat, by rw [Int.toNat_of_nonneg (by omega)], by omega⟩
theorem u16c {x : D} (h : OkC (.int .u16) x) : ∃ n : Nat, x = .sc (.int .u16 (n : Int)) ∧ n < 65536 := by
  obtain ⟨n, rfl, h2⟩ := h.int_inv
  simp [Lit.wf, IntKind.min, IntKind.max, IntKind.signed, IntKind.bits] at h2
  exact ⟨n.toNat, by rw [Int.toNat_of_nonneg (by omega)], by omega⟩
theorem u8_of {x : AV} (h : OkArg (false, u8S) x) : ∃ n : Nat, x = .d (.sc (.int .u8 (n : Int))) ∧ n < 256 := by
  obtain ⟨d, rfl, h⟩ := h
  obtain ⟨n, rfl, hn⟩ := u8c h
  exact ⟨n, rfl, hn⟩
theorem u16_of {x : AV} (h : OkArg (false, u16S) x) : ∃ n : Nat, x = .d (.sc (.int .u16 (n : Int))) ∧ n < 65536 := by
  obtain ⟨d, rfl, h⟩ := h
  obtain ⟨n, rfl, hn⟩ := u16c h
  exact ⟨n, rfl, hn⟩
def bxS : List CS := [.int .u8, .int .u8, .int .u8, .int .u8, .int .u8, .int .u8]
def bxsS : List CS := [.sl 6 6 bxS]
theorem argK_bxs : argK Tryz.tab 23 = some (false, bxsS) := by kernel_rfl
theorem bx_of (e : List D) (h : OkCs bxS e) : ∃ b : Bx, e = bxE b ∧ bxOk b := by
  unfold bxS at h
  obtain ⟨_, _, rfl, h1, h⟩ := h.cons_inv
  obtain ⟨_, _, rfl, h2, h⟩ := h.cons_inv
  obtain ⟨_, _, rfl, h3, h⟩ := h.cons_inv
  obtain ⟨_, _, rfl, h4, h⟩ := h.cons_inv
  obtain ⟨_, _, rfl, h5, h⟩ := h.cons_inv
  obtain ⟨_, _, rfl, h6, h⟩ := h.cons_inv
  obtain rfl := h.nil_inv
  obtain ⟨n1, rfl, k1⟩ := u8c h1
  obtain ⟨n2, rfl, k2⟩ := u8c h2
  obtain ⟨n3, rfl, k3⟩ := u8c h3
  obtain ⟨n4, rfl, k4⟩ := u8c h4
  obtain ⟨n5, rfl, k5⟩ := u8c h5
  obtain ⟨n6, rfl, k6⟩ := u8c h6
  exact ⟨((n1, n2, n3), (n4, n5, n6)), rfl, ⟨k1, k2, k3⟩, k4, k5, k6⟩
theorem bxs_of {x : AV} (h : OkArg (false, bxsS) x) : ∃ l : List Bx, x = .d (.sl 6 (l.map bxE)) ∧ l.length ≤ 140737488351232 ∧ ∀ o ∈ l, bxOk o := by
  obtain ⟨d, rfl, h⟩ := h
  obtain ⟨l, rfl, h1, h2⟩ := h.list bx_of
  exact ⟨l, rfl, by omega, h2⟩
end Go.Proofs.YtodgjgkoaahhmaaGreatDoor
