/- The layer 'SL': strings joined; a struct whose type is told (strings.Builder), and its growing row of bytes. -/
import Derived.Test.YtglkilmflohfoaaDoorTa
import Derived.Lib.AppendStr
import Derived.Lib.UnsafeStr
namespace Go.SL
open Go.RowKit
/-- a string's bytes, as a row's elements -/
def bE (s : ByteArray) : List (List D) := s.data.toList.map fun c => [D.sc (.int .u8 (c.toNat : Int))]
theorem bE_len (s : ByteArray) : (bE s).length = s.size := by
  unfold bE
  rw [List.length_map, Array.length_toList]
  rfl
theorem ba_app (a b : ByteArray) : (a ++ b).data.toList = a.data.toList ++ b.data.toList := by
  rw [← Array.toList_append]
  exact congrArg Array.toList ByteArray.data_append
theorem ba_size (a b : ByteArray) : (a ++ b).size = a.size + b.size := ByteArray.size_append
theorem strCells_append (a b : ByteArray) : Lib.strCells (a ++ b) = Lib.strCells a ++ Lib.strCells b := by unfold Lib.strCells; rw [ba_app, List.map_append]
theorem bE_one (s : ByteArray) : ∀ (i : Nat) (e : List D), (bE s)[i]? = some e → e.length = 1 := fun i e hi => by
  unfold bE at hi
  rw [List.getElem?_map, Option.map_eq_some_iff] at hi
  obtain ⟨c, _, rfl⟩ := hi
  rfl
theorem bE_cells {w : World} {X : Nat → Prop} (s : ByteArray) : ∀ (i : Nat) (e : List D), (bE s)[i]? = some e → ∀ (j : Nat) (x : D), e[j]? = some x → ∃ v, (Lib.strCells s)[i * 1 + j]? = some v ∧ RepD w X x v := fun i e hi j x hj => by
  unfold bE at hi
  rw [List.getElem?_map, Option.map_eq_some_iff] at hi
  obtain ⟨c, hc, rfl⟩ := hi
  cases j with
  | succ j => simp at hj
  | zero =>
    simp only [List.getElem?_cons_zero, Option.some.injEq] at hj
    subst hj
    refine ⟨.int .u8 c.toNat, ?_, .sc _ rfl⟩
    unfold Lib.strCells
    rw [Nat.mul_one, Nat.add_zero, List.getElem?_map, hc]
    rfl
theorem bE_row {w : World} {X : Nat → Prop} {s : ByteArray} {xs : List Value} (hl : xs.length = s.size) (h : ∀ (i : Nat) (e : List D), (bE s)[i]? = some e → ∀ (j : Nat) (x : D), e[j]? = some x → ∃ v, xs[i * 1 + j]? = some v ∧ RepD w X x v) : xs = Lib.strCells s := by
  apply List.ext_getElem?
  intro i
  by_cases hi : i < s.size
  · have hi' : i < s.data.toList.length := by rw [Array.length_toList]; exact hi
    have e1 : (bE s)[i]? = some [D.sc (.int .u8 (s.data.toList[i].toNat : Int))] := by unfold bE; rw [List.getElem?_map, List.getElem?_eq_getElem hi']; rfl
    obtain ⟨v, h1, h2⟩ := h i _ e1 0 _ rfl
    rw [Nat.mul_one, Nat.add_zero] at h1
    rw [h1]
    unfold Lib.strCells
    rw [List.getElem?_map, List.getElem?_eq_getElem hi']
    cases h2
    rfl
  · rw [List.getElem?_eq_none (by omega), List.getElem?_eq_none (by rw [Lib.strCells_length]; omega)]
section
variable {P : Program} (w : World)
/-- where what is appended lies -/
theorem append_str_at (t u ty e : Nat) (i : TypeInfo) (ht : P.underlying t = some (.slice e)) (hu : P.underlying u = some .string) (hi : P.info? e = some i) (hz : i.zero = some (.int .u8 0)) (hsize : i.size = 1) (hby : i.bytes = 1)
    (v : Value) (n : Nat) (xs : List Value) (hown : w.ownsRow 0 e 1 v n xs) (s : ByteArray) (h63 : n + s.size ≤ maxLen) (hbytes : n + s.size ≤ 140737488355328) :
    ∃ v' w', (Builtin.append_ #[t, u] ty #[v, .string s]).run P w = .ok v' w' ∧ w'.ownsRow 0 e 1 v' (n + s.size) (xs ++ Lib.strCells s) ∧ w.grownBy w' v.ownBlock ∧ (v'.ownBlock = v.ownBlock ∨ v'.ownBlock = some w.heap.size) := by
  obtain ⟨v', w', h1, h2, h3, h4⟩ := Lib.run_append_own_string (P := P) w 0 t u ty e i ht hu hi hz hsize hby v n xs hown s h63 hbytes (Nat.zero_le _)
  refine ⟨v', w', h1, h2, h3, ?_⟩
  have hxl : xs.length = n := by simpa using hown.1
  have hsmall : n + s.size ≤ 9223372036854775807 := by simp only [maxLen] at h63; omega
  rcases hown.2 with ⟨rfl, rfl⟩ | ⟨g, cap, cur, rfl, hbg, hg, hnc, hcm, hcs, htake⟩
  · by_cases hm : s.size = 0
    · left; rw [h4.2 ⟨rfl, hm⟩]
    · right
      have hr := run_append_nil_string (P := P) w t u ty e i (.int .u8 0) ht hu hi hz s (by omega) (by omega) (by rw [hby]; omega)
      rw [hr] at h1
      cases h1
      rfl
  · by_cases hroom : n + s.size ≤ cap
    · left
      have hcs' : cur.size = cap := by simpa using hcs
      have hr := Lib.run_append_room_string (P := P) w t u ty e i ht hu hi hsize g n cap cur hg s hroom (by omega)
      rw [hr] at h1
      cases h1
      rfl
    · right
      have holds : ∀ j u, xs[j]? = some u → w.cell? ((⟨g, 0, none⟩ : Addr).add j) = some u := hown.cells (g := g) rfl
      have hr := Lib.run_append_grow_string (P := P) w t u ty e i (.int .u8 0) ht hu hi hz ⟨g, 0, none⟩ n cap xs (by rw [hsize]; simpa using hxl) holds s (by omega) (by omega) (by rw [hby]; exact growslice_fits (by omega) (by omega))
      rw [hr] at h1
      cases h1
      rfl
end
section
variable {P : Program} {O : Org} {T : Tab P} {Q : Exit → Env → Hp → Prop} {env : Env} {h : Hp} {o : Oper}
/-- strings joined -/
theorem LStep_cat {tt yt : Nat} {x y : Operand} {a b : ByteArray} (ho : o.op = .binOp .add tt x y yt) (hx : evalA env x = .d (.sc (.string a))) (hy : evalA env y = .d (.sc (.string b))) (hd : dstOk o.dst O.nt = true) (hl : a.size + b.size ≤ 4611686018427387904) :
    LStep P O o env h [] [] (.d (.sc (.string (a ++ b)))) [] := by
  refine .quiet hd (fun env' h' he _ ac w G r => ⟨.string (a ++ b), ?_, .d _ _ (.sc _ rfl)⟩)
  have h1 := evalA_rep r.env x
  have h2 := evalA_rep r.env y
  rw [he x (by simp [ho, Op.operands]), hx] at h1
  rw [he y (by simp [ho, Op.operands]), hy] at h2
  have hm : IntKind.i64.max = 9223372036854775807 := rfl
  have hn : ¬ (9223372036854775807 < (a.size : Int) + (b.size : Int)) := by omega
  simp [execOp, ho, h1.sc_inv, h2.sc_inv, eqGuard, binOp, Op.stringOp, hm, hn]
/-- a string is appended to a row of bytes of its own -/
theorem LStep_appendStr {t u e id n : Nat} {s x : Operand} {a b : ByteArray} (ho : o.op = .call { callee := .builtin .append, args := #[s, x], argTypes := #[t, u] }) (hT : T.desc t = some (.slice e)) (hU : T.desc u = some .string) (hF : T.full e = some (1, 1, .int .u8 0))
    (hs : evalA env s = .own id n) (hh : hget h id = some (.arr e 1 (bE a))) (hx : evalA env x = .d (.sc (.string b))) (hd : dstOk o.dst O.nt = true) (hi : O.ids.contains id = false) (hn : n = a.size) (h0 : 0 < b.size) (hb : a.size + b.size ≤ 140737488355328) :
    LStep P O o env h [id] [] (.own id (a ++ b).size) [(id, some (.arr e 1 (bE (a ++ b))))] := by
  intro env' h' he ht _ ac w G r K Q hK
  have h1 := evalA_rep r.env s
  have h2 := evalA_rep r.env x
  rw [he s (by simp [ho, Op.operands, Call.operands]), hs] at h1
  rw [he x (by simp [ho, Op.operands, Call.operands]), hx] at h2
  have hxv := h2.sc_inv
  have hh' := (ht id (by simp)).trans hh
  obtain ⟨g1, ⟨A0, l0, c0, g2⟩, g3, xs, hown, g5⟩ := r.obj id _ hh'
  have hid : id ∉ O.ids := by simpa using hi
  obtain ⟨i, i1, i2, i3, i4⟩ := T.inf_ok _ (lkT_mem hF)
  have hun : P.underlying t = some (.slice e) := T.desc_ok hT
  have huu : P.underlying u = some .string := T.desc_ok hU
  rw [bE_len] at g1 hown
  subst hn
  have hxl : xs.length = a.size := by simpa using hown.1
  obtain rfl := bE_row hxl g5
  generalize hsv : ac.eval s = sv at h1
  cases h1 with
  | own _ _ _ hone _ _ hvv =>
    have hsv' := hvv g1
    subst hsv'
    obtain ⟨v', w', f1, f2, f3, f5⟩ := append_str_at (P := P) w t u o.type e i hun huu i1 i4 i2 i3 (G.m id) a.size _ hown b (by unfold maxLen; omega) hb
    have hrun : (execOp ac.eval o).run P w = .ok (.value v') w' := by
      simp only [execOp, ho, resolve, invoke, builtin, Sem.run_bind, Sem.run_pure, Result.andThen_ok, List.map_toArray, List.map_cons, List.map_nil, hsv, hxv, f1]
    have hlen : (a ++ b).size = a.size + b.size := ba_size a b
    have hv' : ∃ A' n' c', v' = .slice A' n' c' := by
      rcases f2.2 with ⟨e1, _⟩ | ⟨g, cap, cur, e1, _⟩ <;> exact ⟨_, _, _, e1⟩
    have hblk : ∀ v : Value, (∃ A' n' c', v = .slice A' n' c') → blk v = v.ownBlock := by
      rintro v ⟨A', n', c', rfl⟩
      cases A' <;> rfl
    have hgm := hblk (G.m id) ⟨_, _, _, g2⟩
    have hvm := hblk v' hv'
    have hG : GStep G (G.set id v' (a.size + b.size)) := fun j => by
      by_cases ej : j = id
      · subst ej
        obtain ⟨A', n', c', e1⟩ := hv'
        exact .inr ⟨_, _, _, g2, ⟨A', n', c', by rw [G.set_m, e1]⟩, by rw [G.set_len, g1]; omega⟩
      · exact .inl ⟨G.set_m_ne _ _ ej, G.set_len_ne _ _ ej⟩
    refine wp_value hrun (hK _ w' (G.set id v' (a.size + b.size)) ?_)
    have hext := Ext.grown f3 (run_drawn _ _ _ _ f1)
    have r' : Rel O env' ((id, some (.arr e 1 (bE (a ++ b)))) :: h') ac w' (G.set id v' (a.size + b.size)) := by
      refine r.turn hh' hext (fun c _ hc => ⟨id, List.mem_cons_self, by rw [hgm]; exact hc⟩) hG (fun j ej => ⟨G.set_m_ne _ _ ej, G.set_len_ne _ _ ej⟩) (fun hc => absurd hc hid) rfl ?_ ?_ ?_ (by simp [names])
      · intro c q1 q2
        rw [G.set_m, hvm] at q1
        rcases f5 with q4 | q4
        · rw [hgm, ← q4]; exact q1
        · rw [q4] at q1
          simp at q1
          omega
      · refine ⟨by rw [G.set_len, bE_len, hlen], by obtain ⟨A', n', c', e1⟩ := hv'; exact ⟨A', n', c', by rw [G.set_m, e1]⟩, bE_one _, Lib.strCells (a ++ b), by rw [G.set_m, bE_len, hlen, strCells_append]; exact f2, bE_cells _⟩
      · intro c q1
        rw [G.set_m, hvm] at q1
        rcases f5 with q4 | q4
        · right; rw [hgm, ← q4]; exact q1
        · left; rw [q4] at q1; simp at q1; omega
    refine r'.put hd (.own id _ v' ?_ (by rw [G.set_len, hlen]; exact Nat.le_refl _) ?_ (fun _ => (G.set_m _ _ _).symm))
    · obtain ⟨A', n', c', rfl⟩ := hv'; rfl
    · obtain ⟨A', n', c', e1⟩ := hv'
      exact ⟨A', n', c', by rw [G.set_m, e1]⟩
/-- a new builder, and its row -/
theorem LStep_allocB {t id : Nat} (id2 e : Nat) (ho : o.op = .alloc t) (hd : o.dst = some id) (hn : dstOk (some id) O.nt = true) (hc : T.zeroC t = some [.d (.sc (.pointer none)), .d (.sc (.slice none 0 0))]) (hi : O.ids.contains id = false) (hi2 : O.ids.contains id2 = false) (hne : Nat.beq id2 id = false) :
    LStep P O o env h [] [id, id2] (.ptr id 0) [(id, some (.tcl t [.any, .own id2 0])), (id2, some (.arr e 1 (bE ⟨#[]⟩)))] := by
  intro env' h' he _ hf ac w G r K Q hK
  have hf1 := hf id (by simp)
  have hf2 := hf id2 (by simp)
  obtain ⟨z, hz, hzc, hone⟩ := zeroC_run hc w
  have hid : id ∉ O.ids := by simpa using hi
  have hid2 : id2 ∉ O.ids := by simpa using hi2
  have hne' : id2 ≠ id := fun e => by subst e; simp at hne
  have hrun : (execOp ac.eval o).run P w = .ok (.value (.pointer (some ⟨w.heap.size, 0, none⟩))) (w.alloc (.cells z.cells t)) := by
    simp [execOp, ho, Instr.alloc, hz, newVar, newRow]
  have hz2 : z.cells.toList = [.pointer none, .slice none 0 0] := by
    match hl : z.cells.toList, hzc with
    | [p, q], hzc =>
      simp only [List.map_cons, List.map_nil, List.cons.injEq, AV.d.injEq, D.sc.injEq, and_true] at hzc
      rw [hzc.1, hzc.2]
  have hz3 : z.cells = #[.pointer none, .slice none 0 0] := by
    apply Array.ext'
    exact hz2
  rw [hz3] at hrun
  have r1 := r.newG (w' := w) (Ext.refl _ w) (id := id2) (mv := .slice none 0 0) (n := 0) (o := .arr e 1 (bE ⟨#[]⟩)) hf2 hid2 rfl (fun b hb => by cases hb)
    ⟨G.set_len _ _ _, ⟨_, _, _, G.set_m _ _ _⟩, bE_one _, [], by rw [G.set_m]; exact World.ownsRow_nil w 0 e 1, fun i e hi => by simp [bE] at hi⟩
  generalize hG1 : G.set id2 (.slice none 0 0) 0 = G1 at r1
  have hm1 : G1.m id2 = .slice none 0 0 := by rw [← hG1]; exact G.set_m _ _ _
  have hl1 : G1.len id2 = 0 := by rw [← hG1]; exact G.set_len _ _ _
  have hfr : freshAt id env' ((id2, some (.arr e 1 (bE ⟨#[]⟩))) :: h') := by
    obtain ⟨q1, q2, q3⟩ := hf1
    refine ⟨q1, fun j o' ho' => ?_, ?_⟩
    · rw [hget_cons] at ho'
      by_cases ej : id2 = j
      · rw [if_pos ej] at ho'; cases ho'; rfl
      · rw [if_neg ej] at ho'; exact q2 j o' ho'
    · rw [hget_cons, if_neg hne']; exact q3
  have r2 := r1.new (id := id) (mv := .pointer (some ⟨w.heap.size, 0, none⟩)) (n := 0) (ob := .cells #[.pointer none, .slice none 0 0] t) (o := .tcl t [.any, .own id2 0]) hfr hid rfl (fun b hb => by cases hb; rfl)
    ⟨w.heap.size, _, G1.set_m _ _ _, heap_alloc_new w _, rfl, fun i c v hi hv => by
      match i with
      | 0 => simp at hi hv; subst hi; subst hv; exact ⟨.any _, rfl⟩
      | 1 =>
        simp at hi hv; subst hi; subst hv
        exact ⟨.own id2 0 _ rfl (Nat.zero_le _) ⟨_, _, _, (G1.set_m_ne _ _ hne').trans hm1⟩ (fun _ => ((G1.set_m_ne _ _ hne').trans hm1).symm), rfl⟩
      | i + 2 => simp at hi, .inl rfl⟩
  exact wp_value hrun (hK _ _ _ (r2.put (by rw [hd]; exact hn) (.ptr id 0 w.heap.size (G1.set_m _ _ _))))
theorem LStep_loadT {t ty : Nat} {x : Operand} {id q : Nat} {cs : List AV} {c : AV} (ho : o.op = .load t x) (ha : T.agg t = some false)
    (hx : evalA env x = .ptr id q) (hh : hget h id = some (.tcl ty cs)) (hc : cs[q]? = some c) (hd : dstOk o.dst O.nt = true) : LStep P O o env h [id] [] c [] := by
  refine .quiet hd (fun env' h' he ht a w G r => ?_)
  have h1 := evalA_rep r.env x
  rw [he x (by simp [ho, Op.operands]), hx] at h1
  obtain ⟨b, arr, e1, e2, e3, e4, _⟩ := r.obj id _ ((ht id (by simp)).trans hh)
  generalize hv : a.eval x = v at h1
  cases h1 with
  | ptr _ _ b' hb =>
    obtain rfl : b = b' := by rw [e1] at hb; injection hb with hb; injection hb with hb; injection hb
    have hlt : q < arr.size := by rw [e3]; exact (List.getElem?_eq_some_iff.1 hc).1
    have hq := Array.getElem?_eq_getElem hlt
    refine ⟨arr[q], ?_, (e4 q c _ hc hq).1⟩
    simp [execOp, ho, hv, Instr.loadAt, Instr.sureAddr, run_loadVar1 T ha (show w.cell? ⟨b, q, none⟩ = some arr[q] by rw [cell_of_row w b q arr ty (0, 0) e2, hq])]
/-- a store into a builder, behind its first cell -/
theorem LStep_storeT {t n id q ty : Nat} {x y : Operand} {cs vs cs' : List AV} (ho : o.op = .store t x y) (hd : o.dst = none) (hn : T.size t = some n) (hx : evalA env x = .ptr id q) (hh : hget h id = some (.tcl ty cs)) (hv : cellsA (evalA env y) = some vs)
    (hl : vs.length = n) (hfit : q + n ≤ cs.length) (hq : 0 < q) (hE : etaL (setsA cs q vs) = some cs') : LStep P O o env h [id] [] (.tup []) [(id, some (.tcl ty cs'))] := by
  rw [← etaL_inv hE]
  intro env' h' he ht _ a w G r K Q hK
  have h1 := evalA_rep r.env x
  have h2 := evalA_rep r.env y
  rw [he x (by simp [ho, Op.operands]), hx] at h1
  rw [he y (by simp [ho, Op.operands])] at h2
  obtain ⟨hs, hcc⟩ := cellsA_rep hv h2
  have hh' := (ht id (by simp)).trans hh
  obtain ⟨b, arr, e1, e2, e3, e4, e5⟩ := r.obj id _ hh'
  generalize hvv : a.eval x = v at h1
  cases h1 with
  | ptr _ _ b' hb =>
    obtain rfl : b = b' := by rw [e1] at hb; injection hb with hb; injection hb with hb; injection hb
    have hlen : (a.eval y).cells.toList.length = n := by rw [Array.length_toList, hs, hl]
    obtain ⟨w', arr', f1, f2, f3, f4, f5⟩ := run_stores (P := P) (a.eval y).cells.toList q 0 arr w e2 (by omega) (fun u hu => by
      obtain ⟨i, hi, e⟩ := List.getElem_of_mem hu
      have hi' : i < vs.length := by rw [Array.length_toList, hs] at hi; exact hi
      exact (hcc i vs[i] u (List.getElem?_eq_getElem hi') (by rw [← Array.getElem?_toList, List.getElem?_eq_getElem hi, e])).2)
    have hrun : (execOp a.eval o).run P w = .ok .skip w' := by
      have hsz : (a.eval y).cells.size = n := by rw [hs, hl]
      simp [execOp, ho, hvv, Instr.storeAt, Instr.sureAddr, storeVar, run_size T hn, hsz, f1]
    have hown : XX O h' G b := .inr ⟨id, _, hh', id, List.mem_cons_self, by rw [e1]; rfl⟩
    have hX : ∀ c, c < w.heap.size → XX O ((id, some (.tcl ty (setsA cs q vs))) :: h') G c → XX O h' G c := fun c _ hc => Rel.turnX (o' := .tcl ty (setsA cs q vs)) hh' rfl hc
    have hr : ∀ {z : AV} {u : Value}, Rep w (XX O h' G) G z u → Rep w' (XX O ((id, some (.tcl ty (setsA cs q vs))) :: h') G) G z u :=
      fun hz => hz.ext f3 (fun c _ hc => by subst hc; exact hown) hX (GStep.refl G)
    refine wp_skipped hrun (hK undef w' G ?_)
    rw [hd]
    refine r.turn hh' f3 (fun c _ hc => ⟨id, List.mem_cons_self, by subst hc; rw [e1]; rfl⟩) (GStep.refl G) (fun _ _ => ⟨rfl, rfl⟩) (fun _ => rfl) rfl (fun _ h _ => h) ?_ (fun _ h => .inr h) (by simp [names])
    refine ⟨b, arr', e1, f2, by rw [f4, e3, setsA_len], fun i c u hi hu => ?_, ?_⟩
    · rw [setsA_get vs cs q i (by omega)] at hi
      rw [f5 i] at hu
      by_cases ci : q ≤ i ∧ i < q + vs.length
      · rw [if_pos ci] at hi
        rw [if_pos (by rw [Array.length_toList, hs]; omega)] at hu
        rw [Nat.add_zero, Array.getElem?_toList] at hu
        exact ⟨hr (hcc _ c u hi hu).1, (hcc _ c u hi hu).2⟩
      · rw [if_neg ci] at hi
        rw [if_neg (by rw [Array.length_toList, hs]; omega)] at hu
        exact ⟨hr (e4 i c u hi hu).1, (e4 i c u hi hu).2⟩
    · rw [f5 0, if_neg (by omega)]
      exact e5
/-- unsafe.SliceData of a row that is not empty -/
theorem LStep_sliceData {t id n e : Nat} {x : Operand} {es : List (List D)} (ho : o.op = .call { callee := .builtin .unsafeSliceData, args := #[x], argTypes := #[t] }) (hx : evalA env x = .own id n) (hh : hget h id = some (.arr e 1 es)) (hd : dstOk o.dst O.nt = true) (hn : n = es.length) (h0 : 0 < n) :
    LStep P O o env h [id] [] (.eptr id n 1 0 0) [] := by
  refine .quiet hd (fun env' h' he ht a w G r => ?_)
  have h1 := evalA_rep r.env x
  rw [he x (by simp [ho, Op.operands, Call.operands]), hx] at h1
  obtain ⟨g1, g2, g3, xs, hown, g5⟩ := r.obj id _ ((ht id (by simp)).trans hh)
  subst hn
  generalize hv : a.eval x = v at h1
  cases h1 with
  | own _ _ _ hone hle hm hvv =>
    have hv' := hvv g1
    rcases hown.2 with ⟨_, e2⟩ | ⟨g, cap, cur, e1, _, e2, e3, _⟩
    · omega
    · refine ⟨.pointer (some ⟨g, 0, none⟩), ?_, .eptr id _ 1 0 0 _ rfl hle hm (fun _ => ⟨g, cap, e1, rfl⟩)⟩
      simp only [execOp, ho, resolve, invoke, builtin, Sem.run_bind, Sem.run_pure, Result.andThen_ok, List.map_toArray, List.map_cons, List.map_nil, hv, hv', e1, Lib.run_unsafeSliceData_row w #[t] o.type ⟨g, 0, none⟩ es.length cap (by omega)]
/-- an object whose block turns, and that is no object any more -/
theorem Rel.dropTurn {a : Act} {w w' : World} {G : Ctx} (r : Rel O env h a w G) {id g : Nat} {ob : AObj} (hh : hget h id = some ob) (hg : blk (G.m id) = some g) (he : Ext (fun b => b = g) w w') : Rel O env ((id, none) :: h) a w' G := by
  have own : XX O h G g := .inr ⟨id, ob, hh, id, List.mem_cons_self, hg⟩
  obtain ⟨d1, _⟩ := r.drop hh
  have hs : ∀ i o, hget ((id, none) :: h) i = some o → hget h i = some o ∧ id ≠ i := by
    intro i o ho
    rw [hget_cons] at ho
    by_cases e : id = i
    · rw [if_pos e] at ho; cases ho
    · rw [if_neg e] at ho; exact ⟨ho, e⟩
  have hC : ∀ b, b < w.heap.size → b = g → XX O h G b := fun b _ hb => by subst hb; exact own
  refine ⟨r.size, r.dfr, fun t => (r.env t).ext he hC (fun b _ hb => d1 b hb) (GStep.refl G), fun i oo hi => ?_, fun i o j i' o' j' b h1 h2 h3 h4 => r.dist i o j i' o' j' b (hs i o h1).1 h2 (hs i' o' h3).1 h4,
    r.ext.transNew he (fun i hi hx => by subst hx; exact r.own _ ⟨id, ob, hh, id, List.mem_cons_self, hg⟩ hi), fun b hb hl => r.own b (hb.sub (fun i o h => (hs i o h).1)) hl, r.xlt, r.ids⟩
  obtain ⟨h3, h4⟩ := hs i oo hi
  exact (r.obj i oo h3).ext he hC (fun b _ hb => d1 b hb) (fun hr => hr.ext he hC (fun b _ hb => d1 b hb) (GStep.refl G)) (fun _ _ => ⟨rfl, rfl⟩) (fun j b hj hb e => by
    subst e
    exact h4 (r.dist i oo j id ob id b h3 hj hh List.mem_cons_self hb hg).1.symm)
theorem freeze_ext (w : World) (g n : Nat) : Ext (fun b => b = g) w (w.freeze ⟨g, 0, none⟩ n) := by
  unfold World.freeze
  split
  · exact Ext.refl _ w
  · refine ⟨rfl, rfl, rfl, by simp, fun k _ hk => ?_, Nat.le_refl _⟩
    simp only [Array.getElem?_modify]
    rw [if_neg (fun e => hk e.symm)]
theorem LStep_unsafeStr {pt it id n e : Nat} {x y : Operand} {s : ByteArray} (ho : o.op = .call { callee := .builtin .unsafeString, args := #[x, y], argTypes := #[pt, it] }) (hP : T.desc pt = some (.ptr e)) (hE : T.size e = some 1)
    (hx : evalA env x = .eptr id n 1 0 0) (hy : evalA env y = .d (.sc (.int .i64 (n : Int)))) (hh : hget h id = some (.arr e 1 (bE s))) (hd : dstOk o.dst O.nt = true) (hn : n = s.size) (h0 : 0 < n) :
    LStep P O o env h [id] [] (.d (.sc (.string s))) [(id, none)] := by
  intro env' h' he ht _ a w G r K Q hK
  have h1 := evalA_rep r.env x
  have h2 := evalA_rep r.env y
  rw [he x (by simp [ho, Op.operands, Call.operands]), hx] at h1
  rw [he y (by simp [ho, Op.operands, Call.operands]), hy] at h2
  have hyv := h2.sc_inv
  have hh' := (ht id (by simp)).trans hh
  obtain ⟨g1, g2, g3, xs, hown, g5⟩ := r.obj id _ hh'
  rw [bE_len] at g1 hown
  subst hn
  have hxl : xs.length = s.size := by simpa using hown.1
  obtain rfl := bE_row hxl g5
  generalize hv : a.eval x = v at h1
  cases h1 with
  | eptr _ _ _ _ _ _ h1 hle hm hvv =>
    obtain ⟨b, c, e1, rfl⟩ := hvv g1
    rw [Nat.zero_mul] at hv
    rcases hown.2 with ⟨_, e2⟩ | ⟨g, cap, cur, e3, _, e4, e5, e6, e7, e8⟩
    · omega
    · obtain rfl : g = b := by rw [e3] at e1; injection e1 with e1; injection e1 with e1; injection e1
      have hc1 : P.cellsOf e = 1 := by
        obtain ⟨i, q1, q2⟩ := T.size_ok hE
        simp [Program.cellsOf, q1, q2]
      have hl : s.data.toList.length = s.size := Array.length_toList
      have hs : (⟨s.data.toList.toArray⟩ : ByteArray) = s := by cases s; simp
      have hun := Lib.run_unsafeString_row (P := P) w pt it o.type e (T.desc_ok hP) hc1 g cur.size (by simp [World.shape?, e4]) s.data.toList (fun e => by rw [e] at hl; simp at hl; omega) (by omega) (by unfold maxLen at e6; omega) (fun j x hx => by
        rw [e3] at hown
        exact hown.cells (g := g) rfl j (.int .u8 x.toNat) (by unfold Lib.strCells; rw [List.getElem?_map, hx]; rfl))
      rw [hl, hs] at hun
      have hrun : (execOp a.eval o).run P w = .ok (.value (.string s)) (w.freeze ⟨g, 0, none⟩ s.size) := by
        simp only [execOp, ho, resolve, invoke, builtin, Sem.run_bind, Sem.run_pure, Result.andThen_ok, List.map_toArray, List.map_cons, List.map_nil, hv, hyv, hun, Nat.add_zero]
      have r' : Rel O env' ((id, none) :: h') a (w.freeze ⟨g, 0, none⟩ s.size) G := r.dropTurn hh' (by rw [e3]; rfl) (freeze_ext w g s.size)
      exact wp_value hrun (hK _ _ G (r'.put hd (.d _ _ (.sc _ rfl))))
theorem LStep_allocT {t id : Nat} (ho : o.op = .alloc t) (hd : o.dst = some id) (hn : dstOk (some id) O.nt = true) (hc : T.zeroC t = some [.d (.sc (.pointer none)), .d (.sc (.slice none 0 0))]) (hi : O.ids.contains id = false) :
    LStep P O o env h [] [id] (.ptr id 0) [(id, some (.tcl t [.any, .d (.sc (.slice none 0 0))]))] := by
  intro env' h' he _ hf ac w G r K Q hK
  have hf1 := hf id (by simp)
  obtain ⟨z, hz, hzc, hone⟩ := zeroC_run hc w
  have hid : id ∉ O.ids := by simpa using hi
  have hrun : (execOp ac.eval o).run P w = .ok (.value (.pointer (some ⟨w.heap.size, 0, none⟩))) (w.alloc (.cells z.cells t)) := by
    simp [execOp, ho, Instr.alloc, hz, newVar, newRow]
  have hz2 : z.cells.toList = [.pointer none, .slice none 0 0] := by
    match hl : z.cells.toList, hzc with
    | [p, q], hzc =>
      simp only [List.map_cons, List.map_nil, List.cons.injEq, AV.d.injEq, D.sc.injEq, and_true] at hzc
      rw [hzc.1, hzc.2]
  have hz3 : z.cells = #[.pointer none, .slice none 0 0] := by
    apply Array.ext'
    exact hz2
  rw [hz3] at hrun
  have r2 := r.new (id := id) (mv := .pointer (some ⟨w.heap.size, 0, none⟩)) (n := 0) (ob := .cells #[.pointer none, .slice none 0 0] t) (o := .tcl t [.any, .d (.sc (.slice none 0 0))]) hf1 hid rfl (fun b hb => by cases hb; rfl)
    ⟨w.heap.size, _, G.set_m _ _ _, heap_alloc_new w _, rfl, fun i c v hi hv => by
      match i with
      | 0 => simp at hi hv; subst hi; subst hv; exact ⟨.any _, rfl⟩
      | 1 => simp at hi hv; subst hi; subst hv; exact ⟨.d _ _ (.sc _ rfl), rfl⟩
      | i + 2 => simp at hi, .inl rfl⟩
  exact wp_value hrun (hK _ _ _ (r2.put (by rw [hd]; exact hn) (.ptr id 0 w.heap.size (G.set_m _ _ _))))
theorem LStep_sliceDataNil {t : Nat} {x : Operand} (ho : o.op = .call { callee := .builtin .unsafeSliceData, args := #[x], argTypes := #[t] }) (hx : evalA env x = .d (.sc (.slice none 0 0))) (hd : dstOk o.dst O.nt = true) :
    LStep P O o env h [] [] (.d (.sc (.pointer none))) [] := by
  refine .quiet hd (fun env' h' he _ a w G r => ⟨.pointer none, ?_, .d _ _ (.sc _ rfl)⟩)
  have h1 := evalA_rep r.env x
  rw [he x (by simp [ho, Op.operands, Call.operands]), hx] at h1
  simp only [execOp, ho, resolve, invoke, builtin, Sem.run_bind, Sem.run_pure, Result.andThen_ok, List.map_toArray, List.map_cons, List.map_nil, h1.sc_inv, Lib.run_unsafeSliceData_nil]
theorem LStep_lenNil {t : Nat} {x : Operand} (ho : o.op = .call { callee := .builtin .len, args := #[x], argTypes := #[t] }) (hx : evalA env x = .d (.sc (.slice none 0 0))) (hd : dstOk o.dst O.nt = true) (hT : ∃ e, T.desc t = some (.slice e)) :
    LStep P O o env h [] [] (.d (.sc (.int .i64 0))) [] := by
  refine .quiet hd (fun env' h' he _ a w G r => ⟨.int .i64 0, ?_, .d _ _ (.sc _ rfl)⟩)
  have h1 := evalA_rep r.env x
  rw [he x (by simp [ho, Op.operands, Call.operands]), hx] at h1
  obtain ⟨e, hT⟩ := hT
  have hu : P.underlying t = some (.slice e) := T.desc_ok hT
  simp [execOp, ho, resolve, invoke, builtin, h1.sc_inv, Builtin.len_, run_underlying hu, goInt]
theorem LStep_unsafeStr0 {pt it : Nat} {x y : Operand} (ho : o.op = .call { callee := .builtin .unsafeString, args := #[x, y], argTypes := #[pt, it] }) (hx : evalA env x = .d (.sc (.pointer none))) (hy : evalA env y = .d (.sc (.int .i64 0))) (hd : dstOk o.dst O.nt = true) :
    LStep P O o env h [] [] (.d (.sc (.string ⟨#[]⟩))) [] := by
  refine .quiet hd (fun env' h' he _ a w G r => ⟨.string ⟨#[]⟩, ?_, .d _ _ (.sc _ rfl)⟩)
  have h1 := evalA_rep r.env x
  have h2 := evalA_rep r.env y
  rw [he x (by simp [ho, Op.operands, Call.operands]), hx] at h1
  rw [he y (by simp [ho, Op.operands, Call.operands]), hy] at h2
  simp only [execOp, ho, resolve, invoke, builtin, Sem.run_bind, Sem.run_pure, Result.andThen_ok, List.map_toArray, List.map_cons, List.map_nil, h1.sc_inv, h2.sc_inv, Lib.run_unsafeString_none]
  rfl
theorem hget_dropL (h : Hp) (i : Nat) : ∀ ids : List Nat, hget (ids.map (fun j => (j, (none : Option AObj))) ++ h) i = if i ∈ ids then none else hget h i
  | [] => by simp
  | j :: r => by
    show hget ((j, none) :: (r.map (fun j => (j, (none : Option AObj))) ++ h)) i = _
    rw [hget_cons, hget_dropL h i r]
    by_cases e : j = i
    · subst e; simp
    · rw [if_neg e]
      by_cases e2 : i ∈ r
      · rw [if_pos e2, if_pos (List.mem_cons_of_mem _ e2)]
      · rw [if_neg e2, if_neg (fun hm => by rcases List.mem_cons.1 hm with q | q; exact e q.symm; exact e2 q)]
/-- objects whose blocks turn, and that are no objects any more -/
theorem Rel.dropAll {a : Act} {w w' : World} {G : Ctx} {C : Nat → Prop} (r : Rel O env h a w G) (ids : List Nat) (he : Ext C w w') (hC : ∀ b, b < w.heap.size → C b → ∃ id ∈ ids, ∃ o, hget h id = some o ∧ blk (G.m id) = some b) :
    Rel O env (ids.map (fun j => (j, (none : Option AObj))) ++ h) a w' G := by
  have hs : ∀ i o, hget (ids.map (fun j => (j, (none : Option AObj))) ++ h) i = some o → hget h i = some o ∧ i ∉ ids := by
    intro i o ho
    rw [hget_dropL] at ho
    by_cases e : i ∈ ids
    · rw [if_pos e] at ho; cases ho
    · rw [if_neg e] at ho; exact ⟨ho, e⟩
  have hCX : ∀ b, b < w.heap.size → C b → XX O h G b := fun b hb hc => let ⟨id, _, o, h1, h2⟩ := hC b hb hc; .inr ⟨id, o, h1, id, List.mem_cons_self, h2⟩
  have hX : ∀ b, b < w.heap.size → XX O (ids.map (fun j => (j, (none : Option AObj))) ++ h) G b → XX O h G b := fun b _ hb => hb.imp (fun h => h) (fun ho => ho.sub (fun i o h => (hs i o h).1))
  refine ⟨r.size, r.dfr, fun t => (r.env t).ext he hCX hX (GStep.refl G), fun i oo hi => ?_, fun i o j i' o' j' b h1 h2 h3 h4 => r.dist i o j i' o' j' b (hs i o h1).1 h2 (hs i' o' h3).1 h4,
    r.ext.transNew he (fun i hi hx => ?_), fun b hb hl => r.own b (hb.sub (fun i o h => (hs i o h).1)) hl, r.xlt, r.ids⟩
  · obtain ⟨h3, h4⟩ := hs i oo hi
    exact (r.obj i oo h3).ext he hCX hX (fun hr => hr.ext he hCX hX (GStep.refl G)) (fun _ _ => ⟨rfl, rfl⟩) (fun j b hj hb e => by
      obtain ⟨id, g1, o, g2, g3⟩ := hC b ((r.obj i oo h3).lt hj hb) e
      exact h4 ((r.dist i oo j id o id b h3 hj g2 List.mem_cons_self hb g3).1 ▸ g1))
  · obtain ⟨id, g1, o, g2, g3⟩ := hC i (Nat.lt_of_lt_of_le hi r.ext.size) hx
    exact r.own i ⟨id, o, g2, id, List.mem_cons_self, g3⟩ hi
def dropOk (hc : Hp) (pi : List (Nat × Nat)) : Bool :=
  ((keysH hc).all fun i => (keysH hc).all fun j => Nat.beq i j || !Nat.beq (asg pi i) (asg pi j)) && (hc.all fun p => match p.2 with | some o => onlyO (keysH hc) o | none => false)
/-- A call that is handed objects, which are no objects any more behind it. -/
theorem LStep_callDrop {f : FuncId} {args : List AV} {hc : Hp} {ids : List Nat} {rv : AV} (pi : List (Nat × Nat)) (C : AC P f args hc ids (fun r _ => r = rv)) (ha : callA env o.op = some (f, ren.renL (asg pi) args)) (hd : dstOk o.dst O.nt = true)
    (hin : AllIn (asg pi) h hc) (hk : dropOk hc pi = true) (hv : noid rv = true) : LStep P O o env h ((keysH hc).map (asg pi)) [] rv (((keysH hc).map (asg pi)).map fun j => (j, none)) := by
  intro env' h' he hT hN a w G r K Q hK
  obtain ⟨vs, hrun, hlen, hrep⟩ := run_callA ha C.1 he r
  unfold dropOk at hk
  simp only [Bool.and_eq_true, List.all_eq_true] at hk
  obtain ⟨k1, k5⟩ := hk
  have H : Handed O env' h' G hc (asg pi) := by
    refine ⟨fun id o ho => ?_, fun id o id' o' h1 h2 h3 => ?_, fun id o ho => ?_⟩
    · rw [hT _ (List.mem_map.2 ⟨id, (mem_keysH ho).1, rfl⟩)]
      exact hin.get id o ho
    · have := k1 id (mem_keysH h1).1 id' (mem_keysH h2).1
      rw [Bool.or_eq_true] at this
      rcases this with e | e
      · exact Nat.eq_of_beq_eq_true e
      · exact absurd h3 (beq_false_ne e)
    · have := k5 _ (mem_keysH ho).2
      exact (onlyO_spec this).1
  unfold Oper.wp
  rw [hrun]
  show Calls P f vs.toArray w _
  refine (C.atH H r (by rw [hlen, renL_map, List.length_map]) (fun i x v hx hv => hrep i _ v (by rw [renL_map, List.getElem?_map, hx]; rfl) hv)).mono ?_
  rintro e w' ⟨v, x, h'', G', rfl, r', hxr, rfl⟩
  have r2 : Rel O env' (((keysH hc).map (asg pi)).map (fun j => (j, (none : Option AObj))) ++ h') a w' G := r.dropAll _ r'.ext (fun b _ hb => by
    obtain ⟨id, o, h1, h2⟩ := H.own hb
    exact ⟨asg pi id, List.mem_map.2 ⟨id, (mem_keysH h1).1, rfl⟩, _, H.hin id o h1, h2⟩)
  refine hK v w' G (r2.put hd ?_)
  have hx2 := hxr.noid G hv
  refine hx2.ext (Ext.refl (fun _ => False) w') (fun _ _ h => h.elim) (fun b _ hb => ?_) (GStep.refl G)
  left
  have hs : ∀ i o, hget (((keysH hc).map (asg pi)).map (fun j => (j, (none : Option AObj))) ++ h') i = some o → hget h' i = some o ∧ i ∉ (keysH hc).map (asg pi) := by
    intro i o ho
    rw [hget_dropL] at ho
    by_cases e : i ∈ (keysH hc).map (asg pi)
    · rw [if_pos e] at ho; cases ho
    · rw [if_neg e] at ho; exact ⟨ho, e⟩
  refine ⟨hb.imp (fun h => h) (fun ho => ho.sub (fun i o h => (hs i o h).1)), fun hO => ?_⟩
  obtain ⟨id, o, h1, h2⟩ := H.own hO
  rcases hb with hb | ⟨i, o2, h3, j, h4, h5⟩
  · exact r.xNot (H.hin id o h1) h2 hb
  · obtain ⟨h6, h7⟩ := hs i o2 h3
    have := (r.dist i o2 j _ _ (asg pi id) b h6 h4 (H.hin id o h1) List.mem_cons_self h5 h2).1
    subst this
    exact h7 (List.mem_map.2 ⟨id, (mem_keysH h1).1, rfl⟩)
end
end Go.SL
