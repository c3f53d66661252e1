/- The layer 'SL': slices.Sort at strings, by the shelf's contract. -/
import Derived.Test.YtodgjgkoaahhmaaGreatDoorSp
import Derived.Test.YtodgjgkoaahhmaaGreatDoorSq
import Derived.Test.YtodgjgkoaahhmaaGreatDoorSu
import Derived.Test.YtodgjgkoaahhmaaGreatDoorTa
import Derived.Sort.EncStr
import Derived.Sort.Walk0
namespace Go.SL
open Go.RowKit Go.Proofs Go.Shelf
def sN (s : ByteArray) : List D := [.sc (.string s)]
def sortS (l : List ByteArray) : List ByteArray := l.mergeSort fun x y => !lts y x
def bL (s : ByteArray) : List UInt8 := s.data.toList
theorem lts_lt (a b : ByteArray) : lts a b = decide (bL a < bL b) := by rw [lts_d, ByteArray.toList_eq, ByteArray.toList_eq, bytesLess_eq]; rfl
theorem encStr_bL (s : ByteArray) : encStr (bL s) = .string s := rfl
theorem sortS_map (l : List ByteArray) : (l.map bL).mergeSort (fun x y => decide (x ≤ y)) = (sortS l).map bL := by
  unfold sortS
  rw [List.map_mergeSort (s := fun x y => decide (x ≤ y)) (fun a _ b _ => by
    rw [lts_lt]
    by_cases h : bL b < bL a
    · rw [decide_eq_true h, decide_eq_false (fun q => q h)]; rfl
    · rw [decide_eq_false h, decide_eq_true (show bL a ≤ bL b from h)]; rfl)]
theorem sortS_perm (l : List ByteArray) : (sortS l).Perm l := List.mergeSort_perm _ _
section
variable {P : Program} {ρ : Ren} {w : World} {X : Nat → Prop}
theorem strs_holds {g e : Nat} {cur : Array Value} (hb : w.heap[g]? = some (.cells cur e (0, 0))) (zs : List ByteArray)
    (hc : ∀ (i : Nat) (x : List D), (zs.map sN)[i]? = some x → x.length = 1 ∧ ∀ (j : Nat) (y : D), x[j]? = some y → ∃ u, cur[i * 1 + j]? = some u ∧ RepD w X y u) : Sort.Holds encStr w g 0 (zs.map bL).toArray := by
  intro j hj
  have hj' : j < zs.length := by simpa using hj
  obtain ⟨_, h2⟩ := hc j (sN zs[j]) (by simp [hj'])
  obtain ⟨u, h3, h4⟩ := h2 0 (.sc (.string zs[j])) rfl
  cases h4
  refine ⟨?_, by simp [World.frozen?, hb]⟩
  rw [Nat.mul_one, Nat.add_zero] at h3
  simp only [World.cell?, hb, Nat.zero_add, Option.isSome_none, Bool.false_eq_true, if_false, h3]
  simp [bL, hj']
theorem strs_cells (ts : List ByteArray) {d : Array (List UInt8)} (h : ∀ i : Nat, i < ts.length → d[i]? = (ts.map bL)[i]?) : ∀ (i : Nat) (x : List D), (ts.map sN)[i]? = some x → ∀ (j : Nat) (y : D), x[j]? = some y → ∃ a, d[i * 1 + j]? = some a ∧ RepD w X y (encStr a) := by
  intro i x hi j y hj
  rw [List.getElem?_map, Option.map_eq_some_iff] at hi
  obtain ⟨z, hz, rfl⟩ := hi
  have hj0 : j = 0 := by
    have := (List.getElem?_eq_some_iff.1 hj).1
    simp [sN] at this
    exact this
  subst hj0
  cases hj
  refine ⟨bL z, ?_, by rw [encStr_bL]; exact .sc _ rfl⟩
  rw [Nat.mul_one, Nat.add_zero, h i (List.getElem?_eq_some_iff.1 hz).1, List.getElem?_map, hz]
  rfl
theorem strs_one (ts : List ByteArray) : ∀ (i : Nat) (x : List D), (ts.map sN)[i]? = some x → x.length = 1 := by
  intro i x hi
  rw [List.getElem?_map, Option.map_eq_some_iff] at hi
  obtain ⟨z, hz, rfl⟩ := hi
  rfl
theorem sortStrs_ac (L : Lays.n190 P ρ) (hf : Callable P (ρ.f 190)) (e n : Nat) (zs : List ByteArray) (hn : n = zs.length) (hz : zs.length ≤ 140737488351232) :
    AC P (ρ.f 190) [.own 1000 n] (H0 e 1 (zs.map sN)) [1000] (fun r h' => r = .tup [] ∧ SubH (H0 e 1 ((sortS zs).map sN)) h') := by
  refine ⟨hf, fun w X G vs r hl hv => ?_⟩
  match vs, hl with
  | [v], _ =>
    obtain ⟨e1, hrow⟩ := row_open r (by simpa using hn) (hv 0 _ v rfl rfl)
    rcases hrow with ⟨hnil, hes⟩ | ⟨g, cap, cur, e2, e3, e4, e5, e6, e7⟩
    · have : zs = [] := by simpa using hes
      subst this
      subst hnil
      refine (Any.slices_Sort_string_none L none 0 w).mono ?_
      rintro ex w' ⟨rfl, rfl⟩
      exact ⟨_, .tup [], H0 e 1 [], G, rfl, r, .tup [] #[] rfl (fun i c v hc _ => by simp at hc), rfl, by unfold sortS; rw [List.mergeSort_nil]; exact ⟨hget_one, trivial⟩⟩
    · have hl1 : (zs.map sN).length = zs.length := List.length_map _
      have hl2 : (zs.map bL).length = zs.length := List.length_map _
      rw [e2] at e1
      subst e2
      rw [hl1]
      have key := Any.slices_Sort_string L g 0 cap (zs.map bL) w (strs_holds e3 zs e7) (heap_lt e3) (by omega)
      rw [hl2] at key
      refine key.mono ?_
      rintro ex w' ⟨rfl, q, os, rfl⟩
      rw [sortS_map]
      have ht : (sortS zs).length = zs.length := (sortS_perm zs).length_eq
      generalize sortS zs = ts at ht ⊢
      have r' := row_put (es' := ts.map sN) (enc := encStr) (q := q) (os := os) r e1.symm e3 e4 e5 e6 (ts.map bL).toArray 1000 (fun _ => ⟨rfl, by simp [ht]⟩) (by simp [ht]) (by simp) (by simp [ht]) (strs_one ts) (strs_cells ts (fun i _ => by simp))
      exact ⟨_, .tup [], _, _, rfl, r', .tup [] #[] rfl (fun i c v hc _ => by simp at hc), rfl, hget_one, trivial⟩
end
end Go.SL
/- The layer 'SL': whole elements of own rows read and written; a stable insertion, plain. -/
namespace Go.SL
open Go.RowKit
section
variable {P : Program} {O : Org} {T : Tab P} {env : Env} {h : Hp} {o : Oper}
theorem LStep_fitQ {av av' : AV} {Ts : List Nat} (hd : dstOk o.dst O.nt = true) (hs : simp1 T env h o.op = some (av, Ts)) (he : av = av') : LStep P O o env h Ts [] av' [] := he ▸ LStep_simp1 hd hs
theorem LStep_loadEW {t m id n sz k ety : Nat} {x : Operand} {es : List (List D)} {e : List D} (ho : o.op = .load t x) (ha : T.agg t = some true) (hm : T.size t = some m) (hx : evalA env x = .eptr id n sz k 0) (hh : hget h id = some (.arr ety sz es)) (hd : dstOk o.dst O.nt = true)
    (hn : es.length = n) (hk : es[k]? = some e) (hl : e.length = m) : LStep P O o env h [id] [] (.agg (e.map .d)) [] := by
  have := LStep_loadEA (off := 0) ho ha hm hx hh hd hn hk (by omega)
  rw [List.drop_zero, List.take_of_length_le (by omega)] at this
  exact this
/-- the address of an array's element, the array a variable -/
theorem LStep_indexPtr {t e n sz id off : Nat} {x i : Operand} {kd : IntKind} {k : Nat} (ho : o.op = .indexAddr t x i) (hT : T.desc t = some (.array n e)) (hS : T.size e = some sz) (hx : evalA env x = .ptr id off) (hi : evalA env i = .d (.sc (.int kd (k : Nat)))) (hd : dstOk o.dst O.nt = true) (hk : Nat.blt k n = true) :
    LStep P O o env h [] [] (.ptr id (off + k * sz)) [] := by
  have hk : k < n := by simpa [Nat.blt_eq] using hk
  refine .quiet hd (fun env' h' he ht a w G r => ?_)
  have h1 := evalA_rep r.env x
  have h2 := evalA_rep r.env i
  rw [he x (by simp [ho, Op.operands]), hx] at h1
  rw [he i (by simp [ho, Op.operands]), hi] at h2
  have h3 := h2.sc_inv
  have hlt : ((k : Nat) : Int) < (n : Int) := by omega
  generalize hq : a.eval x = u at h1
  cases h1 with
  | ptr _ _ b hb =>
    refine ⟨.pointer (some ⟨b, off + k * sz, none⟩), ?_, .ptr id _ b hb⟩
    simp [execOp, ho, hq, h3, Instr.indexAt, Instr.sureAddr, asIntOf, run_underlying (T.desc_ok hT), run_size T hS, Addr.add_lit, hk]
theorem asDs_map : ∀ e : List D, asDs (e.map .d) = some e
  | [] => rfl
  | d :: e => by
    rw [List.map_cons, asDs, asDs_map e]
    rfl
theorem setsD_all {e e' : List D} (h : e'.length = e.length) : setsD e 0 e' = e' := by
  refine List.ext_getElem? (fun j => ?_)
  rw [setsD_get e' e 0 j (by omega)]
  by_cases hj : j < e'.length
  · rw [if_pos (by omega), Nat.sub_zero]
  · rw [if_neg (by omega), List.getElem?_eq_none (by omega), List.getElem?_eq_none (by omega)]
theorem LStep_storeEW {t m id n sz k ety : Nat} {x y : Operand} {es : List (List D)} {e e' : List D} (ho : o.op = .store t x y) (hd : o.dst = none) (hm : T.size t = some m) (hx : evalA env x = .eptr id n sz k 0) (hh : hget h id = some (.arr ety sz es))
    (hv : evalA env y = .agg (e'.map .d)) (hn : es.length = n) (hk : es[k]? = some e) (hl : e.length = m) (hl' : e'.length = m) (hfit : Nat.ble m sz = true) :
    LStep P O o env h [id] [] (.tup []) [(id, some (.arr ety sz (es.set k e')))] := by
  have := LStep_storeE (O := O) (off := 0) (vs := e'.map .d) (ds := e') ho hd hm hx hh (by rw [hv]; rfl) (asDs_map e') hl' hn hk (by rw [Nat.zero_add]; exact Nat.le_of_ble_eq_true hfit)
  rw [setsD_all (by omega)] at this
  exact this
end
/-! ### a stable insertion: plain -/
section
variable {α : Type} (lt : α → α → Bool)
def insL (x : α) : List α → List α
  | [] => [x]
  | y :: r => if lt x y = true then x :: y :: r else y :: insL x r
def isL (l : List α) : List α := l.foldl (fun acc x => insL lt x acc) []
variable {lt}
theorem insL_perm (x : α) : ∀ l : List α, (insL lt x l).Perm (x :: l)
  | [] => List.Perm.refl _
  | y :: r => by
    unfold insL
    split
    · exact List.Perm.refl _
    · exact ((insL_perm x r).cons y).trans (List.Perm.swap _ _ _)
theorem foldl_ins_perm : ∀ (l acc : List α), (l.foldl (fun acc x => insL lt x acc) acc).Perm (acc ++ l)
  | [], acc => by rw [List.append_nil]; exact List.Perm.refl _
  | x :: l, acc => by
    refine (foldl_ins_perm l (insL lt x acc)).trans ?_
    exact ((insL_perm x acc).append_right l).trans List.perm_middle.symm
theorem isL_perm (l : List α) : (isL lt l).Perm l := foldl_ins_perm l []
theorem isL_snoc (l : List α) (x : α) : isL lt (l ++ [x]) = insL lt x (isL lt l) := by unfold isL; rw [List.foldl_append]; rfl
theorem insL_at {x : α} : ∀ {A B : List α}, (∀ y ∈ A, lt x y = false) → (∀ y ∈ B, lt x y = true) → insL lt x (A ++ B) = A ++ x :: B
  | [], [], _, _ => rfl
  | [], y :: B, _, h => by
    show insL lt x (y :: B) = _
    unfold insL
    rw [if_pos (h y List.mem_cons_self)]
    rfl
  | y :: A, B, h1, h2 => by
    rw [List.cons_append]
    unfold insL
    rw [if_neg (by rw [h1 y List.mem_cons_self]; decide), insL_at (fun z hz => h1 z (List.mem_cons_of_mem _ hz)) h2]
    rfl
theorem insL_sorted (hO : Sort.SWO lt) {x : α} : ∀ {l : List α}, l.Pairwise (fun a b => lt b a = false) → (insL lt x l).Pairwise (fun a b => lt b a = false)
  | [], _ => List.pairwise_singleton _ _
  | y :: r, h => by
    rw [List.pairwise_cons] at h
    unfold insL
    split
    · rename_i e
      rw [List.pairwise_cons, List.pairwise_cons]
      have hyx : lt y x = false := by
        cases hq : lt y x with
        | false => rfl
        | true =>
          have := hO.trans _ _ _ e hq
          rw [hO.irrefl] at this
          cases this
      refine ⟨fun z hz => ?_, h⟩
      rcases List.mem_cons.1 hz with e' | e'
      · rw [e']; exact hyx
      · exact hO.ntrans _ _ _ (h.1 z e') hyx
    · rename_i e
      rw [List.pairwise_cons]
      refine ⟨fun z hz => ?_, insL_sorted hO h.2⟩
      rcases List.mem_cons.1 ((insL_perm x r).mem_iff.1 hz) with e' | e'
      · rw [e']; simpa using e
      · exact h.1 z e'
theorem isL_sorted (hO : Sort.SWO lt) (l : List α) : (isL lt l).Pairwise (fun a b => lt b a = false) := by
  have : ∀ (l acc : List α), acc.Pairwise (fun a b => lt b a = false) → (l.foldl (fun acc x => insL lt x acc) acc).Pairwise (fun a b => lt b a = false) := by
    intro l
    induction l with
    | nil => intro acc h; exact h
    | cons x l ih => intro acc h; exact ih _ (insL_sorted hO h)
  exact this l [] List.Pairwise.nil
end
end Go.SL
