/- The layer 'SL': a call of the library that turns an own row. -/
import Derived.Test.YtglkilmflohfoaaDoorSl
import Derived.Maps.RangeRun
import Derived.Sort.Grow
import Derived.Shelf.Sort.Plain
import Derived.Shelf.Slices.In.SortNone
import Derived.Shelf.Slices.CompactI
import Derived.Lib.RowBridge
import Derived.Shelf.SlSortCmp.NoneTotal
namespace Go.SL
open Go.RowKit

def H0 (e sz : Nat) (es : List (List D)) : Hp := [(1000, some (.arr e sz es))]
def XO (w : World) (X : Nat → Prop) (G : Ctx) (ids : List Nat) (h : Hp) : Nat → Prop := XX (org w X h G ids 0) h G

theorem hget_one {k : Nat} {o : AObj} : hget [(k, some o)] k = some o := by rw [hget_cons, if_pos rfl]
theorem hget_one_inv {k j : Nat} {o o' : AObj} (h : hget [(k, some o)] j = some o') : j = k ∧ o' = o := by
  rw [hget_cons] at h
  by_cases e : k = j
  · rw [if_pos e] at h; cases h; exact ⟨e.symm, rfl⟩
  · rw [if_neg e] at h; cases h

section
variable {w w' : World} {X : Nat → Prop} {G : Ctx} {ids : List Nat} {e sz : Nat} {es es' : List (List D)}

/-- What the callee finds. -/
theorem row_open (r : Rel (org w X (H0 e sz es) G ids 0) [] (H0 e sz es) noAct w G) {v : Value} {n : Nat} (hn : n = es.length) (hv : Rep w (XO w X G ids (H0 e sz es)) G (.own 1000 n) v) :
    v = G.m 1000 ∧ ((v = .slice none 0 0 ∧ es = []) ∨ ∃ g cap cur, v = .slice (some ⟨g, 0, none⟩) es.length cap ∧ w.heap[g]? = some (.cells cur e (0, 0)) ∧ es.length ≤ cap ∧ cap ≤ maxLen ∧ cur.size = cap * sz ∧
      ∀ (i : Nat) (x : List D), es[i]? = some x → x.length = sz ∧ ∀ (j : Nat) (y : D), x[j]? = some y → ∃ u, cur[i * sz + j]? = some u ∧ RepD w (XO w X G ids (H0 e sz es)) y u) := by
  obtain ⟨g1, _, g3, xs, hown, g5⟩ := r.obj 1000 _ hget_one
  subst hn
  cases hv with
  | own _ _ _ _ _ _ hvv =>
    have hv := hvv g1
    refine ⟨hv, ?_⟩
    rcases hown.2 with ⟨e1, e2⟩ | ⟨g, cap, cur, e1, _, e2, e3, e4, e5, e6⟩
    · exact .inl ⟨hv.trans e1, List.eq_nil_of_length_eq_zero e2⟩
    · refine .inr ⟨g, cap, cur, hv.trans e1, e2, e3, e4, e5, fun i x hi => ⟨g3 i x hi, fun j y hj => ?_⟩⟩
      obtain ⟨u, h1, h2⟩ := g5 i x hi j y hj
      refine ⟨u, ?_, h2⟩
      rw [← e6] at h1
      rw [List.getElem?_take] at h1
      split at h1
      · rw [← Array.getElem?_toList]; exact h1
      · cases h1
/-- What it leaves. -/
theorem row_rel (r : Rel (org w X (H0 e sz es) G ids 0) [] (H0 e sz es) noAct w G) {C : Nat → Prop} (he : Ext C w w') (hC : ∀ b, C b → blk (G.m 1000) = some b) {k : Nat} {v' : Value} {xs : List Value} (hk : k ∈ ids → v' = G.m k)
    (hs : ∃ A l c, v' = .slice A l c) (hown : w'.ownsRow 0 e sz v' es'.length xs) (hb : ∀ b, blk v' = some b → blk (G.m 1000) = some b) (hz : ∀ (i : Nat) (x : List D), es'[i]? = some x → x.length = sz)
    (hc : ∀ (i : Nat) (x : List D), es'[i]? = some x → ∀ (j : Nat) (y : D), x[j]? = some y → ∃ u, xs[i * sz + j]? = some u ∧ RepD w (XO w X G ids (H0 e sz es)) y u) :
    Rel (org w X (H0 e sz es) G ids 0) [] [(k, some (.arr e sz es'))] noAct w' (G.set k v' es'.length) := by
  have hO : ∀ b, Own [(k, some (.arr e sz es'))] (G.set k v' es'.length) b → Own (H0 e sz es) G b := by
    intro b ⟨j, o, h1, q, hq, hbb⟩
    obtain ⟨rfl, rfl⟩ := hget_one_inv h1
    have : q = j := by simpa [names] using hq
    subst this
    rw [G.set_m] at hbb
    exact ⟨1000, _, hget_one, 1000, List.mem_cons_self, hb b hbb⟩
  have hX : ∀ b, b < w.heap.size → XX (org w X (H0 e sz es) G ids 0) [(k, some (.arr e sz es'))] (G.set k v' es'.length) b → XO w X G ids (H0 e sz es) b := fun b _ hx => hx.imp (fun q => q) (hO b)
  have hCX : ∀ b, b < w.heap.size → C b → XO w X G ids (H0 e sz es) b := fun b _ hx => .inr ⟨1000, _, hget_one, 1000, List.mem_cons_self, hC b hx⟩
  refine ⟨rfl, rfl, fun t => .any _, fun j o h1 => ?_, fun j o q j' o' q' b h1 hq h2 hq' _ _ => ?_, he.mono (fun b hb hx => ⟨1000, _, hget_one, 1000, List.mem_cons_self, hC b hx⟩), fun b hb _ => hO b hb, r.xlt, fun j hj => ?_⟩
  · obtain ⟨rfl, rfl⟩ := hget_one_inv h1
    refine ⟨G.set_len _ _ _, by rw [G.set_m]; exact hs, hz, xs, by rw [G.set_m]; exact hown, fun i x hi j y hj => ?_⟩
    obtain ⟨u, a1, a2⟩ := hc i x hi j y hj
    exact ⟨u, a1, a2.ext he hCX hX⟩
  · obtain ⟨rfl, rfl⟩ := hget_one_inv h1
    obtain ⟨rfl, rfl⟩ := hget_one_inv h2
    have e1 : q = j' := by simpa [names] using hq
    have e2 : q' = j' := by simpa [names] using hq'
    exact ⟨rfl, e1.trans e2.symm⟩
  · by_cases e : j = k
    · subst e
      rw [G.set_m]
      exact hk hj
    · exact G.set_m_ne _ _ e

/-- The block behind the library's 'putRow', draws and new blocks. -/
theorem putRow_at {α : Type} [Inhabited α] {enc : α → Value} {g n : Nat} {os : Array Obj} {cur : Array Value} {fr : Nat × Nat} (d : Array α) (hb : w.heap[g]? = some (.cells cur e fr)) :
    (Sort.grow (Sort.putRow enc (Sort.ahead w n) g 0 d) os).heap[g]? = some (.cells (Sort.putCells enc 0 d cur) e fr) := by
  have hg : g < w.heap.size := (Array.getElem?_eq_some_iff.1 hb).1
  rw [Sort.heap_grow_old _ _ (by simpa using hg)]
  simp [Sort.putRow, Sort.mapBlock, Sort.ahead, Array.getElem?_modify, hb, Sort.onCells]
theorem putRow_ext {α : Type} [Inhabited α] {enc : α → Value} {g n : Nat} {os : Array Obj} (d : Array α) : Ext (fun b => b = g) w (Sort.grow (Sort.putRow enc (Sort.ahead w n) g 0 d) os) := by
  refine ⟨rfl, rfl, rfl, by simp, fun k hk hne => ?_, Nat.le_add_right _ _⟩
  rw [Sort.heap_grow_old _ _ (by simpa using hk)]
  simp [Sort.putRow, Sort.mapBlock, Sort.ahead, Array.getElem?_modify, Ne.symm hne]
theorem putCells_get {α : Type} [Inhabited α] {enc : α → Value} (cur : Array Value) (d : Array α) {j : Nat} (h : d.size ≤ cur.size) : (Sort.putCells enc 0 d cur)[j]? = if h : j < d.size then some (enc d[j]) else cur[j]? := by
  simp only [Sort.putCells, Array.getElem?_mapIdx, Nat.zero_le, Nat.zero_add, true_and, Nat.sub_zero]
  by_cases hj : j < d.size
  · rw [dif_pos hj, Array.getElem?_eq_getElem (by omega)]
    simp [hj]
  · rw [dif_neg hj]
    cases cur[j]? with
    | none => rfl
    | some x => simp [hj]

theorem at_lt {i j n sz : Nat} (hi : i < n) (hj : j < sz) : i * sz + j < n * sz :=
  Nat.lt_of_lt_of_le (Nat.add_lt_add_left hj (i * sz)) (by rw [← Nat.succ_mul]; exact Nat.mul_le_mul_right sz hi)
/-- The row written over by the library. -/
theorem row_put {α : Type} [Inhabited α] {enc : α → Value} (r : Rel (org w X (H0 e sz es) G ids 0) [] (H0 e sz es) noAct w G) {g cap q : Nat} {cur : Array Value} {os : Array Obj} (e1 : G.m 1000 = .slice (some ⟨g, 0, none⟩) es.length cap)
    (e3 : w.heap[g]? = some (.cells cur e (0, 0))) (e4 : es.length ≤ cap) (e5 : cap ≤ maxLen) (e6 : cur.size = cap * sz) (d : Array α) (k : Nat) (hk : k ∈ ids → k = 1000 ∧ es'.length = es.length) (hm : es'.length ≤ es.length) (hd : es'.length * sz ≤ d.size) (hd' : d.size ≤ es.length * sz)
    (hz : ∀ (i : Nat) (x : List D), es'[i]? = some x → x.length = sz) (hc : ∀ (i : Nat) (x : List D), es'[i]? = some x → ∀ (j : Nat) (y : D), x[j]? = some y → ∃ a, d[i * sz + j]? = some a ∧ RepD w (XO w X G ids (H0 e sz es)) y (enc a)) :
    Rel (org w X (H0 e sz es) G ids 0) [] [(k, some (.arr e sz es'))] noAct (Sort.grow (Sort.putRow enc (Sort.ahead w q) g 0 d) os) (G.set k (.slice (some ⟨g, 0, none⟩) es'.length cap) es'.length) := by
  have hcs : es.length * sz ≤ cap * sz := Nat.mul_le_mul_right sz e4
  have hsz : (Sort.putCells enc 0 d cur).size = cap * sz := by simp [Sort.putCells, e6]
  refine row_rel r (putRow_ext d) (fun b hb => by obtain rfl : b = g := hb; rw [e1]; rfl) (xs := (Sort.putCells enc 0 d cur).toList.take (es'.length * sz)) (fun h => ?_) ⟨_, _, _, rfl⟩
    ⟨?_, .inr ⟨g, cap, _, rfl, Nat.zero_le _, putRow_at d e3, by omega, e5, hsz, rfl⟩⟩ (fun b hb => by rw [e1]; exact hb) hz (fun i x hi j y hj => ?_)
  · obtain ⟨rfl, h2⟩ := hk h
    rw [e1, h2]
  · have h1 : es'.length * sz ≤ es.length * sz := Nat.mul_le_mul_right sz hm
    have h2 : (Sort.putCells enc 0 d cur).toList.length = cap * sz := hsz
    rw [List.length_take, h2]
    omega
  · obtain ⟨a, h1, h2⟩ := hc i x hi j y hj
    refine ⟨_, ?_, h2⟩
    have hi' : i < es'.length := (List.getElem?_eq_some_iff.1 hi).1
    have hj' : j < sz := by rw [← hz i x hi]; exact (List.getElem?_eq_some_iff.1 hj).1
    have hlt := at_lt hi' hj'
    rw [List.getElem?_take_of_lt hlt, Array.getElem?_toList, putCells_get cur d (by omega), dif_pos (by omega)]
    obtain ⟨h3, h4⟩ := Array.getElem?_eq_some_iff.1 h1
    rw [h4]
end

/-! ### a row that is handed to the library and comes back as data -/
theorem RepD.head {w : World} {X : Nat → Prop} {sz : Nat} {es : List (List D)} {A : Option Addr} {n c m : Nat} (h : RepD w X (.sl sz es) (.slice A n c)) (hm : m ≤ n) : RepD w X (.sl sz (es.take m)) (.slice A m c) := by
  cases h with
  | sl _ _ _ _ _ b off vs hn hcap hA hsz hcell hrep =>
    have hget : ∀ (i : Nat) (e : List D), (es.take m)[i]? = some e → es[i]? = some e := by
      intro i e hi
      rw [List.getElem?_take] at hi
      split at hi
      · exact hi
      · cases hi
    exact .sl sz _ _ m c b off vs (by simp; omega) (by omega) (fun h0 => hA (by omega)) (fun i e hi => hsz i e (hget i e hi)) (fun i e hi => hcell i e (hget i e hi)) (fun i e hi => hrep i e (hget i e hi))

section
variable {P : Program} {O : Org} {env : Env} {h : Hp} {o : Oper}
end
end Go.SL
/- The layer 'SL': the library's sorts and Compact, by the shelf's contracts. -/
namespace Go.SL
open Go.RowKit Go.Proofs Go.Shelf

def iN (n : Int) : List D := [.sc (.int .i64 n)]
section
variable {P : Program} {ρ : Ren} {w : World} {X : Nat → Prop}
theorem ints_holds {g e : Nat} {cur : Array Value} (hb : w.heap[g]? = some (.cells cur e (0, 0))) (zs : List Int)
    (hc : ∀ (i : Nat) (x : List D), (zs.map iN)[i]? = some x → x.length = 1 ∧ ∀ (j : Nat) (y : D), x[j]? = some y → ∃ u, cur[i * 1 + j]? = some u ∧ RepD w X y u) : Sort.Holds (Value.int .i64) w g 0 zs.toArray := by
  intro j hj
  have hj' : j < zs.length := by simpa using hj
  obtain ⟨_, h2⟩ := hc j (iN zs[j]) (by simp [hj'])
  obtain ⟨u, h3, h4⟩ := h2 0 (.sc (.int .i64 zs[j])) rfl
  cases h4
  refine ⟨?_, by simp [World.frozen?, hb]⟩
  rw [Nat.mul_one, Nat.add_zero] at h3
  simp only [World.cell?, hb, Nat.zero_add, Option.isSome_none, Bool.false_eq_true, if_false, h3]
  simp [hj']
theorem ints_cells (ts : List Int) {d : Array Int} (h : ∀ i : Nat, i < ts.length → d[i]? = ts[i]?) : ∀ (i : Nat) (x : List D), (ts.map iN)[i]? = some x → ∀ (j : Nat) (y : D), x[j]? = some y → ∃ a, d[i * 1 + j]? = some a ∧ RepD w X y (Value.int .i64 a) := by
  intro i x hi j y hj
  rw [List.getElem?_map, Option.map_eq_some_iff] at hi
  obtain ⟨z, hz, rfl⟩ := hi
  have hj0 : j = 0 := by
    have := (List.getElem?_eq_some_iff.1 hj).1
    simp [iN] at this
    exact this
  subst hj0
  cases hj
  refine ⟨z, ?_, .sc _ rfl⟩
  rw [Nat.mul_one, Nat.add_zero, h i (List.getElem?_eq_some_iff.1 hz).1, hz]
theorem ints_one (ts : List Int) : ∀ (i : Nat) (x : List D), (ts.map iN)[i]? = some x → x.length = 1 := by
  intro i x hi
  rw [List.getElem?_map, Option.map_eq_some_iff] at hi
  obtain ⟨z, hz, rfl⟩ := hi
  rfl

theorem sortInts_ac (L : Lays.n189 P ρ) (hf : Callable P (ρ.f 189)) (e n : Nat) (zs : List Int) (hn : n = zs.length) (hz : zs.length ≤ 140737488351232) :
    AC P (ρ.f 189) [.own 1000 n] (H0 e 1 (zs.map iN)) [1000] (fun r h' => r = .tup [] ∧ SubH (H0 e 1 ((zs.mergeSort fun x y => decide (x ≤ y)).map iN)) h') := by
  refine ⟨hf, fun w X G vs r hl hv => ?_⟩
  match vs, hl with
  | [v], _ =>
    obtain ⟨e1, hrow⟩ := row_open r (by simpa using hn) (hv 0 _ v rfl rfl)
    rcases hrow with ⟨hnil, hes⟩ | ⟨g, cap, cur, e2, e3, e4, e5, e6, e7⟩
    · have : zs = [] := by simpa using hes
      subst this
      subst hnil
      refine (Any.slices_Sort_int_none L none 0 w).mono ?_
      rintro ex w' ⟨rfl, rfl⟩
      exact ⟨_, .tup [], H0 e 1 [], G, rfl, r, .tup [] #[] rfl (fun i c v hc _ => by simp at hc), rfl, by rw [List.mergeSort_nil]; exact ⟨hget_one, trivial⟩⟩
    · have hl1 : (zs.map iN).length = zs.length := List.length_map _
      rw [e2] at e1
      subst e2
      rw [hl1]
      refine (Any.slices_Sort_int L g 0 cap zs w (ints_holds e3 zs e7) (heap_lt e3) (by omega)).mono ?_
      rintro ex w' ⟨rfl, q, os, rfl⟩
      have ht : (zs.mergeSort fun x y => decide (x ≤ y)).length = zs.length := by simp
      generalize (zs.mergeSort fun x y => decide (x ≤ y)) = ts at ht ⊢
      have r' := row_put (es' := ts.map iN) (enc := Value.int .i64) (q := q) (os := os) r e1.symm e3 e4 e5 e6 ts.toArray 1000 (fun _ => ⟨rfl, by simp [ht]⟩) (by simp [ht]) (by simp) (by simp [ht]) (ints_one ts) (ints_cells ts (fun i _ => by simp))
      exact ⟨_, .tup [], _, _, rfl, r', .tup [] #[] rfl (fun i c v hc _ => by simp at hc), rfl, hget_one, trivial⟩

end
end Go.SL
/- The layer 'SL': slices.SortFunc at structs, by the shelf's contract. -/
namespace Go.SL
open Go.RowKit Go.Proofs Go.Shelf

theorem grow_of_ext {w w' : World} (h : Ext (fun _ => False) w w') : ∃ q os, w' = Sort.grow (w.drewN q) os := by
  refine ⟨w'.drawn - w.drawn, w'.heap.extract w.heap.size w'.heap.size, ?_⟩
  have hh : w'.heap = w.heap ++ w'.heap.extract w.heap.size w'.heap.size := by
    apply Array.ext_getElem?
    intro i
    by_cases hi : i < w.heap.size
    · rw [Array.getElem?_append_left hi]
      exact h.block i hi (fun h => h)
    · rw [Array.getElem?_append_right (by omega), Array.getElem?_extract]
      have := h.size
      by_cases hj : i < w'.heap.size
      · rw [if_pos (by omega)]
        congr 1
        omega
      · rw [if_neg (by omega), Array.getElem?_eq_none (by omega)]
  have h1 := h.os
  have h2 := h.tape
  have h3 := h.output
  have h4 := h.drawn
  obtain ⟨a1, a2, a3, a4, a5⟩ := w
  obtain ⟨b1, b2, b3, b4, b5⟩ := w'
  simp only [Sort.grow, World.drewN] at *
  subst h1 h2 h3
  rw [← hh]
  congr 1
  omega

theorem no1 {id : Nat} {o : AObj} (h : hget [] id = some o) : False := by cases h
theorem no2 {G : Ctx} {b : Nat} (h : Own [] G b) : False := by
  obtain ⟨_, _, h1, _⟩ := h
  cases h1
/-- An element: its cells, and what they are. -/
abbrev Elt (w : World) (X : Nat → Prop) (k : Nat) (es : List (List D)) : Type :=
  { p : List Value × List D // p.1.length = k ∧ p.2.length = k ∧ p.2 ∈ es ∧ ∀ (j : Nat) (x : D) (u : Value), p.2[j]? = some x → p.1[j]? = some u → RepD w X x u }

theorem swo_sub {α β : Type} {cmp : α → α → Int} (h : Sort.SWO (ltOf cmp)) (f : β → α) : Sort.SWO (ltOf fun x y => cmp (f x) (f y)) :=
  ⟨fun x => h.irrefl (f x), fun x y z => h.trans (f x) (f y) (f z), fun x y z => h.ntrans (f x) (f y) (f z)⟩

section
variable {P : Program} {ρ : Ren}
theorem elt_get {w : World} {X : Nat → Prop} {k : Nat} {es : List (List D)} {cap : Nat} {cur : Array Value} (e4 : es.length ≤ cap) (e6 : cur.size = cap * k)
    (e7 : ∀ (i : Nat) (x : List D), es[i]? = some x → x.length = k ∧ ∀ (j : Nat) (y : D), x[j]? = some y → ∃ u, cur[i * k + j]? = some u ∧ RepD w X y u) (i : Fin es.length) :
    ∃ p : Elt w X k es, p.1.2 = es[i] ∧ ∀ j, j < k → cur[i.1 * k + j]? = p.1.1[j]? := by
  have hget : ∀ j, j < k → ((cur.toList.drop (i.1 * k)).take k)[j]? = cur[i.1 * k + j]? := by
    intro j hj
    rw [List.getElem?_take_of_lt hj, List.getElem?_drop, Array.getElem?_toList]
  have hi := List.getElem?_eq_getElem i.2
  obtain ⟨h1, h2⟩ := e7 i.1 es[i] hi
  have hle : i.1 * k + k ≤ cap * k := by
    have : (i.1 + 1) * k ≤ cap * k := Nat.mul_le_mul_right k (by have := i.2; omega)
    rw [Nat.succ_mul] at this
    exact this
  refine ⟨⟨((cur.toList.drop (i.1 * k)).take k, es[i]), ?_, h1, List.getElem_mem i.2, fun j x u hx hu => ?_⟩, rfl, fun j hj => (hget j hj).symm⟩
  · rw [List.length_take, List.length_drop, show cur.toList.length = cap * k from e6]
    omega
  · obtain ⟨u', h3, h4⟩ := h2 j x hx
    have hj : j < k := by rw [← h1]; exact (List.getElem?_eq_some_iff.1 hx).1
    dsimp only at hu
    rw [hget j hj, h3] at hu
    cases hu
    exact h4

/-- slices.SortFunc at structs of k cells: 'ts' is what the row holds, sorted. -/
theorem sortFunc_ac (L : SlLaysF0.n6 P ρ) (k : Nat) (aE : ∀ w, (isAgg (ρ.t 24)).run P w = .ok true w) (zE : ∀ w, (Go.sizeOf (ρ.t 24)).run P w = .ok k w) (hf : Callable P (ρ.f 6)) {g : FuncId} (hg : Callable P g) (e n : Nat) (es ts : List (List D)) (cmp : List D → List D → Int)
    (hO : Sort.SWO (ltOf cmp)) (hn : n = es.length) (hz : es.length ≤ 140737488351232) (hC : ∀ x ∈ es, ∀ y ∈ es, AC P g [.agg (x.map .d), .agg (y.map .d)] [] [] (fun r _ => r = .d (.sc (.int .i64 (cmp x y))))) (hp : ts.Perm es)
    (hs : ts.Pairwise (fun a b => ltOf cmp b a = false)) (ha : ∀ x ∈ es, ∀ y ∈ es, ltOf cmp x y = false → ltOf cmp y x = false → x = y) :
    AC P (ρ.f 6) [.own 1000 n, .fn g []] (H0 e k es) [1000] (fun r h' => r = .tup [] ∧ SubH (H0 e k ts) h') := by
  refine ⟨hf, fun w X G vs r hl hv => ?_⟩
  match vs, hl with
  | [v, v2], _ =>
    obtain ⟨e1, hrow⟩ := row_open r hn (hv 0 _ v rfl rfl)
    have h2 : v2 = .func (.func g) #[] #[] := by
      have := hv 1 _ v2 rfl rfl
      cases this with
      | fn _ _ cvs hs hc =>
        have : cvs = #[] := Array.eq_empty_of_size_eq_zero hs
        subst this
        rfl
    subst h2
    by_cases h0 : es = []
    · subst h0
      have ht : ts = [] := List.Perm.eq_nil hp
      subst ht
      have hv0 : ∃ p c, v = .slice p 0 c := by
        rcases hrow with ⟨hnil, _⟩ | ⟨g0, cap, cur, e2, _⟩
        · exact ⟨_, _, hnil⟩
        · exact ⟨_, _, e2⟩
      obtain ⟨p, c, rfl⟩ := hv0
      refine (AnyF.slices_SortFunc_none L p c _ w).mono ?_
      rintro ex w' ⟨rfl, rfl⟩
      exact ⟨_, .tup [], H0 e k [], G, rfl, r, .tup [] #[] rfl (fun i c v hc _ => by simp at hc), rfl, hget_one, trivial⟩
    · rcases hrow with ⟨_, hes⟩ | ⟨g0, cap, cur, e2, e3, e4, e5, e6, e7⟩
      · exact absurd hes h0
      · rw [e2] at e1
        subst e2
        have hbX : XO w X G [1000] (H0 e k es) g0 := .inr ⟨1000, _, hget_one, 1000, List.mem_cons_self, by rw [← e1]; rfl⟩
        generalize hXX : XO w X G [1000] (H0 e k es) = XX0 at e7 hbX
        have hpos : 0 < es.length := List.length_pos_iff.2 h0
        let f : Fin es.length → Elt w XX0 k es := fun i => Classical.choose (elt_get e4 e6 e7 i)
        have hfs : ∀ i : Fin es.length, (f i).1.2 = es[i] ∧ ∀ j, j < k → cur[i.1 * k + j]? = (f i).1.1[j]? := fun i => Classical.choose_spec (elt_get e4 e6 e7 i)
        haveI : Inhabited (Elt w XX0 k es) := ⟨f ⟨0, hpos⟩⟩
        let d : Array (Elt w XX0 k es) := Array.ofFn f
        have hds : d.size = es.length := by simp [d]
        have hdg : ∀ (i : Nat) (hi : i < es.length), d[i]! = f ⟨i, hi⟩ := fun i hi => by rw [getElem!_pos d i (by rw [hds]; exact hi)]; simp [d]
        let enc : Elt w XX0 k es → List Value := fun p => p.1.1
        have hk1 : ∀ p : Elt w XX0 k es, (enc p).length = k := fun p => p.2.1
        have hone : ∀ p : Elt w XX0 k es, ∀ v ∈ enc p, v.oneCell' = true := by
          intro p v hv
          obtain ⟨j, hj⟩ := List.getElem?_of_mem hv
          have hlt : j < p.1.2.length := by rw [p.2.2.1, ← hk1 p]; exact (List.getElem?_eq_some_iff.1 hj).1
          exact (p.2.2.2.2 j _ v (List.getElem?_eq_getElem hlt) hj).one
        let cf : Elt w XX0 k es → Elt w XX0 k es → Int := fun x y => cmp x.1.2 y.1.2
        have hcf : Sort.SWO (ltOf cf) := swo_sub hO (fun p : Elt w XX0 k es => p.1.2)
        have hglt : g0 < w.heap.size := heap_lt e3
        have hcmp : CmpLays P g #[] enc k cf g0 0 d.size w := by
          intro m os dk _ x y
          generalize hW : sortWorldK enc k w g0 0 m dk os = W
          have hext : Ext (fun b => b = g0) w W := by
            rw [← hW]
            exact putRow_ext (enc := id) (Sort.flatK enc k dk)
          have hC' := (hC x.1.2 x.2.2.2.1 y.1.2 y.2.2.2.1).2 W (fun b => b = g0) ⟨fun _ => .bool false, fun _ => 0⟩ [.agg (enc x).toArray, .agg (enc y).toArray]
          have hrep : ∀ p : Elt w XX0 k es, Rep W (XX (org W (fun b => b = g0) [] ⟨fun _ => .bool false, fun _ => 0⟩ [] 0) [] ⟨fun _ => .bool false, fun _ => 0⟩) ⟨fun _ => .bool false, fun _ => 0⟩ (.agg (p.1.2.map .d)) (.agg (enc p).toArray) := by
            intro p
            refine .agg _ _ (by simp [hk1 p, p.2.2.1]) (fun i c v hc hv => ?_) (fun i v hv => ?_)
            · rw [List.getElem?_map, Option.map_eq_some_iff] at hc
              obtain ⟨x, hx, rfl⟩ := hc
              rw [List.getElem?_toArray] at hv
              refine .d _ _ ((p.2.2.2.2 i x v hx hv).ext hext (fun b _ hb => by subst hb; exact hbX) (fun b _ hb => ?_))
              rcases hb with hb | ⟨_, _, h1, _⟩
              · obtain rfl : b = g0 := hb
                exact hbX
              · cases h1
            · rw [List.getElem?_toArray] at hv
              exact hone p v (List.mem_of_getElem? hv)
          refine (hC' ⟨rfl, rfl, fun t => .any _, fun id o h1 => (no1 h1).elim, fun id o j id' o' j' b h1 => (no1 h1).elim, Ext.refl _ _, fun b hb => (no2 hb).elim, fun b hb => ⟨?_, fun hb => (no2 hb).elim⟩, fun _ _ => rfl⟩ rfl (fun i c v hc hv => ?_)).mono ?_
          · obtain rfl : b = g0 := hb
            exact Nat.lt_of_lt_of_le hglt hext.size
          · match i, hc, hv with
            | 0, hc, hv => cases hc; cases hv; exact hrep x
            | 1, hc, hv => cases hc; cases hv; exact hrep y
          · rintro ex w' ⟨v, rr, h', G', rfl, r', hr, rfl⟩
            have hv : v = .int .i64 (cmp x.1.2 y.1.2) := hr.sc_inv
            subst hv
            exact ⟨rfl, grow_of_ext (r'.ext.mono (fun b _ hb => (no2 hb).elim))⟩
        have hH : Sort.HoldsK enc k w g0 0 d := by
          intro t ht
          have ht' : t < d.size * k := by simpa using ht
          have hk0 : 0 < k := by
            rcases Nat.eq_zero_or_pos k with h | h
            · subst h; simp at ht'
            · exact h
          have hq : t / k < es.length := by rw [← hds]; exact Nat.div_lt_of_lt_mul (by rw [Nat.mul_comm]; exact ht')
          have hr := Nat.mod_lt t hk0
          have hval : cur[t]? = some (Sort.flatK enc k d)[t]! := by
            rw [Sort.get_flatK enc k d t ht', hdg _ hq]
            have h3 := (hfs ⟨t / k, hq⟩).2 (t % k) hr
            have h4 : t / k * k + t % k = t := by rw [Nat.mul_comm]; exact Nat.div_add_mod t k
            rw [h4] at h3
            rw [h3, getElem!_pos _ (t % k) (by rw [hk1]; exact hr)]
            exact List.getElem?_eq_getElem _
          refine ⟨?_, by simp [World.frozen?, e3]⟩
          simp only [World.cell?, e3, Nat.zero_add, Option.isSome_none, Bool.false_eq_true, if_false, hval, id]
        have hcon := AnyQ.slices_SortFunc L k aE zE enc hk1 hone cf hcf g #[] g0 0 cap d w hg hcmp hH hglt (by rw [hds]; omega)
        rw [hds] at hcon
        refine hcon.mono ?_
        rintro ex w' ⟨rfl, d', q, os, ⟨hp1, _, hp2⟩, hs', rfl⟩
        have hd's : d'.size = es.length := hp1.trans hds
        have hperm : d'.toList.Perm d.toList := by
          have e8 : (d'.extract 0 es.length).toList = d'.toList := by rw [← hd's, Array.extract_size]
          have e9 : (d.extract 0 es.length).toList = d.toList := by rw [← hds, Array.extract_size]
          rw [e8, e9] at hp2
          exact hp2
        have hdl : d.toList.map (fun p => p.1.2) = es := by
          apply List.ext_getElem?
          intro i
          rw [List.getElem?_map, Array.getElem?_toList]
          by_cases hi : i < es.length
          · rw [Array.getElem?_eq_getElem (by rw [hds]; exact hi), List.getElem?_eq_getElem hi]
            simp only [d, Array.getElem_ofFn, Option.map_some]
            rw [(hfs ⟨i, hi⟩).1]
            rfl
          · rw [Array.getElem?_eq_none (by omega), List.getElem?_eq_none (by omega)]
            rfl
        have hes' : d'.toList.map (fun p => p.1.2) = ts := by
          have p1 : (d'.toList.map (fun p => p.1.2)).Perm es := by
            have := hperm.map (fun p => p.1.2)
            rwa [hdl] at this
          have s1 : (d'.toList.map (fun p => p.1.2)).Pairwise (fun a b => ltOf cmp b a = false) := by
            rw [List.pairwise_map, List.pairwise_iff_getElem]
            intro i j hi hj hlt
            have := hs' i j (Nat.zero_le _) hlt (by rw [← hd's]; simpa using hj)
            rw [getElem!_pos d' j (by simpa using hj), getElem!_pos d' i (by simpa using hi)] at this
            exact this
          exact (p1.trans hp.symm).eq_of_pairwise (le := fun a b => ltOf cmp b a = false) (fun a b h1 h2 h3 h4 => ha a (p1.mem_iff.1 h1) b (hp.mem_iff.1 h2) h4 h3) s1 hs
        subst hes'
        have r' := row_put (es' := d'.toList.map (fun p => p.1.2)) (enc := id) (q := q) (os := os) r e1.symm e3 e4 e5 e6 (Sort.flatK enc k d') 1000 (fun _ => ⟨rfl, by simp [hd's]⟩) (by simp [hd's]) (by simp) (by simp [hd's]) (fun i x hi => ?_) (fun i x hi j y hj => ?_)
        · exact ⟨_, .tup [], _, _, rfl, r', .tup [] #[] rfl (fun i c v hc _ => by simp at hc), rfl, hget_one, trivial⟩
        · rw [List.getElem?_map, Option.map_eq_some_iff] at hi
          obtain ⟨p, _, rfl⟩ := hi
          exact p.2.2.1
        · rw [List.getElem?_map, Option.map_eq_some_iff] at hi
          obtain ⟨p, hp0, rfl⟩ := hi
          rw [Array.getElem?_toList] at hp0
          obtain ⟨hi', hpi⟩ := Array.getElem?_eq_some_iff.1 hp0
          have hj' : j < k := by rw [← p.2.2.1]; exact (List.getElem?_eq_some_iff.1 hj).1
          have hlt := at_lt (sz := k) hi' hj'
          have hk0 : 0 < k := by omega
          have hdiv : (i * k + j) / k = i := by rw [Nat.add_comm, Nat.add_mul_div_right _ _ hk0, Nat.div_eq_of_lt hj', Nat.zero_add]
          have hmod : (i * k + j) % k = j := by rw [Nat.add_comm, Nat.add_mul_mod_self_right, Nat.mod_eq_of_lt hj']
          have hjl : j < p.1.1.length := by rw [p.2.1]; exact hj'
          refine ⟨p.1.1[j], ?_, ?_⟩
          · rw [Array.getElem?_eq_getElem (by simpa using hlt)]
            have := Sort.get_flatK enc k d' (i * k + j) hlt
            rw [getElem!_pos _ _ (by simpa using hlt), hdiv, hmod, getElem!_pos d' i hi', hpi, getElem!_pos _ j hjl] at this
            rw [this]
          · rw [hXX]
            exact p.2.2.2.2 j y _ hj (List.getElem?_eq_getElem hjl)
end
end Go.SL
