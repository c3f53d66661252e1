/- The layer 'SL': a call of the library that turns an own row. -/
import Derived.Test.YtnalpielhpmnfaaSm
import Derived.Sort.Grow
import Derived.Shelf.Sort.Plain
import Derived.Shelf.Slices.In.SortNone
import Derived.Shelf.Slices.CompactI
import Derived.Lib.RowBridge
import Derived.Shelf.SlSortCmp.NoneTotal
namespace Go.SL
open Go.RowKit

def H0 (e sz : Nat) (es : List (List D)) : Hp := [(1000, some (.arr e sz es))]
def XO (w : World) (X : Nat → Prop) (G : Ctx) (ids : List Nat) (h : Hp) : Nat → Prop := XX (org w X h G ids 0) h G

theorem hget_one {k : Nat} {o : AObj} : hget [(k, some o)] k = some o := by rw [hget_cons, if_pos rfl]
theorem hget_one_inv {k j : Nat} {o o' : AObj} (h : hget [(k, some o)] j = some o') : j = k ∧ o' = o := by
  rw [hget_cons] at h
  by_cases e : k = j
  · rw [if_pos e] at h; cases h; exact ⟨e.symm, rfl⟩
  · rw [if_neg e] at h; cases h

section
variable {w w' : World} {X : Nat → Prop} {G : Ctx} {ids : List Nat} {e sz : Nat} {es es' : List (List D)}

/-- What the callee finds. -/
theorem row_open (r : Rel (org w X (H0 e sz es) G ids 0) [] (H0 e sz es) noAct w G) {v : Value} {n : Nat} (hn : n = es.length) (hv : Rep w (XO w X G ids (H0 e sz es)) G (.own 1000 n) v) :
    v = G.m 1000 ∧ ((v = .slice none 0 0 ∧ es = []) ∨ ∃ g cap cur, v = .slice (some ⟨g, 0, none⟩) es.length cap ∧ w.heap[g]? = some (.cells cur e (0, 0)) ∧ es.length ≤ cap ∧ cap ≤ maxLen ∧ cur.size = cap * sz ∧
      ∀ (i : Nat) (x : List D), es[i]? = some x → x.length = sz ∧ ∀ (j : Nat) (y : D), x[j]? = some y → ∃ u, cur[i * sz + j]? = some u ∧ RepD w (XO w X G ids (H0 e sz es)) y u) := by
  obtain ⟨g1, _, g3, xs, hown, g5⟩ := r.obj 1000 _ hget_one
  subst hn
  cases hv with
  | own _ _ _ _ _ _ hvv =>
    have hv := hvv g1
    refine ⟨hv, ?_⟩
    rcases hown.2 with ⟨e1, e2⟩ | ⟨g, cap, cur, e1, _, e2, e3, e4, e5, e6⟩
    · exact .inl ⟨hv.trans e1, List.eq_nil_of_length_eq_zero e2⟩
    · refine .inr ⟨g, cap, cur, hv.trans e1, e2, e3, e4, e5, fun i x hi => ⟨g3 i x hi, fun j y hj => ?_⟩⟩
      obtain ⟨u, h1, h2⟩ := g5 i x hi j y hj
      refine ⟨u, ?_, h2⟩
      rw [← e6] at h1
      rw [List.getElem?_take] at h1
      split at h1
      · rw [← Array.getElem?_toList]; exact h1
      · cases h1
/-- What it leaves. -/
theorem row_rel (r : Rel (org w X (H0 e sz es) G ids 0) [] (H0 e sz es) noAct w G) {C : Nat → Prop} (he : Ext C w w') (hC : ∀ b, C b → blk (G.m 1000) = some b) {k : Nat} {v' : Value} {xs : List Value} (hk : k ∈ ids → v' = G.m k)
    (hs : ∃ A l c, v' = .slice A l c) (hown : w'.ownsRow 0 e sz v' es'.length xs) (hb : ∀ b, blk v' = some b → blk (G.m 1000) = some b) (hz : ∀ (i : Nat) (x : List D), es'[i]? = some x → x.length = sz)
    (hc : ∀ (i : Nat) (x : List D), es'[i]? = some x → ∀ (j : Nat) (y : D), x[j]? = some y → ∃ u, xs[i * sz + j]? = some u ∧ RepD w (XO w X G ids (H0 e sz es)) y u) :
    Rel (org w X (H0 e sz es) G ids 0) [] [(k, some (.arr e sz es'))] noAct w' (G.set k v' es'.length) := by
  have hO : ∀ b, Own [(k, some (.arr e sz es'))] (G.set k v' es'.length) b → Own (H0 e sz es) G b := by
    intro b ⟨j, o, h1, q, hq, hbb⟩
    obtain ⟨rfl, rfl⟩ := hget_one_inv h1
    have : q = j := by simpa [names] using hq
    subst this
    rw [G.set_m] at hbb
    exact ⟨1000, _, hget_one, 1000, List.mem_cons_self, hb b hbb⟩
  have hX : ∀ b, b < w.heap.size → XX (org w X (H0 e sz es) G ids 0) [(k, some (.arr e sz es'))] (G.set k v' es'.length) b → XO w X G ids (H0 e sz es) b := fun b _ hx => hx.imp (fun q => q) (hO b)
  have hCX : ∀ b, b < w.heap.size → C b → XO w X G ids (H0 e sz es) b := fun b _ hx => .inr ⟨1000, _, hget_one, 1000, List.mem_cons_self, hC b hx⟩
  refine ⟨rfl, rfl, fun t => .any _, fun j o h1 => ?_, fun j o q j' o' q' b h1 hq h2 hq' _ _ => ?_, he.mono (fun b hb hx => ⟨1000, _, hget_one, 1000, List.mem_cons_self, hC b hx⟩), fun b hb _ => hO b hb, r.xlt, fun j hj => ?_⟩
  · obtain ⟨rfl, rfl⟩ := hget_one_inv h1
    refine ⟨G.set_len _ _ _, by rw [G.set_m]; exact hs, hz, xs, by rw [G.set_m]; exact hown, fun i x hi j y hj => ?_⟩
    obtain ⟨u, a1, a2⟩ := hc i x hi j y hj
    exact ⟨u, a1, a2.ext he hCX hX⟩
  · obtain ⟨rfl, rfl⟩ := hget_one_inv h1
    obtain ⟨rfl, rfl⟩ := hget_one_inv h2
    have e1 : q = j' := by simpa [names] using hq
    have e2 : q' = j' := by simpa [names] using hq'
    exact ⟨rfl, e1.trans e2.symm⟩
  · by_cases e : j = k
    · subst e
      rw [G.set_m]
      exact hk hj
    · exact G.set_m_ne _ _ e

/-- The block behind the library's 'putRow', draws and new blocks. -/
theorem putRow_at {α : Type} [Inhabited α] {enc : α → Value} {g n : Nat} {os : Array Obj} {cur : Array Value} {fr : Nat × Nat} (d : Array α) (hb : w.heap[g]? = some (.cells cur e fr)) :
    (Sort.grow (Sort.putRow enc (Sort.ahead w n) g 0 d) os).heap[g]? = some (.cells (Sort.putCells enc 0 d cur) e fr) := by
  have hg : g < w.heap.size := (Array.getElem?_eq_some_iff.1 hb).1
  rw [Sort.heap_grow_old _ _ (by simpa using hg)]
  simp [Sort.putRow, Sort.mapBlock, Sort.ahead, Array.getElem?_modify, hb, Sort.onCells]
theorem putRow_ext {α : Type} [Inhabited α] {enc : α → Value} {g n : Nat} {os : Array Obj} (d : Array α) : Ext (fun b => b = g) w (Sort.grow (Sort.putRow enc (Sort.ahead w n) g 0 d) os) := by
  refine ⟨rfl, rfl, rfl, by simp, fun k hk hne => ?_, Nat.le_add_right _ _⟩
  rw [Sort.heap_grow_old _ _ (by simpa using hk)]
  simp [Sort.putRow, Sort.mapBlock, Sort.ahead, Array.getElem?_modify, Ne.symm hne]
theorem putCells_get {α : Type} [Inhabited α] {enc : α → Value} (cur : Array Value) (d : Array α) {j : Nat} (h : d.size ≤ cur.size) : (Sort.putCells enc 0 d cur)[j]? = if h : j < d.size then some (enc d[j]) else cur[j]? := by
  simp only [Sort.putCells, Array.getElem?_mapIdx, Nat.zero_le, Nat.zero_add, true_and, Nat.sub_zero]
  by_cases hj : j < d.size
  · rw [dif_pos hj, Array.getElem?_eq_getElem (by omega)]
    simp [hj]
  · rw [dif_neg hj]
    cases cur[j]? with
    | none => rfl
    | some x => simp [hj]

theorem at_lt {i j n sz : Nat} (hi : i < n) (hj : j < sz) : i * sz + j < n * sz :=
  Nat.lt_of_lt_of_le (Nat.add_lt_add_left hj (i * sz)) (by rw [← Nat.succ_mul]; exact Nat.mul_le_mul_right sz hi)
/-- The row written over by the library. -/
theorem row_put {α : Type} [Inhabited α] {enc : α → Value} (r : Rel (org w X (H0 e sz es) G ids 0) [] (H0 e sz es) noAct w G) {g cap q : Nat} {cur : Array Value} {os : Array Obj} (e1 : G.m 1000 = .slice (some ⟨g, 0, none⟩) es.length cap)
    (e3 : w.heap[g]? = some (.cells cur e (0, 0))) (e4 : es.length ≤ cap) (e5 : cap ≤ maxLen) (e6 : cur.size = cap * sz) (d : Array α) (k : Nat) (hk : k ∈ ids → k = 1000 ∧ es'.length = es.length) (hm : es'.length ≤ es.length) (hd : es'.length * sz ≤ d.size) (hd' : d.size ≤ es.length * sz)
    (hz : ∀ (i : Nat) (x : List D), es'[i]? = some x → x.length = sz) (hc : ∀ (i : Nat) (x : List D), es'[i]? = some x → ∀ (j : Nat) (y : D), x[j]? = some y → ∃ a, d[i * sz + j]? = some a ∧ RepD w (XO w X G ids (H0 e sz es)) y (enc a)) :
    Rel (org w X (H0 e sz es) G ids 0) [] [(k, some (.arr e sz es'))] noAct (Sort.grow (Sort.putRow enc (Sort.ahead w q) g 0 d) os) (G.set k (.slice (some ⟨g, 0, none⟩) es'.length cap) es'.length) := by
  have hcs : es.length * sz ≤ cap * sz := Nat.mul_le_mul_right sz e4
  have hsz : (Sort.putCells enc 0 d cur).size = cap * sz := by simp [Sort.putCells, e6]
  refine row_rel r (putRow_ext d) (fun b hb => by obtain rfl : b = g := hb; rw [e1]; rfl) (xs := (Sort.putCells enc 0 d cur).toList.take (es'.length * sz)) (fun h => ?_) ⟨_, _, _, rfl⟩
    ⟨?_, .inr ⟨g, cap, _, rfl, Nat.zero_le _, putRow_at d e3, by omega, e5, hsz, rfl⟩⟩ (fun b hb => by rw [e1]; exact hb) hz (fun i x hi j y hj => ?_)
  · obtain ⟨rfl, h2⟩ := hk h
    rw [e1, h2]
  · have h1 : es'.length * sz ≤ es.length * sz := Nat.mul_le_mul_right sz hm
    have h2 : (Sort.putCells enc 0 d cur).toList.length = cap * sz := hsz
    rw [List.length_take, h2]
    omega
  · obtain ⟨a, h1, h2⟩ := hc i x hi j y hj
    refine ⟨_, ?_, h2⟩
    have hi' : i < es'.length := (List.getElem?_eq_some_iff.1 hi).1
    have hj' : j < sz := by rw [← hz i x hi]; exact (List.getElem?_eq_some_iff.1 hj).1
    have hlt := at_lt hi' hj'
    rw [List.getElem?_take_of_lt hlt, Array.getElem?_toList, putCells_get cur d (by omega), dif_pos (by omega)]
    obtain ⟨h3, h4⟩ := Array.getElem?_eq_some_iff.1 h1
    rw [h4]
end

/-! ### a row that is handed to the library and comes back as data -/
theorem RepD.head {w : World} {X : Nat → Prop} {sz : Nat} {es : List (List D)} {A : Option Addr} {n c m : Nat} (h : RepD w X (.sl sz es) (.slice A n c)) (hm : m ≤ n) : RepD w X (.sl sz (es.take m)) (.slice A m c) := by
  cases h with
  | sl _ _ _ _ _ b off vs hn hcap hA hsz hcell hrep =>
    have hget : ∀ (i : Nat) (e : List D), (es.take m)[i]? = some e → es[i]? = some e := by
      intro i e hi
      rw [List.getElem?_take] at hi
      split at hi
      · exact hi
      · cases hi
    exact .sl sz _ _ m c b off vs (by simp; omega) (by omega) (fun h0 => hA (by omega)) (fun i e hi => hsz i e (hget i e hi)) (fun i e hi => hcell i e (hget i e hi)) (fun i e hi => hrep i e (hget i e hi))

section
variable {P : Program} {O : Org} {env : Env} {h : Hp} {o : Oper}
end
end Go.SL
/- The layer 'SL': the library's sorts and Compact, by the shelf's contracts. -/
namespace Go.SL
open Go.RowKit Go.Proofs Go.Shelf

section
variable {P : Program} {ρ : Ren} {w : World} {X : Nat → Prop}
end
end Go.SL
/- The layer 'SL': slices.SortFunc at structs, by the shelf's contract. -/
namespace Go.SL
open Go.RowKit Go.Proofs Go.Shelf

/-- An element: its cells, and what they are. -/
abbrev Elt (w : World) (X : Nat → Prop) (k : Nat) (es : List (List D)) : Type :=
  { p : List Value × List D // p.1.length = k ∧ p.2.length = k ∧ p.2 ∈ es ∧ ∀ (j : Nat) (x : D) (u : Value), p.2[j]? = some x → p.1[j]? = some u → RepD w X x u }

section
variable {P : Program} {ρ : Ren}
end
end Go.SL
