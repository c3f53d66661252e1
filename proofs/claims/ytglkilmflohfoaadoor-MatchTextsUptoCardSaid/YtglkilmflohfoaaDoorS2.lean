/- The layer 'SL': immutable data by value, owned objects by name. Definitions and how they keep. -/
import Derived.WalkKit
import Derived.WalkLawsBesides
import Derived.Maps.AppendAt
import Derived.Deep.Quiet
namespace Go.SL
open Go.RowKit

/-- Data: what is never written again. -/
inductive D where
  | sc (v : Value)
  | sl (sz : Nat) (es : List (List D))

/-- What a slot holds. -/
inductive AV where
  | any
  | d (x : D)
  | agg (cs : List AV)
  | tup (cs : List AV)
  | ptr (id off : Nat)
  | ro (cs : List D)
  | roa (cs : List AV)
  | sla (sz : Nat) (es : List (List AV))
  | own (id n : Nat)
  | eptr (id n sz k off : Nat)
  | part (id n sz lo k : Nat)
  | mp (id : Nat)
  | it (id : Nat)
  | fn (f : FuncId) (caps : List AV)
  | bnd (f : FuncId) (caps : List AV)

/-- An owned object. -/
inductive AObj where
  | cells (cs : List AV)
  | tcl (ty : Nat) (cs : List AV)
  | arr (ety sz : Nat) (es : List (List D))
  | map (kt et : Nat) (es : List (Value × AV)) (it : Option (Nat × List Value × Option Value))
  | mapF (kt et : Nat) (es : List (Value × AV))
  | mapS (kt et : Nat) (es : List (Value × AV)) (st : List Nat) (ck : Nat) (it : Option (Nat × List Value × Option Value))
  | raw (b : Nat) (o : Obj)
  | mapP (kt et : Nat) (es : List (Value × AV))
  | nx (kt et ety sz : Nat) (rs : List (Value × List (List D))) (dt : Option (Nat × Nat × Nat)) (it : Option (Nat × List Value × Option Value))

abbrev Env := List (Nat × AV)
abbrev Hp := List (Nat × Option AObj)

def lk : Env → Nat → AV
  | [], _ => .any
  | (t, v) :: r, s => bif Nat.beq t s then v else lk r s
def hget : Hp → Nat → Option AObj
  | [], _ => none
  | (t, v) :: r, s => bif Nat.beq t s then v else hget r s

theorem lk_cons (t : Nat) (v : AV) (r : Env) (s : Nat) : lk ((t, v) :: r) s = if t = s then v else lk r s := by
  show (bif Nat.beq t s then v else lk r s) = _
  by_cases h : t = s
  · subst h; simp
  · have : Nat.beq t s = false := by
      cases hb : Nat.beq t s
      · rfl
      · exact absurd (Nat.eq_of_beq_eq_true hb) h
    rw [this, if_neg h]; rfl
theorem hget_cons (t : Nat) (v : Option AObj) (r : Hp) (s : Nat) : hget ((t, v) :: r) s = if t = s then v else hget r s := by
  show (bif Nat.beq t s then v else hget r s) = _
  by_cases h : t = s
  · subst h; simp
  · have : Nat.beq t s = false := by
      cases hb : Nat.beq t s
      · rfl
      · exact absurd (Nat.eq_of_beq_eq_true hb) h
    rw [this, if_neg h]; rfl

structure Ctx where
  m : Nat → Value
  len : Nat → Nat
def Ctx.set (G : Ctx) (id : Nat) (v : Value) (n : Nat) : Ctx := ⟨fun i => if i = id then v else G.m i, fun i => if i = id then n else G.len i⟩

inductive RepD (w : World) (X : Nat → Prop) : D → Value → Prop
  | sc (v : Value) (h1 : v.oneCell' = true) : RepD w X (.sc v) v
  | sl (sz : Nat) (es : List (List D)) (A : Option Addr) (n c b off : Nat) (vs : Nat → Nat → Value) (hn : es.length = n) (hcap : n ≤ c)
      (hA : 0 < n → A = some ⟨b, off, none⟩ ∧ b < w.heap.size ∧ ¬ X b) (hsz : ∀ (i : Nat) (e : List _), es[i]? = some e → e.length = sz)
      (hcell : ∀ (i : Nat) (e : List D), es[i]? = some e → ∀ (j : Nat) (x : D), e[j]? = some x → w.cell? ⟨b, off + (i * sz + j), none⟩ = some (vs i j))
      (hrep : ∀ (i : Nat) (e : List D), es[i]? = some e → ∀ (j : Nat) (x : D), e[j]? = some x → RepD w X x (vs i j)) : RepD w X (.sl sz es) (.slice A n c)

inductive Rep (w : World) (X : Nat → Prop) (G : Ctx) : AV → Value → Prop
  | any (v : Value) : Rep w X G .any v
  | d (x : D) (v : Value) (h : RepD w X x v) : Rep w X G (.d x) v
  | agg (cs : List AV) (vs : Array Value) (hs : vs.size = cs.length) (hc : ∀ (i : Nat) (c : AV) (v : Value), cs[i]? = some c → vs[i]? = some v → Rep w X G c v)
      (h1 : ∀ (i : Nat) (v : Value), vs[i]? = some v → v.oneCell' = true) : Rep w X G (.agg cs) (.agg vs)
  | tup (cs : List AV) (vs : Array Value) (hs : vs.size = cs.length) (hc : ∀ (i : Nat) (c : AV) (v : Value), cs[i]? = some c → vs[i]? = some v → Rep w X G c v) : Rep w X G (.tup cs) (.tuple vs)
  | ptr (id off b : Nat) (h : G.m id = .pointer (some ⟨b, 0, none⟩)) : Rep w X G (.ptr id off) (.pointer (some ⟨b, off, none⟩))
  | ro (cs : List D) (b off : Nat) (vs : Nat → Value) (hb : b < w.heap.size) (hX : ¬ X b)
      (hcell : ∀ (j : Nat) (x : D), cs[j]? = some x → w.cell? ⟨b, off + j, none⟩ = some (vs j)) (hrep : ∀ (j : Nat) (x : D), cs[j]? = some x → RepD w X x (vs j)) : Rep w X G (.ro cs) (.pointer (some ⟨b, off, none⟩))
  | roa (cs : List AV) (b off : Nat) (vs : Nat → Value) (hb : b < w.heap.size) (hX : ¬ X b)
      (hcell : ∀ (j : Nat) (x : AV), cs[j]? = some x → w.cell? ⟨b, off + j, none⟩ = some (vs j)) (hrep : ∀ (j : Nat) (x : AV), cs[j]? = some x → Rep w X G x (vs j))
      (h1 : ∀ (j : Nat) (x : AV), cs[j]? = some x → (vs j).oneCell' = true) : Rep w X G (.roa cs) (.pointer (some ⟨b, off, none⟩))
  | sla (sz : Nat) (es : List (List AV)) (A : Option Addr) (n c b off : Nat) (vs : Nat → Nat → Value) (hn : es.length = n) (hcap : n ≤ c)
      (hA : 0 < n → A = some ⟨b, off, none⟩ ∧ b < w.heap.size ∧ ¬ X b) (hsz : ∀ (i : Nat) (e : List _), es[i]? = some e → e.length = sz)
      (hcell : ∀ (i : Nat) (e : List AV), es[i]? = some e → ∀ (j : Nat) (x : AV), e[j]? = some x → w.cell? ⟨b, off + (i * sz + j), none⟩ = some (vs i j))
      (hrep : ∀ (i : Nat) (e : List AV), es[i]? = some e → ∀ (j : Nat) (x : AV), e[j]? = some x → Rep w X G x (vs i j))
      (h1 : ∀ (i : Nat) (e : List AV), es[i]? = some e → ∀ (j : Nat) (x : AV), e[j]? = some x → (vs i j).oneCell' = true) : Rep w X G (.sla sz es) (.slice A n c)
  | own (id n : Nat) (v : Value) (h1 : v.oneCell' = true) (hn : n ≤ G.len id) (hm : ∃ A l c, G.m id = .slice A l c) (hv : G.len id = n → v = G.m id) : Rep w X G (.own id n) v
  | eptr (id n sz k off : Nat) (v : Value) (h1 : v.oneCell' = true) (hn : n ≤ G.len id) (hm : ∃ A l c, G.m id = .slice A l c)
      (hv : G.len id = n → ∃ b c, G.m id = .slice (some ⟨b, 0, none⟩) n c ∧ v = .pointer (some ⟨b, k * sz + off, none⟩)) : Rep w X G (.eptr id n sz k off) v
  | part (id n sz lo k : Nat) (v : Value) (h1 : v.oneCell' = true) (hn : n ≤ G.len id) (hm : ∃ A l c, G.m id = .slice A l c)
      (hv : G.len id = n → ∃ A c, v = .slice A k c ∧ k ≤ c ∧ (0 < k → ∃ b cc, G.m id = .slice (some ⟨b, 0, none⟩) n cc ∧ A = some ⟨b, lo * sz, none⟩)) : Rep w X G (.part id n sz lo k) v
  | mp (id b : Nat) (h : G.m id = .map (some b)) : Rep w X G (.mp id) (.map (some b))
  | it (id b : Nat) (h : G.m id = .pointer (some ⟨b, 0, none⟩)) : Rep w X G (.it id) (.pointer (some ⟨b, 0, none⟩))
  | fn (f : FuncId) (caps : List AV) (vs : Array Value) (hs : vs.size = caps.length) (hc : ∀ (i : Nat) (c : AV) (v : Value), caps[i]? = some c → vs[i]? = some v → Rep w X G c v) :
      Rep w X G (.fn f caps) (.func (.func f) #[] vs)
  | bnd (f : FuncId) (caps : List AV) (vs : Array Value) (hs : vs.size = caps.length) (hc : ∀ (i : Nat) (c : AV) (v : Value), caps[i]? = some c → vs[i]? = some v → Rep w X G c v) :
      Rep w X G (.bnd f caps) (.func (.func f) vs #[])

/-- No run takes a draw back. -/
theorem ask_drawn {α : Type} : ∀ (x : Ask α) (w : World), w.drawn ≤ (w.ask x).2.drawn := by
  intro x
  induction x with
  | done a => intro w; exact Nat.le_refl _
  | ask what range k ih =>
    intro w
    unfold World.ask
    dsimp only
    split
    · exact ih _ _
    · exact Nat.le_trans (Nat.le_succ _) (ih _ { w with drawn := w.drawn + 1 })
theorem sys_drawn (w : World) (c : Sys) : w.drawn ≤ (w.sys c).2.drawn := by
  have h := ask_drawn (Kernel.perform c w.os) w
  unfold World.sys
  split
  · exact Nat.le_refl _
  · rename_i e
    rw [e] at h
    exact h
theorem viewStore_drawn {P : Program} {w w' : World} {a k : Addr} {u : TypeId} {v : Value} {b : Bool} {l : List Addr} (h : w.viewStore P a u k v b = .ok (w', l)) : w'.drawn = w.drawn := by
  unfold World.viewStore at h
  simp only [bind, Except.bind, pure, Except.pure] at h
  repeat' split at h
  all_goals first
    | (cases h; done)
    | (cases h; rfl)
theorem store_drawn {P : Program} {α : Type} {k : Sem α} (ih : ∀ (w : World) (a : α) (w' : World), k.run P w = .ok a w' → w.drawn ≤ w'.drawn) {w w' : World} {a : Addr} {v : Value} {b : Bool} {x : α}
    (h : (match w.cell? a with
      | some _ => if w.frozen? a then Result.halt (.unsupported (.unsafePointer "a write to bytes that a string shares")) w else k.run P (w.setCell a v)
      | none => match w.farStore P a v b with
        | .ok (w, _) => k.run P w
        | .error h => .halt h w) = .ok x w') : w.drawn ≤ w'.drawn := by
  split at h
  · split at h
    · cases h
    · have t := ih _ _ _ h
      exact t
  · split at h
    · rename_i w1 l hw
      have h1 := ih _ _ _ h
      have : w1.drawn = w.drawn := by
        unfold World.farStore at hw
        split at hw
        · split at hw
          · rename_i hv
            cases hw
            exact viewStore_drawn hv
          · cases hw
        · cases hw
      omega
    · cases h
theorem run_drawn {P : Program} {α : Type} : ∀ (s : Sem α) (w : World) (a : α) (w' : World), s.run P w = .ok a w' → w.drawn ≤ w'.drawn := by
  intro s
  induction s with
  | pure a => intro w x w' h; cases h; exact Nat.le_refl _
  | load m a k ih =>
    intro w x w' h
    unfold Sem.run at h
    split at h
    · exact ih _ _ _ _ h
    · split at h
      · exact ih _ _ _ _ h
      · cases h
  | store m a v k ih =>
    intro w x w' h
    cases v <;> first
      | (cases h; done)
      | exact store_drawn ih h
  | new o k ih =>
    intro w x w' h
    have t := ih w.heap.size { w with heap := w.heap.push o } _ _ h
    exact t
  | shape r k ih => intro w x w' h; exact ih _ _ _ _ h
  | freeze a n k ih =>
    intro w x w' h
    have := ih _ _ _ h
    have e : (w.freeze a n).drawn = w.drawn := by unfold World.freeze; split <;> rfl
    omega
  | frozen a k ih => intro w x w' h; exact ih _ _ _ _ h
  | getObj r k ih =>
    intro w x w' h
    unfold Sem.run at h
    split at h
    · cases h
    · exact ih _ _ _ _ h
    · cases h
  | setObj r o k ih =>
    intro w x w' h
    unfold Sem.run at h
    split at h
    · cases h
    · have t := ih _ _ _ h
      exact t
    · cases h
  | choose q k ih =>
    intro w x w' h
    unfold Sem.run at h
    split at h
    · exact ih _ _ _ _ h
    · exact Nat.le_trans (Nat.le_succ _) (ih _ { w with drawn := w.drawn + 1 } _ _ h)
  | sys c k ih =>
    intro w x w' h
    exact Nat.le_trans (sys_drawn w c) (ih _ _ _ _ h)
  | program k ih => intro w x w' h; exact ih _ _ _ _ h
  | mark m k ih => intro w x w' h; exact ih _ _ _ h
  | halt h => intro w x w' h; cases h

/-- From w to w' nothing has turned but the blocks of C; blocks may be new. -/
structure Ext (C : Nat → Prop) (w w' : World) : Prop where
  os : w'.os = w.os
  tape : w'.tape = w.tape
  output : w'.output = w.output
  size : w.heap.size ≤ w'.heap.size
  block : ∀ b, b < w.heap.size → ¬ C b → w'.heap[b]? = w.heap[b]?
  drawn : w.drawn ≤ w'.drawn

theorem Ext.refl (C : Nat → Prop) (w : World) : Ext C w w := ⟨rfl, rfl, rfl, Nat.le_refl _, fun _ _ _ => rfl, Nat.le_refl _⟩
theorem Ext.trans {C : Nat → Prop} {a b c : World} (h : Ext C a b) (k : Ext C b c) : Ext C a c :=
  ⟨k.os.trans h.os, k.tape.trans h.tape, k.output.trans h.output, Nat.le_trans h.size k.size,
    fun i hi hn => (k.block i (Nat.lt_of_lt_of_le hi h.size) hn).trans (h.block i hi hn), Nat.le_trans h.drawn k.drawn⟩
/-- what turns among blocks that are new to 'a' is nothing to 'a'. -/
theorem Ext.transNew {C C' : Nat → Prop} {a b c : World} (h : Ext C a b) (k : Ext C' b c) (hc : ∀ i, i < a.heap.size → C' i → C i) : Ext C a c :=
  ⟨k.os.trans h.os, k.tape.trans h.tape, k.output.trans h.output, Nat.le_trans h.size k.size,
    fun i hi hn => (k.block i (Nat.lt_of_lt_of_le hi h.size) (fun hx => hn (hc i hi hx))).trans (h.block i hi hn), Nat.le_trans h.drawn k.drawn⟩
theorem Ext.mono {C C' : Nat → Prop} {a b : World} (h : Ext C a b) (hc : ∀ i, i < a.heap.size → C i → C' i) : Ext C' a b :=
  ⟨h.os, h.tape, h.output, h.size, fun i hi hn => h.block i hi (fun hx => hn (hc i hi hx)), h.drawn⟩
theorem Ext.drew {C : Nat → Prop} {a b : World} (h : Ext C a b) : Ext C a b.drew := ⟨h.os, h.tape, h.output, h.size, h.block, Nat.le_succ_of_le h.drawn⟩
theorem Ext.alloc (C : Nat → Prop) (w : World) (o : Obj) : Ext C w (w.alloc o) :=
  ⟨rfl, rfl, rfl, by simp, fun k hk _ => Below.heap_alloc w o k hk, Nat.le_refl _⟩
theorem Ext.grown {w w' : World} {row : Option Nat} (h : w.grownBy w' row) (hd : w.drawn ≤ w'.drawn) : Ext (fun b => row = some b) w w' :=
  ⟨h.os, h.tape, h.output, h.size, fun i hi hn => h.block i hi (fun e => hn e.symm), hd⟩
theorem Ext.cell {C : Nat → Prop} {w w' : World} (h : Ext C w w') {a : Addr} {v : Value} (hc : w.cell? a = some v) (hn : ¬ C a.block) : w'.cell? a = some v :=
  (World.cell?_of_block (h.block a.block (World.block_lt_of_cell? w a hc) hn)).trans hc
theorem Ext.setCell (w : World) (a : Addr) (v : Value) : Ext (fun b => b = a.block) w (w.setCell a v) :=
  ⟨rfl, rfl, rfl, by simp [World.setCell], fun k _ hn => Below.heap_setCell w a v k hn, Nat.le_refl _⟩

theorem RepD.ext {w w' : World} {X X' C : Nat → Prop} {x : D} {v : Value} (h : RepD w X x v) (he : Ext C w w') (hC : ∀ b, b < w.heap.size → C b → X b)
    (hX : ∀ b, b < w.heap.size → X' b → X b) : RepD w' X' x v := by
  induction h with
  | sc v h1 => exact .sc v h1
  | sl sz es A n c b off vs hn hcap hA hsz hcell hrep ih =>
    refine .sl sz es A n c b off vs hn hcap (fun h0 => ?_) hsz (fun i e hi j x hj => ?_) ih
    · obtain ⟨e1, e2, e3⟩ := hA h0
      exact ⟨e1, Nat.lt_of_lt_of_le e2 he.size, fun hx => e3 (hX b e2 hx)⟩
    · have h0 : 0 < n := by
        rw [← hn]
        rcases Nat.eq_zero_or_pos es.length with h | h
        · rw [List.eq_nil_of_length_eq_zero h] at hi; simp at hi
        · exact h
      obtain ⟨_, e2, e3⟩ := hA h0
      exact he.cell (hcell i e hi j x hj) (fun hc => e3 (hC b e2 hc))

/-- The context turns: nothing, or an owned array has grown. -/
def GStep (G G' : Ctx) : Prop := ∀ id, (G'.m id = G.m id ∧ G'.len id = G.len id) ∨ (∃ A n c, G.m id = .slice A n c ∧ (∃ A' n' c', G'.m id = .slice A' n' c') ∧ G.len id < G'.len id)
theorem GStep.refl (G : Ctx) : GStep G G := fun _ => .inl ⟨rfl, rfl⟩

theorem Rep.ext {w w' : World} {X X' C : Nat → Prop} {G G' : Ctx} {x : AV} {v : Value} (h : Rep w X G x v) (he : Ext C w w') (hC : ∀ b, b < w.heap.size → C b → X b)
    (hX : ∀ b, b < w.heap.size → X' b → X b) (hG : GStep G G') : Rep w' X' G' x v := by
  induction h with
  | any v => exact .any v
  | d x v h => exact .d x v (h.ext he hC hX)
  | agg cs vs hs _ h1 ih => exact .agg cs vs hs ih h1
  | tup cs vs hs _ ih => exact .tup cs vs hs ih
  | ptr id off b h =>
    rcases hG id with ⟨e, _⟩ | ⟨A, n, c, e, _⟩
    · exact .ptr id off b (e.trans h)
    · rw [e] at h; cases h
  | ro cs b off vs hb hn hcell hrep =>
    exact .ro cs b off vs (Nat.lt_of_lt_of_le hb he.size) (fun hx => hn (hX b hb hx)) (fun j x hj => he.cell (hcell j x hj) (fun hc => hn (hC b hb hc))) (fun j x hj => (hrep j x hj).ext he hC hX)
  | roa cs b off vs hb hn hcell hrep h1 ih =>
    exact .roa cs b off vs (Nat.lt_of_lt_of_le hb he.size) (fun hx => hn (hX b hb hx)) (fun j x hj => he.cell (hcell j x hj) (fun hc => hn (hC b hb hc))) ih h1
  | sla sz es A n c b off vs hn hcap hA hsz hcell hrep h1 ih =>
    refine .sla sz es A n c b off vs hn hcap (fun h0 => ?_) hsz (fun i e hi j x hj => ?_) ih h1
    · obtain ⟨e1, e2, e3⟩ := hA h0
      exact ⟨e1, Nat.lt_of_lt_of_le e2 he.size, fun hx => e3 (hX b e2 hx)⟩
    · have h0 : 0 < n := by
        rw [← hn]
        rcases Nat.eq_zero_or_pos es.length with h | h
        · rw [List.eq_nil_of_length_eq_zero h] at hi; simp at hi
        · exact h
      obtain ⟨_, e2, e3⟩ := hA h0
      exact he.cell (hcell i e hi j x hj) (fun hc => e3 (hC b e2 hc))
  | own id n v h1 hn hm hv =>
    rcases hG id with ⟨e, e'⟩ | ⟨A, l, c, e, h2, hlt⟩
    · exact .own id n v h1 (by rw [e']; exact hn) (by rw [e]; exact hm) (fun h => by rw [e]; exact hv (e' ▸ h))
    · exact .own id n v h1 (by omega) h2 (fun h => by omega)
  | eptr id n sz k off v h1 hn hm hv =>
    rcases hG id with ⟨e, e'⟩ | ⟨A, l, c, e, h2, hlt⟩
    · exact .eptr id n sz k off v h1 (by rw [e']; exact hn) (by rw [e]; exact hm) (fun h => by rw [e]; exact hv (e' ▸ h))
    · exact .eptr id n sz k off v h1 (by omega) h2 (fun h => by omega)
  | part id n sz lo k v h1 hn hm hv =>
    rcases hG id with ⟨e, e'⟩ | ⟨A, l, c, e, h2, hlt⟩
    · exact .part id n sz lo k v h1 (by rw [e']; exact hn) (by rw [e]; exact hm) (fun h => by rw [e]; exact hv (e' ▸ h))
    · exact .part id n sz lo k v h1 (by omega) h2 (fun h => by omega)
  | mp id b h =>
    rcases hG id with ⟨e, _⟩ | ⟨A, n, c, e, _⟩
    · exact .mp id b (e.trans h)
    · rw [e] at h; cases h
  | it id b h =>
    rcases hG id with ⟨e, _⟩ | ⟨A, n, c, e, _⟩
    · exact .it id b (e.trans h)
    · rw [e] at h; cases h
  | fn f caps vs hs _ ih => exact .fn f caps vs hs ih
  | bnd f caps vs hs _ ih => exact .bnd f caps vs hs ih

/-- Does the name 'id' not occur? -/
def fresh (id : Nat) : AV → Bool
  | .any | .d _ | .ro _ => true
  | .agg cs | .tup cs | .roa cs | .fn _ cs | .bnd _ cs => freshL id cs
  | .sla _ es => freshLL id es
  | .ptr j _ | .own j _ | .eptr j _ _ _ _ | .part j _ _ _ _ | .mp j | .it j => !(Nat.beq id j)
where
  freshL (id : Nat) : List AV → Bool
    | [] => true
    | c :: r => fresh id c && freshL id r
  freshLL (id : Nat) : List (List AV) → Bool
    | [] => true
    | c :: r => freshL id c && freshLL id r

theorem freshL_mem {id : Nat} : ∀ {cs : List AV}, fresh.freshL id cs = true → ∀ {i : Nat} {c : AV}, cs[i]? = some c → fresh id c = true
  | [], _, _, _, h => by simp at h
  | c :: r, h, 0, c', h' => by
    unfold fresh.freshL at h
    simp only [Bool.and_eq_true] at h
    have : c = c' := by simpa using h'
    exact this ▸ h.1
  | c :: r, h, i + 1, c', h' => by
    unfold fresh.freshL at h
    simp only [Bool.and_eq_true] at h
    exact freshL_mem h.2 (by simpa using h')
theorem freshLL_mem {id : Nat} : ∀ {es : List (List AV)}, fresh.freshLL id es = true → ∀ {i : Nat} {e : List AV}, es[i]? = some e → fresh.freshL id e = true
  | [], _, _, _, h => by simp at h
  | c :: r, h, 0, c', h' => by
    unfold fresh.freshLL at h
    simp only [Bool.and_eq_true] at h
    have : c = c' := by simpa using h'
    exact this ▸ h.1
  | c :: r, h, i + 1, c', h' => by
    unfold fresh.freshLL at h
    simp only [Bool.and_eq_true] at h
    exact freshLL_mem h.2 (by simpa using h')
theorem beq_ne {id j : Nat} (h : (!(Nat.beq id j)) = true) : j ≠ id := by
  intro e; subst e; simp at h
theorem Ctx.set_m_ne (G : Ctx) {id j : Nat} (v : Value) (n : Nat) (h : j ≠ id) : (G.set id v n).m j = G.m j := by simp [Ctx.set, h]
theorem Ctx.set_len_ne (G : Ctx) {id j : Nat} (v : Value) (n : Nat) (h : j ≠ id) : (G.set id v n).len j = G.len j := by simp [Ctx.set, h]
theorem Ctx.set_m (G : Ctx) (id : Nat) (v : Value) (n : Nat) : (G.set id v n).m id = v := by simp [Ctx.set]
theorem Ctx.set_len (G : Ctx) (id : Nat) (v : Value) (n : Nat) : (G.set id v n).len id = n := by simp [Ctx.set]

theorem Rep.setFresh {w : World} {X : Nat → Prop} {G : Ctx} {x : AV} {v : Value} {id : Nat} (mv : Value) (n : Nat) (h : Rep w X G x v) : fresh id x = true → Rep w X (G.set id mv n) x v := by
  induction h with
  | any v => exact fun _ => .any v
  | d x v h => exact fun _ => .d x v h
  | agg cs vs hs _ h1 ih => exact fun hf => .agg cs vs hs (fun i c v hc hv => ih i c v hc hv (freshL_mem (by unfold fresh at hf; exact hf) hc)) h1
  | tup cs vs hs _ ih => exact fun hf => .tup cs vs hs (fun i c v hc hv => ih i c v hc hv (freshL_mem (by unfold fresh at hf; exact hf) hc))
  | ptr j off b h => intro hf; unfold fresh at hf; exact .ptr j off b ((G.set_m_ne _ _ (beq_ne hf)).trans h)
  | ro cs b off vs hb hn hcell hrep => exact fun _ => .ro cs b off vs hb hn hcell hrep
  | roa cs b off vs hb hn hcell hrep h1 ih => exact fun hf => .roa cs b off vs hb hn hcell (fun j x hj => ih j x hj (freshL_mem (by unfold fresh at hf; exact hf) hj)) h1
  | sla sz es A n c b off vs hn hcap hA hsz hcell hrep h1 ih =>
    exact fun hf => .sla sz es A n c b off vs hn hcap hA hsz hcell (fun i e hi j x hj => ih i e hi j x hj (freshL_mem (freshLL_mem (by unfold fresh at hf; exact hf) hi) hj)) h1
  | own j n v h1 hn hm hv =>
    intro hf; unfold fresh at hf
    have hne := beq_ne hf
    exact .own j n v h1 (by rw [G.set_len_ne _ _ hne]; exact hn) (by rw [G.set_m_ne _ _ hne]; exact hm) (by rw [G.set_len_ne _ _ hne, G.set_m_ne _ _ hne]; exact hv)
  | eptr j n sz k off v h1 hn hm hv =>
    intro hf; unfold fresh at hf
    have hne := beq_ne hf
    exact .eptr j n sz k off v h1 (by rw [G.set_len_ne _ _ hne]; exact hn) (by rw [G.set_m_ne _ _ hne]; exact hm) (by rw [G.set_len_ne _ _ hne, G.set_m_ne _ _ hne]; exact hv)
  | part j n sz lo k v h1 hn hm hv =>
    intro hf; unfold fresh at hf
    have hne := beq_ne hf
    exact .part j n sz lo k v h1 (by rw [G.set_len_ne _ _ hne]; exact hn) (by rw [G.set_m_ne _ _ hne]; exact hm) (by rw [G.set_len_ne _ _ hne, G.set_m_ne _ _ hne]; exact hv)
  | mp j b h => intro hf; unfold fresh at hf; exact .mp j b ((G.set_m_ne _ _ (beq_ne hf)).trans h)
  | it j b h => intro hf; unfold fresh at hf; exact .it j b ((G.set_m_ne _ _ (beq_ne hf)).trans h)
  | fn f caps vs hs _ ih => exact fun hf => .fn f caps vs hs (fun i c v hc hv => ih i c v hc hv (freshL_mem (by unfold fresh at hf; exact hf) hc))
  | bnd f caps vs hs _ ih => exact fun hf => .bnd f caps vs hs (fun i c v hc hv => ih i c v hc hv (freshL_mem (by unfold fresh at hf; exact hf) hc))

/-- no name occurs -/
def noid : AV → Bool
  | .any | .d _ | .ro _ => true
  | .agg cs | .tup cs | .roa cs | .fn _ cs | .bnd _ cs => noidL cs
  | .sla _ es => noidLL es
  | .ptr _ _ | .own _ _ | .eptr _ _ _ _ _ | .part _ _ _ _ _ | .mp _ | .it _ => false
where
  noidL : List AV → Bool
    | [] => true
    | c :: r => noid c && noidL r
  noidLL : List (List AV) → Bool
    | [] => true
    | c :: r => noidL c && noidLL r
theorem noidL_mem : ∀ {cs : List AV}, noid.noidL cs = true → ∀ {i : Nat} {c : AV}, cs[i]? = some c → noid c = true
  | [], _, _, _, h => by simp at h
  | c :: r, h, 0, c', h' => by
    unfold noid.noidL at h
    simp only [Bool.and_eq_true] at h
    have : c = c' := by simpa using h'
    exact this ▸ h.1
  | c :: r, h, i + 1, c', h' => by
    unfold noid.noidL at h
    simp only [Bool.and_eq_true] at h
    exact noidL_mem h.2 (by simpa using h')
theorem noidLL_mem : ∀ {es : List (List AV)}, noid.noidLL es = true → ∀ {i : Nat} {e : List AV}, es[i]? = some e → noid.noidL e = true
  | [], _, _, _, h => by simp at h
  | c :: r, h, 0, c', h' => by
    unfold noid.noidLL at h
    simp only [Bool.and_eq_true] at h
    have : c = c' := by simpa using h'
    exact this ▸ h.1
  | c :: r, h, i + 1, c', h' => by
    unfold noid.noidLL at h
    simp only [Bool.and_eq_true] at h
    exact noidLL_mem h.2 (by simpa using h')
theorem Rep.noid {w : World} {X : Nat → Prop} {G : Ctx} {x : AV} {v : Value} (G' : Ctx) (h : Rep w X G x v) : noid x = true → Rep w X G' x v := by
  induction h with
  | any v => exact fun _ => .any v
  | d x v h => exact fun _ => .d x v h
  | agg cs vs hs _ h1 ih => exact fun hf => .agg cs vs hs (fun i c v hc hv => ih i c v hc hv (noidL_mem (by unfold SL.noid at hf; exact hf) hc)) h1
  | tup cs vs hs _ ih => exact fun hf => .tup cs vs hs (fun i c v hc hv => ih i c v hc hv (noidL_mem (by unfold SL.noid at hf; exact hf) hc))
  | ro cs b off vs hb hn hcell hrep => exact fun _ => .ro cs b off vs hb hn hcell hrep
  | roa cs b off vs hb hn hcell hrep h1 ih => exact fun hf => .roa cs b off vs hb hn hcell (fun j x hj => ih j x hj (noidL_mem (by unfold SL.noid at hf; exact hf) hj)) h1
  | sla sz es A n c b off vs hn hcap hA hsz hcell hrep h1 ih =>
    exact fun hf => .sla sz es A n c b off vs hn hcap hA hsz hcell (fun i e hi j x hj => ih i e hi j x hj (noidL_mem (noidLL_mem (by unfold SL.noid at hf; exact hf) hi) hj)) h1
  | fn f caps vs hs _ ih => exact fun hf => .fn f caps vs hs (fun i c v hc hv => ih i c v hc hv (noidL_mem (by unfold SL.noid at hf; exact hf) hc))
  | bnd f caps vs hs _ ih => exact fun hf => .bnd f caps vs hs (fun i c v hc hv => ih i c v hc hv (noidL_mem (by unfold SL.noid at hf; exact hf) hc))
  | ptr => intro hf; cases hf
  | own => intro hf; cases hf
  | eptr => intro hf; cases hf
  | part => intro hf; cases hf
  | mp => intro hf; cases hf
  | it => intro hf; cases hf
end Go.SL
/- The layer 'SL': the state, the judgement on code, the rules on code. -/
namespace Go.SL
open Go.RowKit

def blk : Value → Option Nat
  | .pointer (some a) => some a.block
  | .slice (some a) _ _ => some a.block
  | .map (some b) => some b
  | _ => none
/-- the names of a map's own rows -/
def inm (i : Nat) : Nat := 1000000 + i
/-- is the row lent out? -/
def offD (dt : Option (Nat × Nat × Nat)) (i : Nat) : Bool := match dt with
  | some (k, _, _) => Nat.beq k i
  | none => false
def itN (it : Option (Nat × List Value × Option Value)) : List Nat := match it with
  | some (i, _) => [i]
  | none => []
def nxN (n : Nat) (dt : Option (Nat × Nat × Nat)) : List Nat := ((List.range n).filter fun i => !offD dt i).map inm
def names : AObj → List Nat
  | .map _ _ _ (some (i, _)) => [i]
  | .nx _ _ _ _ rs dt it => itN it ++ nxN rs.length dt
  | .mapS _ _ _ _ _ it => itN it
  | _ => []
def nonx : AObj → Bool
  | .nx _ _ _ _ _ _ _ => false
  | _ => true
def Own (h : Hp) (G : Ctx) (b : Nat) : Prop := ∃ id o, hget h id = some o ∧ ∃ j, j ∈ id :: names o ∧ blk (G.m j) = some b

def IterRep (w : World) (G : Ctx) (b : Nat) (ents : Array MapEntry) (clock : Nat) : Option (Nat × List Value × Option Value) → Prop
  | none => True
  | some (i, todo, cur) => ∃ ib stamps, G.m i = .pointer (some ⟨ib, 0, none⟩) ∧ w.heap[ib]? = some (.mapIter (some b) clock stamps clock) ∧
      (∀ e ∈ ents.toList, stamps.contains e.born = false ↔ e.key ∈ todo) ∧ (∀ k ∈ todo, ∃ e ∈ ents.toList, e.key = k) ∧ ∀ k, cur = some k → ∃ e ∈ ents.toList, e.key = k ∧ ∃ s : Array Nat, stamps = s.push e.born

def ArrRep (w : World) (X : Nat → Prop) (G : Ctx) (id : Nat) (ety sz : Nat) (es : List (List D)) : Prop :=
  G.len id = es.length ∧ (∃ A l c, G.m id = .slice A l c) ∧ (∀ (i : Nat) (e : List D), es[i]? = some e → e.length = sz) ∧ ∃ xs, w.ownsRow 0 ety sz (G.m id) es.length xs ∧
      ∀ (i : Nat) (e : List D), es[i]? = some e → ∀ (j : Nat) (x : D), e[j]? = some x → ∃ v, xs[i * sz + j]? = some v ∧ RepD w X x v
def ObjRep (w : World) (X : Nat → Prop) (G : Ctx) (id : Nat) : AObj → Prop
  | .cells cs => ∃ b arr ty, G.m id = .pointer (some ⟨b, 0, none⟩) ∧ w.heap[b]? = some (.cells arr ty (0, 0)) ∧ arr.size = cs.length ∧
      ∀ (i : Nat) (c : AV) (v : Value), cs[i]? = some c → arr[i]? = some v → Rep w X G c v ∧ v.oneCell' = true
  | .tcl ty cs => ∃ b arr, G.m id = .pointer (some ⟨b, 0, none⟩) ∧ w.heap[b]? = some (.cells arr ty (0, 0)) ∧ arr.size = cs.length ∧
      (∀ (i : Nat) (c : AV) (v : Value), cs[i]? = some c → arr[i]? = some v → Rep w X G c v ∧ v.oneCell' = true) ∧ (arr[0]? = some (.pointer none) ∨ arr[0]? = some (.pointer (some ⟨b, 0, none⟩)))
  | .arr ety sz es => G.len id = es.length ∧ (∃ A l c, G.m id = .slice A l c) ∧ (∀ (i : Nat) (e : List D), es[i]? = some e → e.length = sz) ∧ ∃ xs, w.ownsRow 0 ety sz (G.m id) es.length xs ∧
      ∀ (i : Nat) (e : List D), es[i]? = some e → ∀ (j : Nat) (x : D), e[j]? = some x → ∃ v, xs[i * sz + j]? = some v ∧ RepD w X x v
  | .map _ _ es it => ∃ b ents clock, G.m id = .map (some b) ∧ w.heap[b]? = some (.map ents clock) ∧ ents.size = es.length ∧
      (∀ (i : Nat) (k : Value) (c : AV) (e : MapEntry), es[i]? = some (k, c) → ents[i]? = some e → e.key = k ∧ Rep w X G c e.val ∧ noid c = true) ∧
      (∀ (i j : Nat) (e e' : MapEntry), ents[i]? = some e → ents[j]? = some e' → e.born = e'.born → i = j) ∧ (∀ e ∈ ents.toList, e.born < clock) ∧ IterRep w G b ents clock it
  | .mapF _ _ es => ∃ b ents, G.m id = .map (some b) ∧ w.heap[b]? = some (.map ents es.length) ∧ ents.size = es.length ∧
      (∀ (i : Nat) (k : Value) (c : AV) (e : MapEntry), es[i]? = some (k, c) → ents[i]? = some e → e.key = k ∧ Rep w X G c e.val ∧ noid c = true) ∧
      (∀ (i : Nat) (e : MapEntry), ents[i]? = some e → e.born = i)
  | .mapS _ _ es st ck it => ∃ b ents, G.m id = .map (some b) ∧ w.heap[b]? = some (.map ents ck) ∧ ents.size = es.length ∧
      (∀ (i : Nat) (k : Value) (c : AV) (e : MapEntry), es[i]? = some (k, c) → ents[i]? = some e → e.key = k ∧ Rep w X G c e.val ∧ noid c = true) ∧
      (∀ (i : Nat) (e : MapEntry), ents[i]? = some e → st[i]? = some e.born) ∧ IterRep w G b ents ck it
  | .raw b o => G.m id = .pointer (some ⟨b, 0, none⟩) ∧ w.heap[b]? = some o
  | .mapP _ _ es0 => ∃ es : List (Value × AV), es.Perm es0 ∧ ∃ b ents clock, G.m id = .map (some b) ∧ w.heap[b]? = some (.map ents clock) ∧ ents.size = es.length ∧
      (∀ (i : Nat) (k : Value) (c : AV) (e : MapEntry), es[i]? = some (k, c) → ents[i]? = some e → e.key = k ∧ Rep w X G c e.val ∧ noid c = true) ∧
      (∀ (i j : Nat) (e e' : MapEntry), ents[i]? = some e → ents[j]? = some e' → e.born = e'.born → i = j) ∧ (∀ e ∈ ents.toList, e.born < clock)
  | .nx _ _ ety sz rs dt it => ∃ b ents clock, G.m id = .map (some b) ∧ w.heap[b]? = some (.map ents clock) ∧ ents.size = rs.length ∧
      (∀ (i : Nat) (k : Value) (r : List (List D)) (e : MapEntry), rs[i]? = some (k, r) → ents[i]? = some e → e.key = k ∧
        (offD dt i = false → e.val = G.m (inm i) ∧ (∃ c, blk (G.m (inm i)) = some c) ∧ ArrRep w X G (inm i) ety sz r) ∧ (∀ j n, dt = some (i, j, n) → Rep w X G (.own j n) e.val)) ∧
      (∀ (i j : Nat) (e e' : MapEntry), ents[i]? = some e → ents[j]? = some e' → e.born = e'.born → i = j) ∧ (∀ e ∈ ents.toList, e.born < clock) ∧ IterRep w G b ents clock it

structure Org where
  w0 : World
  X : Nat → Prop
  own0 : Nat → Prop
  ids : List Nat
  G0 : Ctx
  nt : Nat

def XX (O : Org) (h : Hp) (G : Ctx) : Nat → Prop := fun b => O.X b ∨ Own h G b

structure Rel (O : Org) (env : Env) (h : Hp) (a : Act) (w : World) (G : Ctx) : Prop where
  size : a.tmps.size = O.nt
  dfr : a.defers = []
  env : ∀ t, Rep w (XX O h G) G (lk env t) (a.tmps.getD t undef)
  obj : ∀ id o, hget h id = some o → ObjRep w (XX O h G) G id o
  dist : ∀ id o j id' o' j' b, hget h id = some o → j ∈ id :: names o → hget h id' = some o' → j' ∈ id' :: names o' → blk (G.m j) = some b → blk (G.m j') = some b → id = id' ∧ j = j'
  ext : Ext O.own0 O.w0 w
  own : ∀ b, Own h G b → b < O.w0.heap.size → O.own0 b
  xlt : ∀ b, O.X b → b < O.w0.heap.size ∧ ¬ O.own0 b
  ids : ∀ id ∈ O.ids, G.m id = O.G0.m id

def lift (O : Org) (Q : Exit → Env → Hp → Prop) (e : Exit) (a : Act) (w : World) : Prop := ∃ env h G, Rel O env h a w G ∧ Q e env h

def AW (P : Program) (O : Org) (c : Code) (Q : Exit → Env → Hp → Prop) (env : Env) (h : Hp) : Prop :=
  ∀ a w G, Rel O env h a w G → c.wp P (lift O Q) a w

def evalA (env : Env) : Operand → AV
  | .tmp t => lk env t
  | .const (.agg vs) => if vs.all (fun v => v.oneCell') then .agg (vs.toList.map fun v => .d (.sc v)) else .any
  | .const (.tuple _) => .any
  | .const v => .d (.sc v)
  | .global _ => .any
  | .func f => .fn f []

theorem evalA_rep {w : World} {X : Nat → Prop} {G : Ctx} {env : Env} {a : Act} (h : ∀ t, Rep w X G (lk env t) (a.tmps.getD t undef)) (x : Operand) : Rep w X G (evalA env x) (a.eval x) := by
  cases x with
  | tmp t => exact h t
  | const v =>
    cases v <;> first
      | exact .d _ _ (.sc _ rfl)
      | exact .any _
      | skip
    rename_i vs
    show Rep w X G (if vs.all (fun v => v.oneCell') then .agg (vs.toList.map fun v => .d (.sc v)) else .any) (.agg vs)
    split
    · rename_i hv
      rw [Array.all_eq_true] at hv
      refine .agg _ _ (by simp) (fun i c v hc hi => ?_) (fun i v hi => ?_)
      · have hlt : i < vs.size := (Array.getElem?_eq_some_iff.1 hi).1
        have h1 := hv i hlt
        simp only [List.getElem?_map, Array.getElem?_toList, hi, Option.map_some, Option.some.injEq] at hc
        subst hc
        obtain ⟨_, e⟩ := Array.getElem?_eq_some_iff.1 hi
        exact .d _ _ (.sc _ (e ▸ h1))
      · obtain ⟨hlt, e⟩ := Array.getElem?_eq_some_iff.1 hi
        exact e ▸ hv i hlt
    · exact .any _
  | global g => exact .any _
  | func f => exact .fn f [] #[] rfl (fun i c v hc _ => by simp at hc)

/-! ### smaller states -/
theorem Own.sub {h h' : Hp} {G : Ctx} (hs : ∀ id o, hget h' id = some o → hget h id = some o) {b : Nat} (ho : Own h' G b) : Own h G b :=
  let ⟨id, o, h1, h2⟩ := ho
  ⟨id, o, hs id o h1, h2⟩
theorem ObjRep.mono {w : World} {X X' : Nat → Prop} {G : Ctx} {id : Nat} {o : AObj} (h : ObjRep w X G id o) (hX : ∀ b, b < w.heap.size → X' b → X b) : ObjRep w X' G id o := by
  have hr : ∀ {x : AV} {v : Value}, Rep w X G x v → Rep w X' G x v := fun h => h.ext (Ext.refl (fun _ => False) w) (fun _ _ h => h.elim) hX (GStep.refl G)
  have hd : ∀ {x : D} {v : Value}, RepD w X x v → RepD w X' x v := fun h => h.ext (Ext.refl (fun _ => False) w) (fun _ _ h => h.elim) hX
  cases o with
  | cells cs =>
    obtain ⟨b, arr, ty, h1, h2, h3, h4⟩ := h
    exact ⟨b, arr, ty, h1, h2, h3, fun i c v hc hv => ⟨hr (h4 i c v hc hv).1, (h4 i c v hc hv).2⟩⟩
  | tcl ty cs =>
    obtain ⟨b, arr, h1, h2, h3, h4, h5⟩ := h
    exact ⟨b, arr, h1, h2, h3, fun i c v hc hv => ⟨hr (h4 i c v hc hv).1, (h4 i c v hc hv).2⟩, h5⟩
  | arr ety sz es =>
    obtain ⟨h1, h2, h3, xs, h4, h5⟩ := h
    exact ⟨h1, h2, h3, xs, h4, fun i e hi j x hj => let ⟨v, e1, e2⟩ := h5 i e hi j x hj; ⟨v, e1, hd e2⟩⟩
  | map kt et es it =>
    obtain ⟨b, ents, clock, h1, h2, h3, h4, h5⟩ := h
    exact ⟨b, ents, clock, h1, h2, h3, fun i k c e hi hj => ⟨(h4 i k c e hi hj).1, hr (h4 i k c e hi hj).2.1, (h4 i k c e hi hj).2.2⟩, h5⟩
  | raw b o => exact h
  | nx kt et ety sz rs dt it =>
    obtain ⟨b, ents, clock, h1, h2, h3, h4, h5⟩ := h
    refine ⟨b, ents, clock, h1, h2, h3, fun i k r e hi hj => ⟨(h4 i k r e hi hj).1, fun ho => ?_, fun j n hd' => hr ((h4 i k r e hi hj).2.2 j n hd')⟩, h5⟩
    obtain ⟨e1, e2, g1, g2, g3, xs, g4, g5⟩ := (h4 i k r e hi hj).2.1 ho
    exact ⟨e1, e2, g1, g2, g3, xs, g4, fun i e hi j x hj => let ⟨v, e1, e2⟩ := g5 i e hi j x hj; ⟨v, e1, hd e2⟩⟩
  | mapP kt et es0 =>
    obtain ⟨es, hp, b, ents, clock, h1, h2, h3, h4, h5⟩ := h
    exact ⟨es, hp, b, ents, clock, h1, h2, h3, fun i k c e hi hj => ⟨(h4 i k c e hi hj).1, hr (h4 i k c e hi hj).2.1, (h4 i k c e hi hj).2.2⟩, h5⟩
  | mapF kt et es =>
    obtain ⟨b, ents, h1, h2, h3, h4, h5⟩ := h
    exact ⟨b, ents, h1, h2, h3, fun i k c e hi hj => ⟨(h4 i k c e hi hj).1, hr (h4 i k c e hi hj).2.1, (h4 i k c e hi hj).2.2⟩, h5⟩
  | mapS kt et es st ck it =>
    obtain ⟨b, ents, h1, h2, h3, h4, h5⟩ := h
    exact ⟨b, ents, h1, h2, h3, fun i k c e hi hj => ⟨(h4 i k c e hi hj).1, hr (h4 i k c e hi hj).2.1, (h4 i k c e hi hj).2.2⟩, h5⟩

theorem Rel.weak {O : Org} {env env' : Env} {h h' : Hp} {a : Act} {w : World} {G : Ctx} (r : Rel O env h a w G) (he : ∀ t, lk env' t = lk env t ∨ lk env' t = .any)
    (hs : ∀ id o, hget h' id = some o → hget h id = some o) : Rel O env' h' a w G := by
  have hX : ∀ b, b < w.heap.size → XX O h' G b → XX O h G b := fun b _ hb => hb.imp id (fun ho => ho.sub hs)
  refine ⟨r.size, r.dfr, fun t => ?_, fun id o ho => (r.obj id o (hs id o ho)).mono hX, fun id o j id' o' j' b h1 h2 h3 h4 => r.dist id o j id' o' j' b (hs _ _ h1) h2 (hs _ _ h3) h4, r.ext, fun b hb => r.own b (hb.sub hs), r.xlt, r.ids⟩
  rcases he t with e | e
  · rw [e]; exact (r.env t).ext (Ext.refl (fun _ => False) w) (fun _ _ h => h.elim) hX (GStep.refl G)
  · rw [e]; exact .any _

/-! ### the rules on code -/
section
variable {P : Program} {O : Org} {Q : Exit → Env → Hp → Prop} {env : Env} {h : Hp}

theorem AW.mono {c : Code} {Q' : Exit → Env → Hp → Prop} (H : AW P O c Q env h) (hq : ∀ e env h, Q e env h → Q' e env h) : AW P O c Q' env h :=
  fun a w G r => Code.wp_mono (fun _ _ _ ⟨env, h, G, r, q⟩ => ⟨env, h, G, r, hq _ _ _ q⟩) (H a w G r)
def thenQ (K : Env → Hp → Prop) (Q : Exit → Env → Hp → Prop) : Exit → Env → Hp → Prop
  | .normal, env, h => K env h
  | e, env, h => Q e env h
theorem AW_seq {x y : Code} (H : AW P O x (thenQ (AW P O y Q) Q) env h) : AW P O (.seq x y) Q env h := by
  intro a w G r
  refine wp_seq (Code.wp_mono (fun e a w => ?_) (H a w G r))
  rintro ⟨env, h, G, r, q⟩
  cases e with
  | normal => exact q a w G r
  | _ => exact ⟨env, h, G, r, q⟩
theorem AW_skip (H : Q .normal env h) : AW P O .skip Q env h := fun _ _ _ r => wp_skip ⟨env, h, _, r, H⟩
theorem AW_ret (H : Q .ret env h) : AW P O .ret Q env h := fun _ _ _ r => wp_ret ⟨env, h, _, r, H⟩
theorem AW_exit {id : Nat} (H : Q (.exit id) env h) : AW P O (.exit id) Q env h := fun _ _ _ r => wp_exit ⟨env, h, _, r, H⟩

def blockQ (id : Nat) (Q : Exit → Env → Hp → Prop) : Exit → Env → Hp → Prop
  | .exit id', env, h => bif Nat.beq id' id then Q .normal env h else Q (.exit id') env h
  | e, env, h => Q e env h
theorem AW_block {id : Nat} {c : Code} (H : AW P O c (blockQ id Q) env h) : AW P O (.block id c) Q env h := by
  intro a w G r
  refine wp_block (Code.wp_mono (fun e a w => ?_) (H a w G r))
  rintro ⟨env, h, G, r, q⟩
  cases e with
  | exit id' =>
    show (if id' = id then _ else _)
    by_cases hid : id' = id
    · subst hid
      rw [if_pos rfl]
      have q' : (bif Nat.beq id' id' then Q .normal env h else Q (.exit id') env h) := q
      simp at q'
      exact ⟨env, h, G, r, q'⟩
    · rw [if_neg hid]
      have q' : (bif Nat.beq id' id then Q .normal env h else Q (.exit id') env h) := q
      have : Nat.beq id' id = false := by
        cases hb : Nat.beq id' id
        · rfl
        · exact absurd (Nat.eq_of_beq_eq_true hb) hid
      rw [this] at q'
      exact ⟨env, h, G, r, q'⟩
  | _ => exact ⟨env, h, G, r, q⟩

theorem RepD.sc_inv {w : World} {X : Nat → Prop} {u v : Value} (h : RepD w X (.sc u) v) : v = u := by cases h; rfl
theorem Rep.sc_inv {w : World} {X : Nat → Prop} {G : Ctx} {u v : Value} (h : Rep w X G (.d (.sc u)) v) : v = u := by cases h with | d _ _ h => exact h.sc_inv

theorem AW_cond {c : Operand} {x y : Code} {b : Bool} (hc : evalA env c = .d (.sc (.bool b))) (H1 : b = true → AW P O x Q env h) (H2 : b = false → AW P O y Q env h) : AW P O (.cond c x y) Q env h := by
  intro a w G r
  have hv := evalA_rep r.env c
  rw [hc] at hv
  exact wp_cond_split hv.sc_inv (fun e => H1 e a w G r) (fun e => H2 e a w G r)

theorem least_exists {p : Nat → Prop} : (∃ m, p m) → ∃ m, p m ∧ ∀ k, p k → m ≤ k := by
  rintro ⟨m, hm⟩
  induction m using Nat.strongRecOn with
  | _ m ih =>
    by_cases hk : ∃ k, k < m ∧ p k
    · obtain ⟨k, hk1, hk2⟩ := hk
      exact ih k hk1 hk2
    · refine ⟨m, hm, fun k hp => ?_⟩
      rcases Nat.lt_or_ge k m with h | h
      · exact absurd ⟨k, h, hp⟩ hk
      · exact h
open Classical in
noncomputable def leastOf (p : Nat → Prop) : Nat := if h : ∃ m, p m then Classical.choose (least_exists h) else 0
theorem leastOf_spec {p : Nat → Prop} (h : ∃ m, p m) : p (leastOf p) ∧ ∀ k, p k → leastOf p ≤ k := by
  unfold leastOf
  rw [dif_pos h]
  exact Classical.choose_spec (least_exists h)
def LoopAt {S : Type} (O : Org) (I : S → Prop) (E : S → Env) (Hh : S → Hp) (μ : S → Nat) (a : Act) (w : World) (m : Nat) : Prop :=
  ∃ s G, I s ∧ Rel O (E s) (Hh s) a w G ∧ μ s = m

/-- A loop: the states at its head by a parameter. -/
theorem AW_loop {c : Code} {S : Type} (I : S → Prop) (E : S → Env) (Hh : S → Hp) (μ : S → Nat) (s0 : S) (h0 : I s0)
    (he : ∀ t, lk (E s0) t = lk env t ∨ lk (E s0) t = .any) (hs : ∀ id o, hget (Hh s0) id = some o → hget h id = some o)
    (round : ∀ s, I s → AW P O c (thenQ (fun env' h' => ∃ s', I s' ∧ μ s' < μ s ∧ (∀ t, lk (E s') t = lk env' t ∨ lk (E s') t = .any) ∧ (∀ id o, hget (Hh s') id = some o → hget h' id = some o)) Q) (E s) (Hh s)) :
    AW P O (.loop c) Q env h := by
  intro a w G r
  have wit := r.weak he hs
  refine wp_loop (fun a w => ∃ m, LoopAt O I E Hh μ a w m) (fun a w => leastOf (LoopAt O I E Hh μ a w)) ⟨μ s0, s0, G, h0, wit, rfl⟩ (fun a w hI => ?_)
  obtain ⟨⟨s, G, hs1, hr1, hm⟩, hle⟩ := leastOf_spec hI
  refine Code.wp_mono (fun e a' w' => ?_) (round s hs1 a w G hr1)
  rintro ⟨env', h', G', r', q⟩
  cases e with
  | normal =>
    obtain ⟨s', i1, i2, i3, i4⟩ := q
    have hJ : LoopAt O I E Hh μ a' w' (μ s') := ⟨s', G', i1, r'.weak i3 i4, rfl⟩
    refine ⟨⟨_, hJ⟩, ?_⟩
    have := (leastOf_spec ⟨_, hJ⟩).2 _ hJ
    omega
  | _ => exact ⟨env', h', G', r', q⟩
end
end Go.SL
