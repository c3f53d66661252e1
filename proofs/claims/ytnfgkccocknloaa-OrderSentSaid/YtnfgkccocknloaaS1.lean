/- The layer 'SL': immutable data by value, owned objects by name. Definitions and how they keep. -/
import Derived.WalkKit
import Derived.WalkLawsBesides
import Derived.Maps.AppendAt
import Derived.Deep.Quiet
namespace Go.SL
open Go.RowKit

/-- Data: what is never written again. -/
inductive D where
  | sc (v : Value)
  | sl (sz : Nat) (es : List (List D))

/-- What a slot holds. -/
inductive AV where
  | any
  | d (x : D)
  | agg (cs : List AV)
  | tup (cs : List AV)
  | ptr (id off : Nat)
  | ro (cs : List D)
  | roa (cs : List AV)
  | sla (sz : Nat) (es : List (List AV))
  | own (id n : Nat)
  | eptr (id n sz k off : Nat)
  | mp (id : Nat)
  | it (id : Nat)
  | fn (f : FuncId) (caps : List AV)

/-- An owned object. -/
inductive AObj where
  | cells (cs : List AV)
  | arr (ety sz : Nat) (es : List (List D))
  | map (kt et : Nat) (es : List (Value × AV)) (it : Option (Nat × List Value × Option Value))

abbrev Env := List (Nat × AV)
abbrev Hp := List (Nat × Option AObj)

def lk : Env → Nat → AV
  | [], _ => .any
  | (t, v) :: r, s => bif Nat.beq t s then v else lk r s
def hget : Hp → Nat → Option AObj
  | [], _ => none
  | (t, v) :: r, s => bif Nat.beq t s then v else hget r s

theorem lk_cons (t : Nat) (v : AV) (r : Env) (s : Nat) : lk ((t, v) :: r) s = if t = s then v else lk r s := by
  show (bif Nat.beq t s then v else lk r s) = _
  by_cases h : t = s
  · subst h; simp
  · have : Nat.beq t s = false := by
      cases hb : Nat.beq t s
      · rfl
      · exact absurd (Nat.eq_of_beq_eq_true hb) h
    rw [this, if_neg h]; rfl
theorem hget_cons (t : Nat) (v : Option AObj) (r : Hp) (s : Nat) : hget ((t, v) :: r) s = if t = s then v else hget r s := by
  show (bif Nat.beq t s then v else hget r s) = _
  by_cases h : t = s
  · subst h; simp
  · have : Nat.beq t s = false := by
      cases hb : Nat.beq t s
      · rfl
      · exact absurd (Nat.eq_of_beq_eq_true hb) h
    rw [this, if_neg h]; rfl

structure Ctx where
  m : Nat → Value
  len : Nat → Nat
def Ctx.set (G : Ctx) (id : Nat) (v : Value) (n : Nat) : Ctx := ⟨fun i => if i = id then v else G.m i, fun i => if i = id then n else G.len i⟩

inductive RepD (w : World) (X : Nat → Prop) : D → Value → Prop
  | sc (v : Value) (h1 : v.oneCell' = true) : RepD w X (.sc v) v
  | sl (sz : Nat) (es : List (List D)) (A : Option Addr) (n c b off : Nat) (vs : Nat → Nat → Value) (hn : es.length = n) (hcap : n ≤ c)
      (hA : 0 < n → A = some ⟨b, off, none⟩ ∧ b < w.heap.size ∧ ¬ X b) (hsz : ∀ (i : Nat) (e : List _), es[i]? = some e → e.length = sz)
      (hcell : ∀ (i : Nat) (e : List D), es[i]? = some e → ∀ (j : Nat) (x : D), e[j]? = some x → w.cell? ⟨b, off + (i * sz + j), none⟩ = some (vs i j))
      (hrep : ∀ (i : Nat) (e : List D), es[i]? = some e → ∀ (j : Nat) (x : D), e[j]? = some x → RepD w X x (vs i j)) : RepD w X (.sl sz es) (.slice A n c)

inductive Rep (w : World) (X : Nat → Prop) (G : Ctx) : AV → Value → Prop
  | any (v : Value) : Rep w X G .any v
  | d (x : D) (v : Value) (h : RepD w X x v) : Rep w X G (.d x) v
  | agg (cs : List AV) (vs : Array Value) (hs : vs.size = cs.length) (hc : ∀ (i : Nat) (c : AV) (v : Value), cs[i]? = some c → vs[i]? = some v → Rep w X G c v)
      (h1 : ∀ (i : Nat) (v : Value), vs[i]? = some v → v.oneCell' = true) : Rep w X G (.agg cs) (.agg vs)
  | tup (cs : List AV) (vs : Array Value) (hs : vs.size = cs.length) (hc : ∀ (i : Nat) (c : AV) (v : Value), cs[i]? = some c → vs[i]? = some v → Rep w X G c v) : Rep w X G (.tup cs) (.tuple vs)
  | ptr (id off b : Nat) (h : G.m id = .pointer (some ⟨b, 0, none⟩)) : Rep w X G (.ptr id off) (.pointer (some ⟨b, off, none⟩))
  | ro (cs : List D) (b off : Nat) (vs : Nat → Value) (hb : b < w.heap.size) (hX : ¬ X b)
      (hcell : ∀ (j : Nat) (x : D), cs[j]? = some x → w.cell? ⟨b, off + j, none⟩ = some (vs j)) (hrep : ∀ (j : Nat) (x : D), cs[j]? = some x → RepD w X x (vs j)) : Rep w X G (.ro cs) (.pointer (some ⟨b, off, none⟩))
  | roa (cs : List AV) (b off : Nat) (vs : Nat → Value) (hb : b < w.heap.size) (hX : ¬ X b)
      (hcell : ∀ (j : Nat) (x : AV), cs[j]? = some x → w.cell? ⟨b, off + j, none⟩ = some (vs j)) (hrep : ∀ (j : Nat) (x : AV), cs[j]? = some x → Rep w X G x (vs j))
      (h1 : ∀ (j : Nat) (x : AV), cs[j]? = some x → (vs j).oneCell' = true) : Rep w X G (.roa cs) (.pointer (some ⟨b, off, none⟩))
  | sla (sz : Nat) (es : List (List AV)) (A : Option Addr) (n c b off : Nat) (vs : Nat → Nat → Value) (hn : es.length = n) (hcap : n ≤ c)
      (hA : 0 < n → A = some ⟨b, off, none⟩ ∧ b < w.heap.size ∧ ¬ X b) (hsz : ∀ (i : Nat) (e : List _), es[i]? = some e → e.length = sz)
      (hcell : ∀ (i : Nat) (e : List AV), es[i]? = some e → ∀ (j : Nat) (x : AV), e[j]? = some x → w.cell? ⟨b, off + (i * sz + j), none⟩ = some (vs i j))
      (hrep : ∀ (i : Nat) (e : List AV), es[i]? = some e → ∀ (j : Nat) (x : AV), e[j]? = some x → Rep w X G x (vs i j))
      (h1 : ∀ (i : Nat) (e : List AV), es[i]? = some e → ∀ (j : Nat) (x : AV), e[j]? = some x → (vs i j).oneCell' = true) : Rep w X G (.sla sz es) (.slice A n c)
  | own (id n : Nat) (v : Value) (h1 : v.oneCell' = true) (hn : n ≤ G.len id) (hm : ∃ A l c, G.m id = .slice A l c) (hv : G.len id = n → v = G.m id) : Rep w X G (.own id n) v
  | eptr (id n sz k off : Nat) (v : Value) (h1 : v.oneCell' = true) (hn : n ≤ G.len id) (hm : ∃ A l c, G.m id = .slice A l c)
      (hv : G.len id = n → ∃ b c, G.m id = .slice (some ⟨b, 0, none⟩) n c ∧ v = .pointer (some ⟨b, k * sz + off, none⟩)) : Rep w X G (.eptr id n sz k off) v
  | mp (id b : Nat) (h : G.m id = .map (some b)) : Rep w X G (.mp id) (.map (some b))
  | it (id b : Nat) (h : G.m id = .pointer (some ⟨b, 0, none⟩)) : Rep w X G (.it id) (.pointer (some ⟨b, 0, none⟩))
  | fn (f : FuncId) (caps : List AV) (vs : Array Value) (hs : vs.size = caps.length) (hc : ∀ (i : Nat) (c : AV) (v : Value), caps[i]? = some c → vs[i]? = some v → Rep w X G c v) :
      Rep w X G (.fn f caps) (.func (.func f) #[] vs)

/-- No run takes a draw back. -/
theorem ask_drawn {α : Type} : ∀ (x : Ask α) (w : World), w.drawn ≤ (w.ask x).2.drawn := by
  intro x
  induction x with
  | done a => intro w; exact Nat.le_refl _
  | ask what range k ih =>
    intro w
    unfold World.ask
    dsimp only
    split
    · exact ih _ _
    · exact Nat.le_trans (Nat.le_succ _) (ih _ { w with drawn := w.drawn + 1 })
theorem sys_drawn (w : World) (c : Sys) : w.drawn ≤ (w.sys c).2.drawn := by
  have h := ask_drawn (Kernel.perform c w.os) w
  unfold World.sys
  split
  · exact Nat.le_refl _
  · rename_i e
    rw [e] at h
    exact h
theorem viewStore_drawn {P : Program} {w w' : World} {a k : Addr} {u : TypeId} {v : Value} {b : Bool} {l : List Addr} (h : w.viewStore P a u k v b = .ok (w', l)) : w'.drawn = w.drawn := by
  unfold World.viewStore at h
  simp only [bind, Except.bind, pure, Except.pure] at h
  repeat' split at h
  all_goals first
    | (cases h; done)
    | (cases h; rfl)
theorem store_drawn {P : Program} {α : Type} {k : Sem α} (ih : ∀ (w : World) (a : α) (w' : World), k.run P w = .ok a w' → w.drawn ≤ w'.drawn) {w w' : World} {a : Addr} {v : Value} {b : Bool} {x : α}
    (h : (match w.cell? a with
      | some _ => if w.frozen? a then Result.halt (.unsupported (.unsafePointer "a write to bytes that a string shares")) w else k.run P (w.setCell a v)
      | none => match w.farStore P a v b with
        | .ok (w, _) => k.run P w
        | .error h => .halt h w) = .ok x w') : w.drawn ≤ w'.drawn := by
  split at h
  · split at h
    · cases h
    · have t := ih _ _ _ h
      exact t
  · split at h
    · rename_i w1 l hw
      have h1 := ih _ _ _ h
      have : w1.drawn = w.drawn := by
        unfold World.farStore at hw
        split at hw
        · split at hw
          · rename_i hv
            cases hw
            exact viewStore_drawn hv
          · cases hw
        · cases hw
      omega
    · cases h
theorem run_drawn {P : Program} {α : Type} : ∀ (s : Sem α) (w : World) (a : α) (w' : World), s.run P w = .ok a w' → w.drawn ≤ w'.drawn := by
  intro s
  induction s with
  | pure a => intro w x w' h; cases h; exact Nat.le_refl _
  | load m a k ih =>
    intro w x w' h
    unfold Sem.run at h
    split at h
    · exact ih _ _ _ _ h
    · split at h
      · exact ih _ _ _ _ h
      · cases h
  | store m a v k ih =>
    intro w x w' h
    cases v <;> first
      | (cases h; done)
      | exact store_drawn ih h
  | new o k ih =>
    intro w x w' h
    have t := ih w.heap.size { w with heap := w.heap.push o } _ _ h
    exact t
  | shape r k ih => intro w x w' h; exact ih _ _ _ _ h
  | freeze a n k ih =>
    intro w x w' h
    have := ih _ _ _ h
    have e : (w.freeze a n).drawn = w.drawn := by unfold World.freeze; split <;> rfl
    omega
  | frozen a k ih => intro w x w' h; exact ih _ _ _ _ h
  | getObj r k ih =>
    intro w x w' h
    unfold Sem.run at h
    split at h
    · cases h
    · exact ih _ _ _ _ h
    · cases h
  | setObj r o k ih =>
    intro w x w' h
    unfold Sem.run at h
    split at h
    · cases h
    · have t := ih _ _ _ h
      exact t
    · cases h
  | choose q k ih =>
    intro w x w' h
    unfold Sem.run at h
    split at h
    · exact ih _ _ _ _ h
    · exact Nat.le_trans (Nat.le_succ _) (ih _ { w with drawn := w.drawn + 1 } _ _ h)
  | sys c k ih =>
    intro w x w' h
    exact Nat.le_trans (sys_drawn w c) (ih _ _ _ _ h)
  | program k ih => intro w x w' h; exact ih _ _ _ _ h
  | mark m k ih => intro w x w' h; exact ih _ _ _ h
  | halt h => intro w x w' h; cases h

/-- From w to w' nothing has turned but the blocks of C; blocks may be new. -/
structure Ext (C : Nat → Prop) (w w' : World) : Prop where
  os : w'.os = w.os
  tape : w'.tape = w.tape
  output : w'.output = w.output
  size : w.heap.size ≤ w'.heap.size
  block : ∀ b, b < w.heap.size → ¬ C b → w'.heap[b]? = w.heap[b]?
  drawn : w.drawn ≤ w'.drawn

theorem Ext.refl (C : Nat → Prop) (w : World) : Ext C w w := ⟨rfl, rfl, rfl, Nat.le_refl _, fun _ _ _ => rfl, Nat.le_refl _⟩
theorem Ext.trans {C : Nat → Prop} {a b c : World} (h : Ext C a b) (k : Ext C b c) : Ext C a c :=
  ⟨k.os.trans h.os, k.tape.trans h.tape, k.output.trans h.output, Nat.le_trans h.size k.size,
    fun i hi hn => (k.block i (Nat.lt_of_lt_of_le hi h.size) hn).trans (h.block i hi hn), Nat.le_trans h.drawn k.drawn⟩
/-- what turns among blocks that are new to 'a' is nothing to 'a'. -/
theorem Ext.transNew {C C' : Nat → Prop} {a b c : World} (h : Ext C a b) (k : Ext C' b c) (hc : ∀ i, i < a.heap.size → C' i → C i) : Ext C a c :=
  ⟨k.os.trans h.os, k.tape.trans h.tape, k.output.trans h.output, Nat.le_trans h.size k.size,
    fun i hi hn => (k.block i (Nat.lt_of_lt_of_le hi h.size) (fun hx => hn (hc i hi hx))).trans (h.block i hi hn), Nat.le_trans h.drawn k.drawn⟩
theorem Ext.mono {C C' : Nat → Prop} {a b : World} (h : Ext C a b) (hc : ∀ i, i < a.heap.size → C i → C' i) : Ext C' a b :=
  ⟨h.os, h.tape, h.output, h.size, fun i hi hn => h.block i hi (fun hx => hn (hc i hi hx)), h.drawn⟩
theorem Ext.drew {C : Nat → Prop} {a b : World} (h : Ext C a b) : Ext C a b.drew := ⟨h.os, h.tape, h.output, h.size, h.block, Nat.le_succ_of_le h.drawn⟩
theorem Ext.alloc (C : Nat → Prop) (w : World) (o : Obj) : Ext C w (w.alloc o) :=
  ⟨rfl, rfl, rfl, by simp, fun k hk _ => Below.heap_alloc w o k hk, Nat.le_refl _⟩
theorem Ext.toBelow {w w' : World} {C : Nat → Prop} (h : Ext C w w') (hC : ∀ b, b < w.heap.size → ¬ C b) : Below w.heap.size w w' :=
  ⟨h.os, h.tape, h.output, h.size, fun i hi => h.block i hi (hC i hi)⟩
theorem Ext.grown {w w' : World} {row : Option Nat} (h : w.grownBy w' row) (hd : w.drawn ≤ w'.drawn) : Ext (fun b => row = some b) w w' :=
  ⟨h.os, h.tape, h.output, h.size, fun i hi hn => h.block i hi (fun e => hn e.symm), hd⟩
theorem Ext.cell {C : Nat → Prop} {w w' : World} (h : Ext C w w') {a : Addr} {v : Value} (hc : w.cell? a = some v) (hn : ¬ C a.block) : w'.cell? a = some v :=
  (World.cell?_of_block (h.block a.block (World.block_lt_of_cell? w a hc) hn)).trans hc
theorem Ext.setCell (w : World) (a : Addr) (v : Value) : Ext (fun b => b = a.block) w (w.setCell a v) :=
  ⟨rfl, rfl, rfl, by simp [World.setCell], fun k _ hn => Below.heap_setCell w a v k hn, Nat.le_refl _⟩

theorem RepD.ext {w w' : World} {X X' C : Nat → Prop} {x : D} {v : Value} (h : RepD w X x v) (he : Ext C w w') (hC : ∀ b, b < w.heap.size → C b → X b)
    (hX : ∀ b, b < w.heap.size → X' b → X b) : RepD w' X' x v := by
  induction h with
  | sc v h1 => exact .sc v h1
  | sl sz es A n c b off vs hn hcap hA hsz hcell hrep ih =>
    refine .sl sz es A n c b off vs hn hcap (fun h0 => ?_) hsz (fun i e hi j x hj => ?_) ih
    · obtain ⟨e1, e2, e3⟩ := hA h0
      exact ⟨e1, Nat.lt_of_lt_of_le e2 he.size, fun hx => e3 (hX b e2 hx)⟩
    · have h0 : 0 < n := by
        rw [← hn]
        rcases Nat.eq_zero_or_pos es.length with h | h
        · rw [List.eq_nil_of_length_eq_zero h] at hi; simp at hi
        · exact h
      obtain ⟨_, e2, e3⟩ := hA h0
      exact he.cell (hcell i e hi j x hj) (fun hc => e3 (hC b e2 hc))

/-- The context turns: nothing, or an owned array has grown. -/
def GStep (G G' : Ctx) : Prop := ∀ id, (G'.m id = G.m id ∧ G'.len id = G.len id) ∨ (∃ A n c, G.m id = .slice A n c ∧ (∃ A' n' c', G'.m id = .slice A' n' c') ∧ G.len id < G'.len id)
theorem GStep.refl (G : Ctx) : GStep G G := fun _ => .inl ⟨rfl, rfl⟩

theorem Rep.ext {w w' : World} {X X' C : Nat → Prop} {G G' : Ctx} {x : AV} {v : Value} (h : Rep w X G x v) (he : Ext C w w') (hC : ∀ b, b < w.heap.size → C b → X b)
    (hX : ∀ b, b < w.heap.size → X' b → X b) (hG : GStep G G') : Rep w' X' G' x v := by
  induction h with
  | any v => exact .any v
  | d x v h => exact .d x v (h.ext he hC hX)
  | agg cs vs hs _ h1 ih => exact .agg cs vs hs ih h1
  | tup cs vs hs _ ih => exact .tup cs vs hs ih
  | ptr id off b h =>
    rcases hG id with ⟨e, _⟩ | ⟨A, n, c, e, _⟩
    · exact .ptr id off b (e.trans h)
    · rw [e] at h; cases h
  | ro cs b off vs hb hn hcell hrep =>
    exact .ro cs b off vs (Nat.lt_of_lt_of_le hb he.size) (fun hx => hn (hX b hb hx)) (fun j x hj => he.cell (hcell j x hj) (fun hc => hn (hC b hb hc))) (fun j x hj => (hrep j x hj).ext he hC hX)
  | roa cs b off vs hb hn hcell hrep h1 ih =>
    exact .roa cs b off vs (Nat.lt_of_lt_of_le hb he.size) (fun hx => hn (hX b hb hx)) (fun j x hj => he.cell (hcell j x hj) (fun hc => hn (hC b hb hc))) ih h1
  | sla sz es A n c b off vs hn hcap hA hsz hcell hrep h1 ih =>
    refine .sla sz es A n c b off vs hn hcap (fun h0 => ?_) hsz (fun i e hi j x hj => ?_) ih h1
    · obtain ⟨e1, e2, e3⟩ := hA h0
      exact ⟨e1, Nat.lt_of_lt_of_le e2 he.size, fun hx => e3 (hX b e2 hx)⟩
    · have h0 : 0 < n := by
        rw [← hn]
        rcases Nat.eq_zero_or_pos es.length with h | h
        · rw [List.eq_nil_of_length_eq_zero h] at hi; simp at hi
        · exact h
      obtain ⟨_, e2, e3⟩ := hA h0
      exact he.cell (hcell i e hi j x hj) (fun hc => e3 (hC b e2 hc))
  | own id n v h1 hn hm hv =>
    rcases hG id with ⟨e, e'⟩ | ⟨A, l, c, e, h2, hlt⟩
    · exact .own id n v h1 (by rw [e']; exact hn) (by rw [e]; exact hm) (fun h => by rw [e]; exact hv (e' ▸ h))
    · exact .own id n v h1 (by omega) h2 (fun h => by omega)
  | eptr id n sz k off v h1 hn hm hv =>
    rcases hG id with ⟨e, e'⟩ | ⟨A, l, c, e, h2, hlt⟩
    · exact .eptr id n sz k off v h1 (by rw [e']; exact hn) (by rw [e]; exact hm) (fun h => by rw [e]; exact hv (e' ▸ h))
    · exact .eptr id n sz k off v h1 (by omega) h2 (fun h => by omega)
  | mp id b h =>
    rcases hG id with ⟨e, _⟩ | ⟨A, n, c, e, _⟩
    · exact .mp id b (e.trans h)
    · rw [e] at h; cases h
  | it id b h =>
    rcases hG id with ⟨e, _⟩ | ⟨A, n, c, e, _⟩
    · exact .it id b (e.trans h)
    · rw [e] at h; cases h
  | fn f caps vs hs _ ih => exact .fn f caps vs hs ih

/-- Does the name 'id' not occur? -/
def fresh (id : Nat) : AV → Bool
  | .any | .d _ | .ro _ => true
  | .agg cs | .tup cs | .roa cs | .fn _ cs => freshL id cs
  | .sla _ es => freshLL id es
  | .ptr j _ | .own j _ | .eptr j _ _ _ _ | .mp j | .it j => !(Nat.beq id j)
where
  freshL (id : Nat) : List AV → Bool
    | [] => true
    | c :: r => fresh id c && freshL id r
  freshLL (id : Nat) : List (List AV) → Bool
    | [] => true
    | c :: r => freshL id c && freshLL id r

theorem freshL_mem {id : Nat} : ∀ {cs : List AV}, fresh.freshL id cs = true → ∀ {i : Nat} {c : AV}, cs[i]? = some c → fresh id c = true
  | [], _, _, _, h => by simp at h
  | c :: r, h, 0, c', h' => by
    unfold fresh.freshL at h
    simp only [Bool.and_eq_true] at h
    have : c = c' := by simpa using h'
    exact this ▸ h.1
  | c :: r, h, i + 1, c', h' => by
    unfold fresh.freshL at h
    simp only [Bool.and_eq_true] at h
    exact freshL_mem h.2 (by simpa using h')
theorem freshLL_mem {id : Nat} : ∀ {es : List (List AV)}, fresh.freshLL id es = true → ∀ {i : Nat} {e : List AV}, es[i]? = some e → fresh.freshL id e = true
  | [], _, _, _, h => by simp at h
  | c :: r, h, 0, c', h' => by
    unfold fresh.freshLL at h
    simp only [Bool.and_eq_true] at h
    have : c = c' := by simpa using h'
    exact this ▸ h.1
  | c :: r, h, i + 1, c', h' => by
    unfold fresh.freshLL at h
    simp only [Bool.and_eq_true] at h
    exact freshLL_mem h.2 (by simpa using h')
theorem beq_ne {id j : Nat} (h : (!(Nat.beq id j)) = true) : j ≠ id := by
  intro e; subst e; simp at h
theorem Ctx.set_m_ne (G : Ctx) {id j : Nat} (v : Value) (n : Nat) (h : j ≠ id) : (G.set id v n).m j = G.m j := by simp [Ctx.set, h]
theorem Ctx.set_len_ne (G : Ctx) {id j : Nat} (v : Value) (n : Nat) (h : j ≠ id) : (G.set id v n).len j = G.len j := by simp [Ctx.set, h]
theorem Ctx.set_m (G : Ctx) (id : Nat) (v : Value) (n : Nat) : (G.set id v n).m id = v := by simp [Ctx.set]
theorem Ctx.set_len (G : Ctx) (id : Nat) (v : Value) (n : Nat) : (G.set id v n).len id = n := by simp [Ctx.set]

theorem Rep.setFresh {w : World} {X : Nat → Prop} {G : Ctx} {x : AV} {v : Value} {id : Nat} (mv : Value) (n : Nat) (h : Rep w X G x v) : fresh id x = true → Rep w X (G.set id mv n) x v := by
  induction h with
  | any v => exact fun _ => .any v
  | d x v h => exact fun _ => .d x v h
  | agg cs vs hs _ h1 ih => exact fun hf => .agg cs vs hs (fun i c v hc hv => ih i c v hc hv (freshL_mem (by unfold fresh at hf; exact hf) hc)) h1
  | tup cs vs hs _ ih => exact fun hf => .tup cs vs hs (fun i c v hc hv => ih i c v hc hv (freshL_mem (by unfold fresh at hf; exact hf) hc))
  | ptr j off b h => intro hf; unfold fresh at hf; exact .ptr j off b ((G.set_m_ne _ _ (beq_ne hf)).trans h)
  | ro cs b off vs hb hn hcell hrep => exact fun _ => .ro cs b off vs hb hn hcell hrep
  | roa cs b off vs hb hn hcell hrep h1 ih => exact fun hf => .roa cs b off vs hb hn hcell (fun j x hj => ih j x hj (freshL_mem (by unfold fresh at hf; exact hf) hj)) h1
  | sla sz es A n c b off vs hn hcap hA hsz hcell hrep h1 ih =>
    exact fun hf => .sla sz es A n c b off vs hn hcap hA hsz hcell (fun i e hi j x hj => ih i e hi j x hj (freshL_mem (freshLL_mem (by unfold fresh at hf; exact hf) hi) hj)) h1
  | own j n v h1 hn hm hv =>
    intro hf; unfold fresh at hf
    have hne := beq_ne hf
    exact .own j n v h1 (by rw [G.set_len_ne _ _ hne]; exact hn) (by rw [G.set_m_ne _ _ hne]; exact hm) (by rw [G.set_len_ne _ _ hne, G.set_m_ne _ _ hne]; exact hv)
  | eptr j n sz k off v h1 hn hm hv =>
    intro hf; unfold fresh at hf
    have hne := beq_ne hf
    exact .eptr j n sz k off v h1 (by rw [G.set_len_ne _ _ hne]; exact hn) (by rw [G.set_m_ne _ _ hne]; exact hm) (by rw [G.set_len_ne _ _ hne, G.set_m_ne _ _ hne]; exact hv)
  | mp j b h => intro hf; unfold fresh at hf; exact .mp j b ((G.set_m_ne _ _ (beq_ne hf)).trans h)
  | it j b h => intro hf; unfold fresh at hf; exact .it j b ((G.set_m_ne _ _ (beq_ne hf)).trans h)
  | fn f caps vs hs _ ih => exact fun hf => .fn f caps vs hs (fun i c v hc hv => ih i c v hc hv (freshL_mem (by unfold fresh at hf; exact hf) hc))

/-- no name occurs -/
def noid : AV → Bool
  | .any | .d _ | .ro _ => true
  | .agg cs | .tup cs | .roa cs | .fn _ cs => noidL cs
  | .sla _ es => noidLL es
  | .ptr _ _ | .own _ _ | .eptr _ _ _ _ _ | .mp _ | .it _ => false
where
  noidL : List AV → Bool
    | [] => true
    | c :: r => noid c && noidL r
  noidLL : List (List AV) → Bool
    | [] => true
    | c :: r => noidL c && noidLL r
theorem noidL_mem : ∀ {cs : List AV}, noid.noidL cs = true → ∀ {i : Nat} {c : AV}, cs[i]? = some c → noid c = true
  | [], _, _, _, h => by simp at h
  | c :: r, h, 0, c', h' => by
    unfold noid.noidL at h
    simp only [Bool.and_eq_true] at h
    have : c = c' := by simpa using h'
    exact this ▸ h.1
  | c :: r, h, i + 1, c', h' => by
    unfold noid.noidL at h
    simp only [Bool.and_eq_true] at h
    exact noidL_mem h.2 (by simpa using h')
theorem noidLL_mem : ∀ {es : List (List AV)}, noid.noidLL es = true → ∀ {i : Nat} {e : List AV}, es[i]? = some e → noid.noidL e = true
  | [], _, _, _, h => by simp at h
  | c :: r, h, 0, c', h' => by
    unfold noid.noidLL at h
    simp only [Bool.and_eq_true] at h
    have : c = c' := by simpa using h'
    exact this ▸ h.1
  | c :: r, h, i + 1, c', h' => by
    unfold noid.noidLL at h
    simp only [Bool.and_eq_true] at h
    exact noidLL_mem h.2 (by simpa using h')
theorem Rep.noid {w : World} {X : Nat → Prop} {G : Ctx} {x : AV} {v : Value} (G' : Ctx) (h : Rep w X G x v) : noid x = true → Rep w X G' x v := by
  induction h with
  | any v => exact fun _ => .any v
  | d x v h => exact fun _ => .d x v h
  | agg cs vs hs _ h1 ih => exact fun hf => .agg cs vs hs (fun i c v hc hv => ih i c v hc hv (noidL_mem (by unfold SL.noid at hf; exact hf) hc)) h1
  | tup cs vs hs _ ih => exact fun hf => .tup cs vs hs (fun i c v hc hv => ih i c v hc hv (noidL_mem (by unfold SL.noid at hf; exact hf) hc))
  | ro cs b off vs hb hn hcell hrep => exact fun _ => .ro cs b off vs hb hn hcell hrep
  | roa cs b off vs hb hn hcell hrep h1 ih => exact fun hf => .roa cs b off vs hb hn hcell (fun j x hj => ih j x hj (noidL_mem (by unfold SL.noid at hf; exact hf) hj)) h1
  | sla sz es A n c b off vs hn hcap hA hsz hcell hrep h1 ih =>
    exact fun hf => .sla sz es A n c b off vs hn hcap hA hsz hcell (fun i e hi j x hj => ih i e hi j x hj (noidL_mem (noidLL_mem (by unfold SL.noid at hf; exact hf) hi) hj)) h1
  | fn f caps vs hs _ ih => exact fun hf => .fn f caps vs hs (fun i c v hc hv => ih i c v hc hv (noidL_mem (by unfold SL.noid at hf; exact hf) hc))
  | ptr => intro hf; cases hf
  | own => intro hf; cases hf
  | eptr => intro hf; cases hf
  | mp => intro hf; cases hf
  | it => intro hf; cases hf
end Go.SL
