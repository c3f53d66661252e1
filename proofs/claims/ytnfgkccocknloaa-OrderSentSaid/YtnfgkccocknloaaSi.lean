/- The layer 'SL': loops that keep what they do not turn; lists by their elements; parts of slices and strings; structs compared; own rows made data. -/
import Derived.Test.YtnfgkccocknloaaSf
import Derived.Laws.StructEq
import Derived.Laws.MakeOwn
namespace Go.SL
open Go.RowKit

/-! ### loops -/
def WeakX : List Nat → Env → Env → Prop
  | _, [], _ => True
  | ks, (t, v) :: r, env => (hasN ks t = true ∨ lk env t = v) ∧ WeakX (t :: ks) r env
theorem WeakX.each : ∀ {ks : List Nat} {E env : Env}, WeakX ks E env → ∀ t, t ∉ ks → lk E t = lk env t ∨ lk E t = .any
  | _, [], _, _, _, _ => .inr rfl
  | ks, (t, v) :: r, env, h, s, hs => by
    rw [lk_cons]
    by_cases e : t = s
    · subst e
      rw [if_pos rfl]
      rcases h.1 with h1 | h1
      · exact absurd (hasN_mem.1 h1) hs
      · exact .inl h1.symm
    · rw [if_neg e]
      exact WeakX.each h.2 s (by simp only [List.mem_cons, not_or]; exact ⟨fun x => e x.symm, hs⟩)
theorem lk_append {E env : Env} (t : Nat) : lk (E ++ env) t = if t ∈ E.map (·.1) then lk E t else lk env t := by
  induction E with
  | nil => simp
  | cons p r ih =>
    obtain ⟨s, v⟩ := p
    rw [List.cons_append, lk_cons, lk_cons, ih]
    by_cases e : s = t
    · subst e; rw [if_pos rfl, if_pos (by simp), if_pos rfl]
    · have : (t ∈ List.map (fun x => x.1) ((s, v) :: r)) ↔ (t ∈ List.map (fun x => x.1) r) := by
        simp only [List.map_cons, List.mem_cons]
        exact ⟨fun h => h.resolve_left (fun x => e x.symm), .inr⟩
      rw [if_neg e, if_neg e]
      simp only [this]
theorem WeakL.app {E env env' : Env} (h1 : WeakL E env') (h2 : WeakX (E.map (·.1)) env env') : ∀ t, lk (E ++ env) t = lk env' t ∨ lk (E ++ env) t = .any := by
  intro t
  rw [lk_append]
  split
  · exact h1.each t
  · rename_i hn
    exact h2.each t hn
def SubX : List Nat → Hp → Hp → Prop
  | _, [], _ => True
  | ks, (t, v) :: r, h => (hasN ks t = true ∨ match v with | some o => hget h t = some o | none => True) ∧ SubX (t :: ks) r h
theorem SubX.each : ∀ {ks : List Nat} {H h : Hp}, SubX ks H h → ∀ id o, id ∉ ks → hget H id = some o → hget h id = some o
  | _, [], _, _, id, o, _, ho => by cases ho
  | ks, (t, v) :: r, h, hs, id, o, hk, ho => by
    rw [hget_cons] at ho
    by_cases e : t = id
    · subst e
      rw [if_pos rfl] at ho
      subst ho
      rcases hs.1 with h1 | h1
      · exact absurd (hasN_mem.1 h1) hk
      · exact h1
    · rw [if_neg e] at ho
      exact SubX.each hs.2 id o (by simp only [List.mem_cons, not_or]; exact ⟨fun x => e x.symm, hk⟩) ho
theorem SubH.app {H h h' : Hp} (h1 : SubH H h') (h2 : SubX (H.map (·.1)) h h') : ∀ id o, hget (H ++ h) id = some o → hget h' id = some o := by
  intro id o ho
  rw [hget_append] at ho
  split at ho
  · exact h1.each id o ho
  · rename_i hn
    exact h2.each id o hn ho

section
variable {P : Program} {O : Org} {T : Tab P} {Q : Exit → Env → Hp → Prop} {env : Env} {h : Hp} {o : Oper}

theorem WeakX.self (env : Env) : ∀ t, lk env t = lk env t ∨ lk env t = .any := fun _ => .inl rfl
/-- A loop: of the slots and the objects those that turn by a parameter; all others stay. -/
theorem AW_forE {c : Code} {S : Type} (I : S → Prop) (E : S → Env) (Hh : S → Hp) (μ : S → Nat) (s0 : S) (h0 : I s0) (he : WeakL (E s0) env) (hs : SubH (Hh s0) h)
    (round : ∀ s, I s → AW P O c (thenQ (fun env' h' => ∃ s', I s' ∧ μ s' < μ s ∧ WeakL (E s') env' ∧ WeakX ((E s').map (·.1)) env env' ∧ SubH (Hh s') h' ∧ SubX ((Hh s').map (·.1)) h h') Q) (E s ++ env) (Hh s ++ h)) : AW P O (.loop c) Q env h :=
  AW_loop I (fun s => E s ++ env) (fun s => Hh s ++ h) μ s0 h0 (fun t => by
      rw [lk_append]
      split
      · exact he.each t
      · exact .inl rfl) (fun id o ho => by
      rw [hget_append] at ho
      split at ho
      · exact hs.each id o ho
      · exact ho) fun s hI => (round s hI).mono fun e env' h' q => by
    cases e with
    | normal => exact let ⟨s', h1, h2, h3, h4, h5, h6⟩ := q; ⟨s', h1, h2, h3.app h4, h5.app h6⟩
    | _ => exact q

/-! ### lists by their elements -/
theorem LStep_lenM {t e sz : Nat} {x : Operand} {α : Type} {enc : α → List D} {l : List α} (ho : o.op = .call { callee := .builtin .len, args := #[x], argTypes := #[t] }) (hT : T.desc t = some (.slice e))
    (hx : evalA env x = .d (.sl sz (l.map enc))) (hd : dstOk o.dst O.nt = true) : LStep P O o env h [] [] (.d (.sc (.int .i64 (l.length : Nat)))) [] :=
  LStep_len (T := T) hd ho (.inr (.inl ⟨e, sz, _, hT, hx, (List.length_map ..).symm⟩))
theorem LStep_indexM {t e sz : Nat} {x i : Operand} {α : Type} {enc : α → List D} {l : List α} {kd : IntKind} {k : Nat} {c : α} (ho : o.op = .indexAddr t x i) (hT : T.desc t = some (.slice e)) (hS : T.size e = some sz)
    (hx : evalA env x = .d (.sl sz (l.map enc))) (hi : evalA env i = .d (.sc (.int kd (k : Nat)))) (hd : dstOk o.dst O.nt = true) (hc : l[k]? = some c) : LStep P O o env h [] [] (.ro (enc c)) [] :=
  LStep_index (T := T) hd ho hT hS hx hi (by omega) (by rw [Int.toNat_natCast, List.getElem?_map, hc]; rfl)
theorem LStep_byteM {t : Nat} {x i : Operand} {s : ByteArray} {kd : IntKind} {k : Nat} {c : UInt8} (ho : o.op = .index t x i) (hT : T.desc t = some .string)
    (hx : evalA env x = .d (.sc (.string s))) (hi : evalA env i = .d (.sc (.int kd (k : Nat)))) (hd : dstOk o.dst O.nt = true) (hc : s.data.toList[k]? = some c) : LStep P O o env h [] [] (.d (.sc (.int .u8 c.toNat))) [] :=
  LStep_byte (T := T) hd ho hT hx hi (by omega) (by rw [Int.toNat_natCast]; exact hc)

/-! ### a part of a slice that is data -/
theorem RepD.part {w : World} {X : Nat → Prop} {sz : Nat} {es : List (List D)} {A : Option Addr} {n c : Nat} (h : RepD w X (.sl sz es) (.slice A n c)) {l q : Nat} (hl : l ≤ q) (hq : q ≤ n) :
    RepD w X (.sl sz ((es.take q).drop l)) (.slice (if c = l then A else A.map (·.add (l * sz))) (q - l) (c - l)) := by
  cases h with
  | sl _ _ _ _ _ b off vs hn hcap hA hsz hcell hrep =>
    have hget : ∀ (i : Nat) (e : List D), ((es.take q).drop l)[i]? = some e → es[l + i]? = some e := by
      intro i e hi
      rw [List.getElem?_drop, List.getElem?_take] at hi
      split at hi
      · exact hi
      · cases hi
    refine .sl sz _ _ (q - l) (c - l) b (off + l * sz) (fun i j => vs (l + i) j) (by simp; omega) (by omega) (fun h0 => ?_) (fun i e hi => hsz _ e (hget i e hi)) (fun i e hi j x hj => ?_) (fun i e hi j x hj => hrep _ e (hget i e hi) j x hj)
    · obtain ⟨e1, e2, e3⟩ := hA (by omega)
      subst e1
      refine ⟨?_, e2, e3⟩
      rw [if_neg (by omega)]
      simp only [Option.map_some, Addr.add_lit]
    · have := hcell _ e (hget i e hi) j x hj
      rw [Nat.add_mul, Nat.add_assoc] at this
      rw [Nat.add_assoc]
      exact this
theorem bound_run {x : Value} {kd : IntKind} {k : Int} (hx : x = .int kd k) {y : Nat} {code : BoundsCode} {w : World} (h0 : 0 ≤ k) (h1 : k ≤ y) : (Instr.sliceBound x y code).run P w = .ok k.toNat w := by
  subst hx
  simp [Instr.sliceBound, asIntOf, h0, h1]
/-- the bounds of a part, as the text has them -/
def loOf (env : Env) : Option Operand → Option Int
  | none => some 0
  | some x => match evalA env x with | .d (.sc (.int _ k)) => some k | _ => none
def hiOf (env : Env) (n : Nat) : Option Operand → Option Int
  | none => some n
  | some x => match evalA env x with | .d (.sc (.int _ k)) => some k | _ => none
theorem LStep_part {t e sz : Nat} {x : Operand} {lo hi : Option Operand} {es : List (List D)} {l q : Int} (ho : o.op = .slice t x lo hi none) (hT : T.desc t = some (.slice e)) (hS : T.size e = some sz)
    (hx : evalA env x = .d (.sl sz es)) (hl : loOf env lo = some l) (hq : hiOf env es.length hi = some q) (hd : dstOk o.dst O.nt = true) (h0 : 0 ≤ l) (h1 : l ≤ q) (h2 : q ≤ es.length) : LStep P O o env h [] [] (.d (.sl sz ((es.take q.toNat).drop l.toNat))) [] := by
  refine .quiet hd (fun env' h' he _ a w G r => ?_)
  have g1 := evalA_rep r.env x
  rw [he x (by cases lo <;> cases hi <;> simp [ho, Op.operands]), hx] at g1
  have glo : ∀ y, lo = some y → ∃ kd, a.eval y = .int kd l := by
    intro y hy
    subst hy
    have g2 := evalA_rep r.env y
    rw [he y (by cases hi <;> simp [ho, Op.operands])] at g2
    unfold loOf at hl
    simp only at hl
    split at hl
    · rename_i kd k hk
      rw [hk] at g2
      cases hl
      exact ⟨kd, g2.sc_inv⟩
    · cases hl
  have ghi : ∀ y, hi = some y → ∃ kd, a.eval y = .int kd q := by
    intro y hy
    subst hy
    have g2 := evalA_rep r.env y
    rw [he y (by cases lo <;> simp [ho, Op.operands])] at g2
    unfold hiOf at hq
    simp only at hq
    split at hq
    · rename_i kd k hk
      rw [hk] at g2
      cases hq
      exact ⟨kd, g2.sc_inv⟩
    · cases hq
  have hhi : hi = none → q = es.length := fun e => by subst e; unfold hiOf at hq; cases hq; rfl
  have hlo : lo = none → l = 0 := fun e => by subst e; unfold loOf at hl; cases hl; rfl
  generalize hv : a.eval x = v at g1
  cases g1 with
  | d _ _ g1 =>
    have hg := g1
    cases g1 with
    | sl _ _ A n c b off vs hn hcap =>
      refine ⟨_, ?_, .d _ _ (hg.part (l := l.toNat) (q := q.toNat) (by omega) (by omega))⟩
      have hb : (Instr.sliceBounds true n c (lo.map a.eval) (hi.map a.eval) none).run P w = .ok (l.toNat, q.toNat, c) w := by
        cases hi with
        | none =>
          have e1 := hhi rfl
          cases lo with
          | none =>
            have e2 := hlo rfl
            subst e2
            simp [Instr.sliceBounds, e1, hn]
          | some y =>
            obtain ⟨kd, e2⟩ := glo y rfl
            simp [Instr.sliceBounds, bound_run e2 h0 (show l ≤ (n : Int) by omega), e1, hn]
        | some z =>
          obtain ⟨kd', e1⟩ := ghi z rfl
          cases lo with
          | none =>
            have e2 := hlo rfl
            subst e2
            simp [Instr.sliceBounds, bound_run e1 (show 0 ≤ q by omega) (show q ≤ (c : Int) by omega)]
          | some y =>
            obtain ⟨kd, e2⟩ := glo y rfl
            simp [Instr.sliceBounds, bound_run e1 (show 0 ≤ q by omega) (show q ≤ (c : Int) by omega), bound_run e2 h0 (show l ≤ (q.toNat : Int) by omega)]
      have hu : P.underlying t = some (.slice e) := T.desc_ok hT
      simp [execOp, ho, hv, Instr.sliceAt, Instr.slice, run_underlying hu, hb, run_size T hS]
/-- .. of a list: 'x[:q]', 'x[l:]', 'x[l:q]' -/
theorem LStep_partM {t e sz : Nat} {x : Operand} {lo hi : Option Operand} {α : Type} {enc : α → List D} {es : List α} {l q : Int} (ho : o.op = .slice t x lo hi none) (hT : T.desc t = some (.slice e)) (hS : T.size e = some sz)
    (hx : evalA env x = .d (.sl sz (es.map enc))) (hl : loOf env lo = some l) (hq : hiOf env (es.map enc).length hi = some q) (hd : dstOk o.dst O.nt = true) (h0 : 0 ≤ l) (h1 : l ≤ q) (h2 : q ≤ (es.length : Nat)) : LStep P O o env h [] [] (.d (.sl sz (((es.take q.toNat).drop l.toNat).map enc))) [] := by
  have := LStep_part (O := O) (o := o) (h := h) (T := T) ho hT hS hx hl hq hd h0 h1 (by rw [List.length_map]; exact h2)
  rwa [List.map_drop, List.map_take]

/-! ### structs of scalars, compared -/
def eqV : Nat → Value → Value → Option Bool
  | 1, .int k a, .int k' b => if k = k' then some (eqb a b) else none
  | 2, .string a, .string b => some (eqs a b)
  | 0, .bool a, .bool b => some (a == b)
  | _, _, _ => none
def eqVs : List Nat → List Value → List Value → Option Bool
  | [], [], [] => some true
  | c :: cs, x :: xs, y :: ys => match eqV c x y, eqVs cs xs ys with
    | some b, some c => some (b && c)
    | _, _ => none
  | _, _, _ => none
theorem eqVs_len : ∀ {cs : List Nat} {as bs : List Value} {r : Bool}, eqVs cs as bs = some r → as.length = cs.length ∧ bs.length = cs.length
  | [], [], [], _, _ => ⟨rfl, rfl⟩
  | c :: cs, a :: as, b :: bs, r, h => by
    unfold eqVs at h
    split at h
    · rename_i h2
      have := eqVs_len h2
      simp [this]
    · cases h
theorem eqVs_cut : ∀ {c1 c2 : List Nat} {as bs : List Value} {r : Bool}, eqVs (c1 ++ c2) as bs = some r → ∃ r1 r2, eqVs c1 (as.take c1.length) (bs.take c1.length) = some r1 ∧ eqVs c2 (as.drop c1.length) (bs.drop c1.length) = some r2 ∧ r = (r1 && r2)
  | [], c2, as, bs, r, h => ⟨true, r, rfl, by simpa using h, by simp⟩
  | c :: c1, c2, [], [], r, h => by cases h
  | c :: c1, c2, a :: as, b :: bs, r, h => by
    rw [List.cons_append] at h
    unfold eqVs at h
    split at h
    · rename_i x y h1 h2
      cases h
      obtain ⟨r1, r2, e2, e3, e4⟩ := eqVs_cut h2
      refine ⟨x && r1, r2, ?_, e3, by rw [e4, Bool.and_assoc]⟩
      simp only [List.length_cons, List.take_succ_cons]
      unfold eqVs
      rw [h1, e2]
    · cases h
  | c :: c1, c2, [], _ :: _, _, h => by cases h
  | c :: c1, c2, _ :: _, [], _, h => by cases h
def eqFs (sh : Nat → Option (List Nat)) : Nat → List (Nat × Nat) → Option (List Nat)
  | _, [] => some []
  | off, (q, ft) :: r => match Nat.beq q off, sh ft with
    | true, some n => match eqFs sh (off + n.length) r with
      | some m => some (n ++ m)
      | none => none
    | _, _ => none
variable (T) in
/-- the cells of a type of scalars that may be compared -/
def eqS : Nat → Nat → Option (List Nat)
  | 0, _ => none
  | n + 1, t => match T.desc t with
    | some .bool => some [0]
    | some (.int _) => some [1]
    | some .string => some [2]
    | some (.struct l) => bif !P.stoodInHeld t && (P.fieldsOf t).toList.all fun f => f.name != "_" then
        match eqFs (eqS n) 0 l, T.size t with
        | some k, some k' => bif Nat.beq k.length k' && Nat.blt 0 k' then some k else none
        | _, _ => none
      else none
    | _ => none
variable (T) in
def mkV (t : Nat) (as : List Value) : Value := match T.agg t with | some true => .agg as.toArray | _ => as.headD undef
theorem eqS_size : ∀ {n t : Nat} {k : List Nat}, eqS T n t = some k → (T.agg t = some true ∧ T.size t = some k.length ∧ 0 < k.length) ∨ (T.agg t = some false ∧ k.length = 1)
  | 0, _, _, h => by cases h
  | n + 1, t, k, h => by
    unfold eqS at h
    split at h
    · rename_i hd; cases h; exact .inr ⟨by unfold Tab.agg; rw [hd], rfl⟩
    · rename_i hd; cases h; exact .inr ⟨by unfold Tab.agg; rw [hd], rfl⟩
    · rename_i hd; cases h; exact .inr ⟨by unfold Tab.agg; rw [hd], rfl⟩
    · rename_i l hd
      left
      refine ⟨by unfold Tab.agg; rw [hd], ?_⟩
      cases hb : !P.stoodInHeld t && (P.fieldsOf t).toList.all fun f => f.name != "_" with
      | false => rw [hb] at h; cases h
      | true =>
        rw [hb] at h
        simp only [cond_true] at h
        split at h
        · rename_i k1 k2 h1 h2
          cases hk : Nat.beq k1.length k2 && Nat.blt 0 k2 with
          | false => rw [hk] at h; cases h
          | true =>
            rw [hk] at h
            cases h
            simp only [Bool.and_eq_true, Nat.blt_eq] at hk
            have := Nat.eq_of_beq_eq_true hk.1
            exact ⟨by rw [h2, this], by omega⟩
        · cases h
    · cases h
theorem part_run {n t : Nat} {k : List Nat} (hk : eqS T n t = some k) {xs : Array Value} {off : Nat} (hl : off + k.length ≤ xs.size) (w : World) : (part t xs off).run P w = .ok (mkV T t ((xs.toList.drop off).take k.length)) w := by
  rcases eqS_size hk with ⟨h1, h2, _⟩ | ⟨h1, h2⟩
  · have e : mkV T t ((xs.toList.drop off).take k.length) = .agg (xs.extract off (off + k.length)) := by
      unfold mkV; rw [h1]
      refine congrArg Value.agg ?_
      apply Array.toList_inj.1
      simp [Array.toList_extract, List.extract_eq_take_drop]
    rw [e]
    simp [part, run_isAgg T h1, run_size T h2]
  · have hlt : off < xs.size := by omega
    have e : mkV T t ((xs.toList.drop off).take k.length) = xs[off] := by
      unfold mkV; rw [h1, h2]
      rw [List.drop_eq_getElem_cons (by simpa using hlt)]
      rfl
    rw [e]
    simp [part, run_isAgg T h1, Array.getElem?_eq_getElem hlt]
theorem eqFs_run {n d : Nat} (ih : ∀ (t : Nat) (k : List Nat), eqS T n t = some k → ∀ (as bs : List Value) (r : Bool), eqVs k as bs = some r → ∀ w, (Op.equalIn d t (mkV T t as) (mkV T t bs)).run P w = .ok r w) {xs ys : Array Value} {w : World} :
    ∀ (fs : List Field) (off : Nat) (k : List Nat), (fs.all fun f => f.name != "_") = true → eqFs (eqS T n) off (fs.map fun f => (f.offset, f.type)) = some k → ∀ r, eqVs k (xs.toList.drop off) (ys.toList.drop off) = some r → (Op.eqFields d xs ys fs).run P w = .ok r w
  | [], off, k, _, h, r, hr => by
    cases h
    generalize xs.toList.drop off = a at hr
    generalize ys.toList.drop off = b at hr
    cases a <;> cases b <;> cases hr
    simp [Op.eqFields]
  | f :: fs, off, k, ha, h, r, hr => by
    rw [List.map_cons] at h
    simp only [List.all_cons, Bool.and_eq_true] at ha
    unfold eqFs at h
    split at h
    · rename_i k1 hb h1
      have ho := Nat.eq_of_beq_eq_true hb
      subst ho
      split at h
      · rename_i k2 h2
        cases h
        obtain ⟨r1, r2, e1, e2, e3⟩ := eqVs_cut hr
        obtain ⟨l1, l2⟩ := eqVs_len hr
        simp only [List.length_drop, List.length_append, Array.length_toList] at l1 l2
        obtain ⟨m1, m2⟩ := eqVs_len e1
        simp only [List.length_take, List.length_drop, Array.length_toList] at m1 m2
        have hk0 : 0 < k1.length := by
          rcases eqS_size h1 with ⟨_, _, q⟩ | ⟨_, q⟩ <;> omega
        have p1 := part_run h1 (xs := xs) (off := f.offset) (by omega) w
        have p2 := part_run h1 (xs := ys) (off := f.offset) (by omega) w
        have p3 := ih f.type k1 h1 _ _ r1 e1 w
        have hn : f.name ≠ "_" := by simpa using ha.1
        have p4 := eqFs_run ih (xs := xs) (ys := ys) (w := w) fs (f.offset + k1.length) k2 ha.2 h2 r2 (by rw [← List.drop_drop, ← List.drop_drop]; exact e2)
        rw [Op.eqFields, if_pos hn]
        simp only [Sem.run_bind, p1, p2, p3, Result.andThen_ok, Sem.run_ite]
        cases r1
        · simp [e3]
        · simp [e3, p4]
      · cases h
    · cases h
theorem equalIn_run : ∀ (n t : Nat) (k : List Nat), eqS T n t = some k → ∀ (d : Nat), n ≤ d → ∀ (as bs : List Value) (r : Bool), eqVs k as bs = some r → ∀ w, (Op.equalIn d t (mkV T t as) (mkV T t bs)).run P w = .ok r w := by
  intro n
  induction n with
  | zero => intro t k h; cases h
  | succ n ih =>
    intro t k h d hd as bs r hr w
    obtain ⟨d, rfl⟩ : ∃ d', d = d' + 1 := ⟨d - 1, by omega⟩
    obtain ⟨l1, l2⟩ := eqVs_len hr
    have one : ∀ c, k = [c] → ∃ a b, as = [a] ∧ bs = [b] ∧ eqV c a b = some r := by
      intro c hk
      subst hk
      obtain ⟨a, rfl⟩ := List.length_eq_one_iff.1 l1
      obtain ⟨b, rfl⟩ := List.length_eq_one_iff.1 l2
      unfold eqVs at hr
      split at hr
      · rename_i x y h1 h2
        cases h2
        cases hr
        exact ⟨a, b, rfl, rfl, by simpa using h1⟩
      · cases hr
    have hsz := eqS_size h
    unfold eqS at h
    split at h
    · rename_i hdd
      cases h
      obtain ⟨a, b, rfl, rfl, h1⟩ := one 0 rfl
      have hu : P.underlying t = some .bool := T.desc_ok hdd
      have hg : T.agg t = some false := by unfold Tab.agg; rw [hdd]
      unfold mkV; rw [hg]
      simp only [List.headD_cons]
      cases a <;> cases b <;> simp only [eqV, reduceCtorEq, Option.some.injEq] at h1
      subst h1
      exact run_equalIn_bool w d t _ _ hu
    · rename_i kk hdd
      cases h
      obtain ⟨a, b, rfl, rfl, h1⟩ := one 1 rfl
      have hu : P.underlying t = some (.int kk) := T.desc_ok hdd
      have hg : T.agg t = some false := by unfold Tab.agg; rw [hdd]
      unfold mkV; rw [hg]
      simp only [List.headD_cons]
      cases a <;> cases b <;> simp only [eqV, reduceCtorEq] at h1
      split at h1
      · rename_i e
        subst e
        cases h1
        rw [run_equalIn_int w d t _ kk _ _ hu, eqb_d]
        congr 1
      · cases h1
    · rename_i hdd
      cases h
      obtain ⟨a, b, rfl, rfl, h1⟩ := one 2 rfl
      have hu : P.underlying t = some .string := T.desc_ok hdd
      have hg : T.agg t = some false := by unfold Tab.agg; rw [hdd]
      unfold mkV; rw [hg]
      simp only [List.headD_cons]
      cases a <;> cases b <;> simp only [eqV, reduceCtorEq, Option.some.injEq] at h1
      subst h1
      rw [run_equalIn_string w d t _ _ hu, ba_toList_inj, eqs_d]
    · rename_i l hdd
      obtain ⟨fs, hu, hl⟩ := T.desc_ok hdd
      have hg : T.agg t = some true := by unfold Tab.agg; rw [hdd]
      cases hb : !P.stoodInHeld t && (P.fieldsOf t).toList.all fun f => f.name != "_" with
      | false => rw [hb] at h; cases h
      | true =>
        rw [hb] at h
        simp only [cond_true] at h
        simp only [Bool.and_eq_true, Bool.not_eq_true'] at hb
        have hf : P.fieldsOf t = fs := by unfold Program.fieldsOf; rw [hu]
        split at h
        · rename_i k1 k2 h1 h2
          cases hk : Nat.beq k1.length k2 && Nat.blt 0 k2 with
          | false => rw [hk] at h; cases h
          | true =>
            rw [hk] at h
            cases h
            have e : ∀ l : List Value, mkV T t l = .agg l.toArray := fun l => by unfold mkV; rw [hg]
            rw [e, e, run_equalIn_struct w d t _ _ (by rw [hf]; exact hu) hb.1]
            refine eqFs_run (n := n) (fun t k h as bs r hr w => ih t k h d (by omega) as bs r hr w) _ 0 k hb.2 (by rw [hf, hl]; exact h1) r (by simpa using hr)
        · cases h
    · cases h
/-- the scalars of a struct -/
def scL : AV → Option (List Value)
  | .agg cs => go cs
  | _ => none
where go : List AV → Option (List Value)
  | [] => some []
  | .d (.sc v) :: r => match go r with
    | some l => some (v :: l)
    | none => none
  | _ => none
theorem scL_rep {w : World} {X : Nat → Prop} {G : Ctx} {x : AV} {v : Value} {us : List Value} (hs : scL x = some us) (h : Rep w X G x v) : v = .agg us.toArray := by
  cases h with
  | agg cs vs hl hc h1 =>
    have key : ∀ (cs : List AV) (us vs : List Value), scL.go cs = some us → vs.length = cs.length → (∀ (i : Nat) (c : AV) (v : Value), cs[i]? = some c → vs[i]? = some v → Rep w X G c v) → vs = us := by
      intro cs
      induction cs with
      | nil => intro us vs h hl _; cases h; exact List.eq_nil_of_length_eq_zero hl
      | cons c cs ih =>
        intro us vs h hl hv
        cases vs with
        | nil => cases hl
        | cons v vs =>
          unfold scL.go at h
          split at h
          · rename_i e; cases e
          · rename_i u r e
            split at h
            · rename_i l hl'
              cases h
              cases e
              have h0 := hv 0 _ v rfl rfl
              rw [h0.sc_inv, ih l vs hl' (by simpa using hl) (fun i c v hc hv' => hv (i + 1) c v (by simpa using hc) (by simpa using hv'))]
            · cases h
          · cases h
    have := key cs us vs.toList hs (by simpa using hl) (fun i c v hc hv => hc |> fun hc => by exact (by assumption : ∀ (i : Nat) (c : AV) (v : Value), cs[i]? = some c → vs[i]? = some v → Rep w X G c v) i c v hc (by simpa using hv))
    rw [← this]
  | _ => cases hs
theorem LStep_eqAgg {n t yt : Nat} {k : List Nat} {x y : Operand} {us vs : List Value} {r : Bool} (hS : eqS T n t = some k) (hG : P.eqGuardType P.depth t = false) (hn : n ≤ 10000) (hg : T.agg t = some true) (ho : o.op = .binOp .eql t x y yt)
    (hx : scL (evalA env x) = some us) (hy : scL (evalA env y) = some vs) (hr : eqVs k us vs = some r) (hd : dstOk o.dst O.nt = true) : LStep P O o env h [] [] (.d (.sc (.bool r))) [] := by
  refine .quiet hd (fun env' h' he _ a w G rr => ⟨.bool r, ?_, .d _ _ (.sc _ rfl)⟩)
  have g1 := evalA_rep rr.env x
  have g2 := evalA_rep rr.env y
  rw [he x (by simp [ho, Op.operands])] at g1
  rw [he y (by simp [ho, Op.operands])] at g2
  have e1 := scL_rep hx g1
  have e2 := scL_rep hy g2
  have h1 := equalIn_run n t k hS 10000 hn us vs r hr w
  have e : ∀ l : List Value, mkV T t l = .agg l.toArray := fun l => by unfold mkV; rw [hg]
  rw [e, e] at h1
  simp [execOp, ho, e1, e2, run_eqGuard_agg w .eql t x y _ _ hG, run_eql_struct, h1]
theorem LStep_neqAgg {n t yt : Nat} {k : List Nat} {x y : Operand} {us vs : List Value} {r : Bool} (hS : eqS T n t = some k) (hG : P.eqGuardType P.depth t = false) (hn : n ≤ 10000) (hg : T.agg t = some true) (ho : o.op = .binOp .neq t x y yt)
    (hx : scL (evalA env x) = some us) (hy : scL (evalA env y) = some vs) (hr : eqVs k us vs = some r) (hd : dstOk o.dst O.nt = true) : LStep P O o env h [] [] (.d (.sc (.bool (!r)))) [] := by
  refine .quiet hd (fun env' h' he _ a w G rr => ⟨.bool (!r), ?_, .d _ _ (.sc _ rfl)⟩)
  have g1 := evalA_rep rr.env x
  have g2 := evalA_rep rr.env y
  rw [he x (by simp [ho, Op.operands])] at g1
  rw [he y (by simp [ho, Op.operands])] at g2
  have e1 := scL_rep hx g1
  have e2 := scL_rep hy g2
  have h1 := equalIn_run n t k hS 10000 hn us vs r hr w
  have e : ∀ l : List Value, mkV T t l = .agg l.toArray := fun l => by unfold mkV; rw [hg]
  rw [e, e] at h1
  simp [execOp, ho, e1, e2, run_eqGuard_agg w .neq t x y _ _ hG, run_neq_struct, h1]
end
end Go.SL
