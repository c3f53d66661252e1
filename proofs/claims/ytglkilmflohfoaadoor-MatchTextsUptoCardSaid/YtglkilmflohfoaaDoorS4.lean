/- The layer 'SL': regions, functions. -/
import Derived.Test.YtglkilmflohfoaaDoorS3
namespace Go.SL
open Go.RowKit

/-! ### freshness, by look-up -/
def freshE (id : Nat) : Env → Bool
  | [] => true
  | (_, v) :: r => fresh id v && freshE id r
def freshH (id : Nat) : Hp → Bool
  | [] => true
  | (t, v) :: r => (match v with | some o => freshO id o && !(Nat.beq id t) | none => true) && freshH id r
theorem freshE_lk {id : Nat} : ∀ {env : Env}, freshE id env = true → ∀ t, fresh id (lk env t) = true
  | [], _, _ => rfl
  | (s, v) :: r, h, t => by
    unfold freshE at h
    simp only [Bool.and_eq_true] at h
    rw [lk_cons]
    split
    · exact h.1
    · exact freshE_lk h.2 t
theorem freshH_get {id : Nat} : ∀ {h : Hp}, freshH id h = true → ∀ j o, hget h j = some o → freshO id o = true ∧ j ≠ id
  | [], _, _, _, h => by cases h
  | (s, v) :: r, h, j, o, ho => by
    unfold freshH at h
    simp only [Bool.and_eq_true] at h
    rw [hget_cons] at ho
    by_cases e : s = j
    · subst e
      rw [if_pos rfl] at ho
      subst ho
      simp only [Bool.and_eq_true] at h
      exact ⟨h.1.1, beq_ne h.1.2⟩
    · rw [if_neg e] at ho
      exact freshH_get h.2 j o ho
theorem freshAt_of {id : Nat} {env : Env} {h : Hp} (h1 : freshE id env = true) (h2 : freshH id h = true) : freshAt id env h :=
  ⟨freshE_lk h1, fun j o ho => (freshH_get h2 j o ho).1, by
    cases hg : hget h id with
    | none => rfl
    | some o => exact absurd rfl (freshH_get h2 id o hg).2⟩

def wantedA (all : List Oper) (env : Env) (o : Oper) : Option Bool :=
  match o.guard with
  | none => some true
  | some (j, b) => match all[j]? with
    | some oj => match oj.dst with
      | some d => match lk env d with
        | .d (.sc (.bool c)) => some (c == b)
        | .tup [] => some false
        | _ => none
      | none => some false
    | none => some false

theorem wantedA_ok {O : Org} {env : Env} {h : Hp} {a : Act} {w : World} {G : Ctx} {all : List Oper} {o : Oper} {c : Bool} (r : Rel O env h a w G) (hw : wantedA all env o = some c) :
    Region.wanted o (yielded all.toArray a.tmps) = c := by
  unfold wantedA at hw
  unfold Region.wanted
  cases hg : o.guard with
  | none => rw [hg] at hw; simpa using hw
  | some p =>
    obtain ⟨j, b⟩ := p
    rw [hg] at hw
    simp only at hw ⊢
    unfold yielded
    rw [List.getElem?_toArray]
    cases hj : all[j]? with
    | none => rw [hj] at hw; simp at hw ⊢; exact hw
    | some oj =>
      rw [hj] at hw
      simp only [Option.bind_some] at hw ⊢
      cases hd : oj.dst with
      | none => rw [hd] at hw; simp at hw ⊢; exact hw
      | some d =>
        rw [hd] at hw
        simp only [Option.bind_some] at hw ⊢
        have he := r.env d
        rw [Array.getD_eq_getD_getElem?] at he
        generalize a.tmps[d]? = v at he
        split at hw
        · rename_i c' hl
          rw [hl] at he
          have hv := he.sc_inv
          cases v with
          | none => simp [undef] at hv
          | some v =>
            simp only [Option.getD_some] at hv
            subst hv
            simp only [Option.some.injEq] at hw
            subst hw
            cases c' <;> cases b <;> rfl
        · rename_i hl
          rw [hl] at he
          simp only [Option.some.injEq] at hw
          subst hw
          cases v with
          | none => rfl
          | some v =>
            simp only [Option.getD_some] at he
            cases he
            rfl
        · cases hw

structure Rc where
  dst : Option Nat
  av : AV
  Ts : List Nat
  Ns : List Nat
  u : Hp

inductive Chain (P : Program) (O : Org) (all : List Oper) : List Oper → Env → Hp → List Rc → Env → Hp → Prop
  | nil (env : Env) (h : Hp) : Chain P O all [] env h [] env h
  | step (o : Oper) (rest : List Oper) (env : Env) (h : Hp) (Ts Ns : List Nat) (av : AV) (u : Hp) (rs : List Rc) (env' : Env) (h' : Hp) (hw : wantedA all env o = some true) (hs : LStep P O o env h Ts Ns av u)
      (hf : ∀ id ∈ Ns, freshAt id env h) (hr : Chain P O all rest (upd env o.dst av) (u ++ h) rs env' h') : Chain P O all (o :: rest) env h (⟨o.dst, av, Ts, Ns, u⟩ :: rs) env' h'
  | skip (o : Oper) (rest : List Oper) (env : Env) (h : Hp) (rs : List Rc) (env' : Env) (h' : Hp) (hw : wantedA all env o = some false) (hd : dstOk o.dst O.nt = true)
      (hr : Chain P O all rest (upd env o.dst (.tup [])) h rs env' h') : Chain P O all (o :: rest) env h (⟨o.dst, .tup [], [], [], []⟩ :: rs) env' h'

/-! ### may a region's order be left open? -/
def looksL (all : List Oper) (o : Oper) : List Nat :=
  (o.op.operands.toList.filterMap fun | .tmp t => some t | _ => none) ++
  (match o.guard with
   | some (j, _) => match all[j]? with
     | some oj => match oj.dst with
       | some d => [d]
       | none => []
     | none => []
   | none => [])
def hasN (l : List Nat) (n : Nat) : Bool := l.any (Nat.beq n)
def hasD (l : List Nat) (d : Option Nat) : Bool := match d with | some n => hasN l n | none => false
def keysH (h : Hp) : List Nat := h.map (·.1)
/-- the first is read, or turned, by the second, or the other way round -/
def confl (all : List Oper) (oi oj : Oper) (ri rj : Rc) : Bool :=
  hasD (looksL all oj) ri.dst || hasD (looksL all oi) rj.dst || hasD (match rj.dst with | some d => [d] | none => []) ri.dst ||
  (keysH ri.u).any (fun k => hasN (keysH rj.u) k || hasN rj.Ts k) || (keysH rj.u).any (fun k => hasN ri.Ts k)
def newOk (Ns : List Nat) (r : Rc) : Bool := Ns.all fun id => fresh id r.av && freshH id r.u
abbrev Item := Oper × Rc × Nat
def pairOk (all : List Oper) (i : Nat) (x y : Item) : Bool :=
  (!(confl all x.1 y.1 x.2.1 y.2.1) || y.2.2.testBit i) && newOk y.2.1.Ns x.2.1 && (newOk x.2.1.Ns y.2.1 || y.2.2.testBit i)
def chkPairs (all : List Oper) : List Item → Nat → Bool
  | [], _ => true
  | x :: r, i => r.all (pairOk all i x) && chkPairs all r (i + 1)
def maskOf (acc : List Nat) (o : Oper) : Nat :=
  o.after.toList.foldl (fun m e => bif Region.binds .any e then m ||| ((1 <<< e.on) ||| acc.getD e.on 0) else m) 0
def masks : List Oper → List Nat → List Nat
  | [], acc => acc
  | o :: r, acc => masks r (acc ++ [maskOf acc o])
def chkEdges : List Oper → Nat → Bool
  | [], _ => true
  | o :: r, k => o.after.toList.all (fun e => !(Region.binds .any e) || Nat.blt e.on k) && chkEdges r (k + 1)
/-- may the region's order be left open? (the records of its operations, in the text's order) -/
def chk (all : List Oper) (e0 : Env) (h0 : Hp) (rs : List Rc) : Bool :=
  chkEdges all 0 && chkPairs all (all.zip (rs.zip (masks all []))) 0 && rs.all fun r => r.Ns.all fun id => freshE id e0 && freshH id h0

/-- A region's operations, one behind the other. -/
def EvS (P : Program) (O : Org) (all : List Oper) (rest : List Oper) (env : Env) (h : Hp) (Q : Exit → Env → Hp → Prop) : Prop :=
  ∀ a w G, Rel O env h a w G → wpList P all.toArray (lift O Q) rest a w
/-- A region whose order is left open: reckoned in the text's order; 'rs' bears the records, the last first. -/
def EvD (P : Program) (O : Org) (e0 : Env) (h0 : Hp) (all : List Oper) (rest : List Oper) (env : Env) (h : Hp) (rs : List Rc) (Q : Exit → Env → Hp → Prop) : Prop :=
  ∃ rs' env' h', Chain P O all rest env h rs' env' h' ∧ chk all e0 h0 (rs.reverse ++ rs') = true ∧ Q .normal env' h'

section
variable {P : Program} {O : Org} {T : Tab P} {Q : Exit → Env → Hp → Prop} {env : Env} {h : Hp} {all rest : List Oper} {o : Oper} {rs : List Rc} {e0 : Env} {h0 : Hp}

theorem Es_nil (H : Q .normal env h) : EvS P O all [] env h Q := fun _ _ G r => ⟨env, h, G, r, H⟩
theorem Ed_nil (hc : chk all e0 h0 rs.reverse = true) (H : Q .normal env h) : EvD P O e0 h0 all [] env h rs Q := ⟨[], env, h, .nil env h, by simpa using hc, H⟩

theorem Es_step0 {av : AV} {Ts Ns : List Nat} {u : Hp} (hw : wantedA all env o = some true) (hs : LStep P O o env h Ts Ns av u) (hf : ∀ id ∈ Ns, freshAt id env h)
    (K : EvS P O all rest (upd env o.dst av) (u ++ h) Q) : EvS P O all (o :: rest) env h Q := by
  intro a w G r
  unfold wpList
  rw [if_pos (wantedA_ok r hw)]
  exact .inl (hs env h (fun _ _ => rfl) (fun _ _ => rfl) hf a w G r _ _ (fun v w' G' r' => K _ _ _ r'))
theorem Ed_step0 {av : AV} {Ts Ns : List Nat} {u : Hp} (hw : wantedA all env o = some true) (hs : LStep P O o env h Ts Ns av u) (hf : ∀ id ∈ Ns, freshAt id env h)
    (K : EvD P O e0 h0 all rest (upd env o.dst av) (u ++ h) (⟨o.dst, av, Ts, Ns, u⟩ :: rs) Q) : EvD P O e0 h0 all (o :: rest) env h rs Q := by
  obtain ⟨rs', env', h', h1, h2, h3⟩ := K
  exact ⟨_, env', h', .step o rest env h Ts Ns av u rs' env' h' hw hs hf h1, by simpa using h2, h3⟩

/-- An operation that turns no object. -/
theorem Es_q {t : Nat} {av : AV} {Ts : List Nat} (hd : o.dst = some t) (hw : wantedA all env o = some true) (hs : LStep P O o env h Ts [] av []) (K : EvS P O all rest ((t, av) :: env) h Q) : EvS P O all (o :: rest) env h Q :=
  Es_step0 hw hs (fun _ h => by simp at h) (by rw [hd]; exact K)
theorem Ed_q {t : Nat} {av : AV} {Ts : List Nat} (hd : o.dst = some t) (hw : wantedA all env o = some true) (hs : LStep P O o env h Ts [] av [])
    (K : EvD P O e0 h0 all rest ((t, av) :: env) h (⟨some t, av, Ts, [], []⟩ :: rs) Q) : EvD P O e0 h0 all (o :: rest) env h rs Q :=
  Ed_step0 hw hs (fun _ h => by simp at h) (by rw [hd]; exact K)
theorem Es_skip {t : Nat} (hd : o.dst = some t) (hw : wantedA all env o = some false) (hn : dstOk (some t) O.nt = true) (K : EvS P O all rest ((t, .tup []) :: env) h Q) : EvS P O all (o :: rest) env h Q := by
  intro a w G r
  unfold wpList
  rw [if_neg (by rw [wantedA_ok r hw]; exact Bool.false_ne_true)]
  rw [hd]
  exact K _ _ _ (r.put hn (.tup [] #[] rfl (fun i c v hc _ => by simp at hc)))
theorem Es_cases {c b : Bool} (_hw : wantedA all env o = some (c == b)) (ht : c = true → EvS P O all (o :: rest) env h Q) (hf : c = false → EvS P O all (o :: rest) env h Q) : EvS P O all (o :: rest) env h Q := by
  cases c
  · exact hf rfl
  · exact ht rfl
def Undecided (_ : Bool) : Prop := True
theorem und_t {c : Bool} (_ : c = true) : Undecided c := trivial
theorem und_f {c : Bool} (_ : c = false) : Undecided c := trivial
theorem Es_split {c b : Bool} (_hw : wantedA all env o = some (c == b)) (_hu : Undecided c) (ht : c = true → EvS P O all (o :: rest) env h Q) (hf : c = false → EvS P O all (o :: rest) env h Q) : EvS P O all (o :: rest) env h Q :=
  Es_cases _hw ht hf
theorem w_tt {c : Bool} (h : c = true) : some (c == true) = some true := by rw [h]; rfl
theorem w_ff {c : Bool} (h : c = false) : some (c == false) = some true := by rw [h]; rfl
theorem w_tf {c : Bool} (h : c = true) : some (c == false) = some false := by rw [h]; rfl
theorem w_ft {c : Bool} (h : c = false) : some (c == true) = some false := by rw [h]; rfl

/-- a value, its head written out -/
def eta1 : AV → Option AV
  | .any => some .any
  | .d (.sc v) => some (.d (.sc v))
  | .d (.sl n v) => some (.d (.sl n v))
  | .agg v => some (.agg v)
  | .tup v => some (.tup v)
  | .ptr i v => some (.ptr i v)
  | .ro v => some (.ro v)
  | .roa v => some (.roa v)
  | .sla n v => some (.sla n v)
  | .own i v => some (.own i v)
  | .eptr i n s k v => some (.eptr i n s k v)
  | .part i n s k v => some (.part i n s k v)
  | .mp v => some (.mp v)
  | .it v => some (.it v)
  | .fn f v => some (.fn f v)
  | .bnd f v => some (.bnd f v)
theorem eta1_eq (v : AV) : eta1 v = some v := by
  cases v with
  | d x => cases x <;> rfl
  | _ => rfl
def etaL : List AV → Option (List AV)
  | [] => some []
  | c :: r => match eta1 c, etaL r with
    | some x, some l => some (x :: l)
    | _, _ => none
theorem etaL_eq : ∀ l, etaL l = some l
  | [] => rfl
  | c :: r => by unfold etaL; rw [eta1_eq, etaL_eq r]
theorem etaL_inv {l l' : List AV} (h : etaL l = some l') : l = l' := by rw [etaL_eq] at h; exact Option.some.inj h
/-- .. and its parts' heads -/
def eta (Ts : List Nat) : AV → Option (AV × List Nat)
  | .any => some (.any, Ts)
  | .d (.sc v) => some (.d (.sc v), Ts)
  | .d (.sl n v) => some (.d (.sl n v), Ts)
  | .agg v => match etaL v with
    | some l => some (.agg l, Ts)
    | none => none
  | .tup v => match etaL v with
    | some l => some (.tup l, Ts)
    | none => none
  | .ptr i v => some (.ptr i v, Ts)
  | .ro v => some (.ro v, Ts)
  | .roa v => some (.roa v, Ts)
  | .sla n v => some (.sla n v, Ts)
  | .own i v => some (.own i v, Ts)
  | .eptr i n s k v => some (.eptr i n s k v, Ts)
  | .part i n s k v => some (.part i n s k v, Ts)
  | .mp v => some (.mp v, Ts)
  | .it v => some (.it v, Ts)
  | .fn f v => match etaL v with
    | some l => some (.fn f l, Ts)
    | none => none
  | .bnd f v => match etaL v with
    | some l => some (.bnd f l, Ts)
    | none => none
theorem eta_eq (Ts : List Nat) (v : AV) : eta Ts v = some (v, Ts) := by
  cases v with
  | d x => cases x <;> rfl
  | agg l => simp only [eta, etaL_eq]
  | tup l => simp only [eta, etaL_eq]
  | fn f l => simp only [eta, etaL_eq]
  | bnd f l => simp only [eta, etaL_eq]
  | _ => rfl
/-- + - * and conversions have laws of their own -/
def plain : Op → Bool
  | .binOp .add _ _ _ _ | .binOp .sub _ _ _ _ | .binOp .mul _ _ _ _ | .convert _ _ _ | .call _ => false
  | _ => true
def simpE {P : Program} (T : Tab P) (env : Env) (h : Hp) (op : Op) : Option (AV × List Nat) :=
  match plain op with
  | true => match simp1 T env h op with
    | some (v, Ts) => eta Ts v
    | none => none
  | false => none
theorem LStep_simp {av : AV} {Ts : List Nat} (hd : dstOk o.dst O.nt = true) (hs : simpE T env h o.op = some (av, Ts)) : LStep P O o env h Ts [] av [] := by
  unfold simpE at hs
  split at hs
  · cases h1 : simp1 T env h o.op with
    | none => rw [h1] at hs; cases hs
    | some p =>
      rw [h1] at hs
      simp only [eta_eq] at hs
      exact LStep_simp1 hd (h1.trans hs)
  · cases hs
theorem LStep_wrap {av : AV} {Ts : List Nat} (hd : dstOk o.dst O.nt = true) (hs : simp1 T env h o.op = some (av, Ts)) : LStep P O o env h Ts [] av [] := LStep_simp1 hd hs
theorem gS (K : EvS P O all (o :: rest) env h Q) : EvS P O all (o :: rest) env h Q := K
theorem gD (K : EvD P O e0 h0 all (o :: rest) env h rs Q) : EvD P O e0 h0 all (o :: rest) env h rs Q := K
theorem gA {c : Code} (K : AW P O c Q env h) : AW P O c Q env h := K
theorem wanted_none (hg : o.guard = none) : wantedA all env o = some true := by unfold wantedA; rw [hg]
/-- the plain operation, without a guard; with one -/
theorem Es_s {t : Nat} {av : AV} {Ts : List Nat} (hg : o.guard = none) (hd : o.dst = some t) (hs : simpE T env h o.op = some (av, Ts)) (hn : dstOk (some t) O.nt = true) (K : EvS P O all rest ((t, av) :: env) h Q) : EvS P O all (o :: rest) env h Q :=
  Es_q hd (wanted_none hg) (LStep_simp (by rw [hd]; exact hn) hs) K
theorem Ed_s {t : Nat} {av : AV} {Ts : List Nat} (hg : o.guard = none) (hd : o.dst = some t) (hs : simpE T env h o.op = some (av, Ts)) (hn : dstOk (some t) O.nt = true)
    (K : EvD P O e0 h0 all rest ((t, av) :: env) h (⟨some t, av, Ts, [], []⟩ :: rs) Q) : EvD P O e0 h0 all (o :: rest) env h rs Q :=
  Ed_q hd (wanted_none hg) (LStep_simp (by rw [hd]; exact hn) hs) K
theorem eta_inv {v av : AV} {Ts Ts' : List Nat} (h : eta Ts v = some (av, Ts')) : v = av := by
  rw [eta_eq] at h; cases h; rfl
/-- 'pick' by a Bool that a test has decided -/
theorem LStep_pickT {c x y : Operand} {b : Bool} {av : AV} {Ts : List Nat} (ho : o.op = .pick c x y) (hc : evalA env c = .d (.sc (.bool b))) (hb : b = true) (hv : eta [] (evalA env x) = some (av, Ts)) (hd : dstOk o.dst O.nt = true) : LStep P O o env h [] [] av [] := by
  subst hb
  exact eta_inv hv ▸ LStep_pick hd ho hc
theorem LStep_pickF {c x y : Operand} {b : Bool} {av : AV} {Ts : List Nat} (ho : o.op = .pick c x y) (hc : evalA env c = .d (.sc (.bool b))) (hb : b = false) (hv : eta [] (evalA env y) = some (av, Ts)) (hd : dstOk o.dst O.nt = true) : LStep P O o env h [] [] av [] := by
  subst hb
  exact eta_inv hv ▸ LStep_pick hd ho hc

def WeakL : Env → Env → Prop
  | [], _ => True
  | (t, v) :: r, env => lk env t = v ∧ WeakL r env
theorem WeakL.each : ∀ {E env : Env}, WeakL E env → ∀ t, lk E t = lk env t ∨ lk E t = .any
  | [], _, _, _ => .inr rfl
  | (t, v) :: r, env, h, s => by
    rw [lk_cons]
    by_cases e : t = s
    · subst e; rw [if_pos rfl]; exact .inl h.1.symm
    · rw [if_neg e]; exact h.2.each s
def SubH : Hp → Hp → Prop
  | [], _ => True
  | (t, v) :: r, h => (match v with | some o => hget h t = some o | none => True) ∧ SubH r h
theorem SubH.each : ∀ {H h : Hp}, SubH H h → ∀ id o, hget H id = some o → hget h id = some o
  | [], _, _, id, o, ho => by cases ho
  | (t, v) :: r, h, hs, id, o, ho => by
    rw [hget_cons] at ho
    by_cases e : t = id
    · subst e
      rw [if_pos rfl] at ho
      subst ho
      exact hs.1
    · rw [if_neg e] at ho
      exact hs.2.each id o ho
theorem then_n {K : Env → Hp → Prop} (H : K env h) : thenQ K Q .normal env h := H
theorem then_r {K : Env → Hp → Prop} (H : Q .ret env h) : thenQ K Q .ret env h := H
theorem then_e {K : Env → Hp → Prop} {i : Nat} (H : Q (.exit i) env h) : thenQ K Q (.exit i) env h := H
theorem block_n {j : Nat} (H : Q .normal env h) : blockQ j Q .normal env h := H
theorem block_r {j : Nat} (H : Q .ret env h) : blockQ j Q .ret env h := H
theorem block_e {i j : Nat} (hij : Nat.beq i j = true) (H : Q .normal env h) : blockQ j Q (.exit i) env h := by
  show (bif Nat.beq i j then _ else _)
  rw [hij]; exact H
theorem LStep_add {t yt : Nat} {x y : Operand} {k : IntKind} {m n : Int} (ho : o.op = .binOp .add t x y yt) (hx : evalA env x = .d (.sc (.int k m))) (hy : evalA env y = .d (.sc (.int k n))) (hd : dstOk o.dst O.nt = true) (hr : k.wrap (m + n) = m + n) :
    LStep P O o env h [] [] (.d (.sc (.int k (m + n)))) [] := LStep_arith hd ho hx hy (.inl ⟨rfl, rfl⟩) hr
theorem LStep_sub {t yt : Nat} {x y : Operand} {k : IntKind} {m n : Int} (ho : o.op = .binOp .sub t x y yt) (hx : evalA env x = .d (.sc (.int k m))) (hy : evalA env y = .d (.sc (.int k n))) (hd : dstOk o.dst O.nt = true) (hr : k.wrap (m - n) = m - n) :
    LStep P O o env h [] [] (.d (.sc (.int k (m - n)))) [] := LStep_arith hd ho hx hy (.inr (.inl ⟨rfl, rfl⟩)) hr
theorem LStep_conv {s d : Nat} {x : Operand} {k0 k1 k : IntKind} {n : Int} (ho : o.op = .convert s d x) (hs : T.desc s = some (.int k0)) (hk : T.desc d = some (.int k)) (hx : evalA env x = .d (.sc (.int k1 n))) (hd : dstOk o.dst O.nt = true) (hr : k.wrap n = n) :
    LStep P O o env h [] [] (.d (.sc (.int k n))) [] := by
  have := LStep_convert (P := P) (O := O) (T := T) (h := h) hd ho hs hk hx
  rwa [wrp_d, hr] at this

theorem AW_condT {c : Operand} {x y : Code} (hc : evalA env c = .d (.sc (.bool true))) (H : AW P O x Q env h) : AW P O (.cond c x y) Q env h := AW_cond hc (fun _ => H) (fun e => by cases e)
theorem AW_condF {c : Operand} {x y : Code} (hc : evalA env c = .d (.sc (.bool false))) (H : AW P O y Q env h) : AW P O (.cond c x y) Q env h := AW_cond hc (fun e => by cases e) (fun _ => H)
theorem AW_region {id : Nat} {l : List Oper} (H : EvS P O l l env h Q) : AW P O (.region id l.toArray false) Q env h :=
  fun a w G r => wp_region_lit (H a w G r)

/-! ### an index -/
theorem LStep_index {t e sz : Nat} {x i : Operand} {es : List (List D)} {kd : IntKind} {k : Int} {c : List D} (hd : dstOk o.dst O.nt = true) (ho : o.op = .indexAddr t x i) (hT : T.desc t = some (.slice e)) (hS : T.size e = some sz)
    (hx : evalA env x = .d (.sl sz es)) (hi : evalA env i = .d (.sc (.int kd k))) (hk : 0 ≤ k) (hc : es[k.toNat]? = some c) : LStep P O o env h [] [] (.ro c) [] := by
  refine .quiet hd (fun env' h' he _ a w G r => ?_)
  have h1 := evalA_rep r.env x
  have h2 := evalA_rep r.env i
  rw [he x (by simp [ho, Op.operands]), hx] at h1
  rw [he i (by simp [ho, Op.operands]), hi] at h2
  generalize hv : a.eval x = v at h1
  cases h1 with
  | d _ _ h1 =>
    cases h1 with
    | sl _ _ A n cp b off vs hn hcap hA hsz hcell hrep =>
      have hlt : k.toNat < n := by rw [← hn]; exact (List.getElem?_eq_some_iff.1 hc).1
      obtain ⟨rfl, hb, hX⟩ := hA (by omega)
      refine ⟨.pointer (some ⟨b, off + k.toNat * sz, none⟩), ?_, .ro c b _ (fun j => vs k.toNat j) hb hX (fun j y hj => ?_) (fun j y hj => hrep _ c hc j y hj)⟩
      · simp [execOp, ho, hv, h2.sc_inv, Instr.indexAt, asIntOf, run_underlying (T.desc_ok hT), run_size T hS, Addr.add_lit, show 0 ≤ k ∧ k < (n : Int) from ⟨hk, by omega⟩]
      · rw [Nat.add_assoc]; exact hcell _ c hc j y hj
end

/-! ### functions -/
def org (w : World) (X : Nat → Prop) (h : Hp) (G : Ctx) (ids : List Nat) (nt : Nat) : Org := ⟨w, X, Own h G, ids, G, nt⟩
def noAct : Act := ⟨#[], []⟩

/-- What a call does: called with the arguments 'args' and the objects 'h' (of which 'ids' keep their place), it returns, and R holds of what it hands back and of the objects. -/
def Callable (P : Program) (f : FuncId) : Prop := ∀ (args : Array Value) (w : World), (callFunc f args).run P w = .ok (.enter f args) w
theorem callable_of {P : Program} {f : FuncId} {fn : Func} {c : Code} (hf : P.funcs[f]? = some fn) (hb : fn.body = some c) (hn : (fn.name == "runtime.NumGoroutine") = false) : Callable P f := by
  intro args w
  have hn' : ¬ fn.name = "runtime.NumGoroutine" := by simpa using hn
  simp [callFunc, hf, hb, hn']
def AC (P : Program) (f : FuncId) (args : List AV) (h : Hp) (ids : List Nat) (R : AV → Hp → Prop) : Prop :=
  Callable P f ∧ ∀ (w : World) (X : Nat → Prop) (G : Ctx) (vs : List Value), Rel (org w X h G ids 0) [] h noAct w G → vs.length = args.length →
    (∀ (i : Nat) (x : AV) (v : Value), args[i]? = some x → vs[i]? = some v → Rep w (XX (org w X h G ids 0) h G) G x v) →
    Calls P f vs.toArray w fun e w' => ∃ v r h' G', e = .returned v ∧ Rel (org w X h G ids 0) [] h' noAct w' G' ∧ Rep w' (XX (org w X h G ids 0) h' G') G' r v ∧ R r h'

def argEnv : Nat → List AV → Env
  | _, [] => []
  | k, x :: r => (k, x) :: argEnv (k + 1) r
def resA (env : Env) : List ResultVar → Option (List AV)
  | [] => some []
  | .tmp t :: r => match resA env r with
    | some l => some (lk env t :: l)
    | none => none
  | .cell _ _ :: _ => none
def resV (l : List AV) : AV := match l with | [x] => x | l => .tup l
def retQ (rv : List ResultVar) (R : AV → Hp → Prop) : Exit → Env → Hp → Prop
  | .ret, env, h | .normal, env, h => match resA env rv with
    | some l => R (resV l) h
    | none => False
  | _, _, _ => False

theorem lk_argEnv : ∀ (args : List AV) (k t : Nat), lk (argEnv k args) t = if k ≤ t then (match args[t - k]? with | some x => x | none => .any) else .any
  | [], k, t => by simp [argEnv, lk]
  | x :: r, k, t => by
    show lk ((k, x) :: argEnv (k + 1) r) t = _
    rw [lk_cons, lk_argEnv r (k + 1) t]
    by_cases h : k = t
    · subst h; simp
    · rw [if_neg h]
      by_cases h2 : k + 1 ≤ t
      · rw [if_pos h2, if_pos (by omega)]
        have : t - k = (t - (k + 1)) + 1 := by omega
        rw [this]; rfl
      · rw [if_neg h2, if_neg (by omega)]

def resM (tmps : Array Value) : ResultVar → Sem Value
  | .tmp t => pure (tmps.getD t undef)
  | .cell a t => do loadVar t (← asAddr (tmps.getD a undef))
theorem results_resM (fn : Func) (tmps : Array Value) : results fn tmps = (do let vs ← fn.results.mapM (resM tmps); pure (if h : vs.size = 1 then vs[0] else .tuple vs)) := by
  unfold results
  have : (fun x : ResultVar => match x with | .tmp t => pure (tmps.getD t undef) | .cell a t => do loadVar t (← asAddr (tmps.getD a undef))) = resM tmps := by
    funext x; cases x <;> rfl
  exact congrArg (fun g => (do let vs ← fn.results.mapM g; pure (if h : vs.size = 1 then vs[0] else .tuple vs) : Sem Value)) this
theorem run_results {P : Program} {O : Org} {env : Env} {h : Hp} {a : Act} {w : World} {G : Ctx} (r : Rel O env h a w G) (fn : Func) (l : List AV) (hl : resA env fn.results.toList = some l) :
    ∃ v, (results fn a.tmps).run P w = .ok v w ∧ Rep w (XX O h G) G (resV l) v := by
  have key : ∀ (rv : List ResultVar) (l : List AV), resA env rv = some l → ∃ vs : List Value, (rv.mapM (resM a.tmps)).run P w = .ok vs w ∧ vs.length = l.length ∧ ∀ (i : Nat) (x : AV) (v : Value), l[i]? = some x → vs[i]? = some v → Rep w (XX O h G) G x v := by
    intro rv
    induction rv with
    | nil => intro l hl; cases hl; exact ⟨[], by simp, rfl, fun i x v hx => by simp at hx⟩
    | cons x rv ih =>
      intro l hl
      cases x with
      | cell _ _ => cases hl
      | tmp t =>
        simp only [resA] at hl
        cases hr : resA env rv with
        | none => rw [hr] at hl; cases hl
        | some l' =>
          rw [hr] at hl
          cases hl
          obtain ⟨vs, h1, h2, h3⟩ := ih l' hr
          refine ⟨a.tmps.getD t undef :: vs, by simp only [List.mapM_cons, resM, Sem.run_bind, Sem.run_pure, Result.andThen_ok, h1], by simp [h2], fun i x v hx hv => ?_⟩
          cases i with
          | zero =>
            simp only [List.getElem?_cons_zero, Option.some.injEq] at hx hv
            subst hx; subst hv
            exact r.env t
          | succ i => exact h3 i x v (by simpa using hx) (by simpa using hv)
  obtain ⟨vs, h1, h2, h3⟩ := key fn.results.toList l hl
  have hm : (results fn a.tmps).run P w = .ok (if h : vs.toArray.size = 1 then vs.toArray[0] else .tuple vs.toArray) w := by
    rw [results_resM]
    have e : fn.results.mapM (resM a.tmps) = List.toArray <$> fn.results.toList.mapM (resM a.tmps) := by
      rw [← List.mapM_toArray]
    simp only [e, Sem.run_bind, Sem.run_map, h1, Result.andThen_ok, Sem.run_pure]
  refine ⟨_, hm, ?_⟩
  unfold resV
  split
  · rename_i x
    obtain ⟨v, rfl⟩ : ∃ v, vs = [v] := List.length_eq_one_iff.1 h2
    exact h3 0 x v rfl rfl
  · rename_i hne
    have : ¬ vs.toArray.size = 1 := by
      intro e
      have e' : l.length = 1 := by rw [← h2]; simpa using e
      obtain ⟨x, hx⟩ := List.length_eq_one_iff.1 e'
      exact hne x hx
    rw [dif_neg this]
    exact .tup l _ (by simpa using h2) (fun i x v hx hv => h3 i x v hx (by simpa using hv))

theorem AC_enter {P : Program} {f : FuncId} {fn : Func} {c : Code} {args : List AV} {h : Hp} {ids : List Nat} {R : AV → Hp → Prop} (hf : P.funcs[f]? = some fn) (hb : fn.body = some c) {nt : Nat} (hn : fn.ntmps = nt)
    {rv : List ResultVar} (hrv : fn.results.toList = rv) (hname : (fn.name == "runtime.NumGoroutine") = false) (hle : args.length ≤ nt)
    (H : ∀ w X G, AW P (org w X h G ids nt) c (retQ rv R) (argEnv 0 args) h) : AC P f args h ids R := by
  refine ⟨callable_of hf hb hname, ?_⟩
  intro w X G vs r hl hv
  subst hn
  subst hrv
  refine calls_of_wp hf hb ?_
  have r0 : Rel (org w X h G ids fn.ntmps) (argEnv 0 args) h { tmps := vs.toArray ++ Array.replicate (fn.ntmps - vs.toArray.size) undef, defers := [] } w G := by
    refine ⟨by simp [org]; omega, rfl, fun t => ?_, r.obj, r.dist, r.ext, r.own, r.xlt, r.ids⟩
    rw [lk_argEnv, if_pos (Nat.zero_le _)]
    cases ha : args[t - 0]? with
    | none => exact .any _
    | some x =>
      have ha' : args[t]? = some x := ha
      have hlt : t < vs.length := by rw [hl]; exact (List.getElem?_eq_some_iff.1 ha').1
      have : (vs.toArray ++ Array.replicate (fn.ntmps - vs.toArray.size) undef).getD t undef = vs[t] := by
        rw [Array.getD_eq_getD_getElem?, Array.getElem?_append_left (by simpa using hlt)]
        simp [hlt]
      rw [this]
      exact hv t x _ ha' (List.getElem?_eq_getElem hlt)
  refine Code.wp_mono (fun e a w' => ?_) (H w X G _ w G r0)
  rintro ⟨env, h', G', r', q⟩
  have fin : retQ fn.results.toList R .ret env h' → a.defers = [] ∧ ∃ v, (results fn a.tmps).run P w' = .ok v w' ∧
      ∃ v', ∃ r h'' G', Ending.returned v = .returned v' ∧ Rel (org w X h G ids 0) [] h'' noAct w' G' ∧ Rep w' (XX (org w X h G ids 0) h'' G') G' r v' ∧ R r h'' := by
    intro q
    unfold retQ at q
    simp only at q
    split at q
    · rename_i l hl
      obtain ⟨v, e1, e2⟩ := run_results (P := P) r' fn l hl
      exact ⟨r'.dfr, v, e1, v, resV l, h', G', rfl, ⟨rfl, rfl, fun t => .any _, r'.obj, r'.dist, r'.ext, r'.own, r'.xlt, r'.ids⟩, e2, q⟩
    · exact q.elim
  cases e with
  | ret => exact fin q
  | normal => exact fin q
  | _ => exact False.elim q

theorem ret1 {t : Nat} {R : AV → Hp → Prop} {env : Env} {h : Hp} {av : AV} {Ts : List Nat} (hv : eta [] (lk env t) = some (av, Ts)) (H : R av h) : retQ [.tmp t] R .ret env h := by
  have := eta_inv hv
  subst this
  exact H
theorem gR {rv : List ResultVar} {R : AV → Hp → Prop} {e : Exit} {env : Env} {h : Hp} (K : retQ rv R e env h) : retQ rv R e env h := K
theorem ret0 {R : AV → Hp → Prop} {env : Env} {h : Hp} (H : R (.tup []) h) : retQ [] R .ret env h := H
theorem ret2 {t u : Nat} {R : AV → Hp → Prop} {env : Env} {h : Hp} {x y : AV} {Ts Us : List Nat} (hx : eta [] (lk env t) = some (x, Ts)) (hy : eta [] (lk env u) = some (y, Us)) (H : R (.tup [x, y]) h) : retQ [.tmp t, .tmp u] R .ret env h := by
  have := eta_inv hx
  have := eta_inv hy
  subst x; subst y
  exact H
theorem end1 {t : Nat} {R : AV → Hp → Prop} {env : Env} {h : Hp} {av : AV} {Ts : List Nat} (hv : eta [] (lk env t) = some (av, Ts)) (H : R av h) : retQ [.tmp t] R .normal env h := ret1 hv H
theorem end0 {R : AV → Hp → Prop} {env : Env} {h : Hp} (H : R (.tup []) h) : retQ [] R .normal env h := H

/-! ### a call of a function of the program -/
theorem AC.mono {P : Program} {f : FuncId} {args : List AV} {h : Hp} {ids : List Nat} {R R' : AV → Hp → Prop} (H : AC P f args h ids R) (hr : ∀ r h', R r h' → R' r h') : AC P f args h ids R' :=
  ⟨H.1, fun w X G vs r hl hv => (H.2 w X G vs r hl hv).mono fun _ _ ⟨v, x, h', G', h1, h2, h3, h4⟩ => ⟨v, x, h', G', h1, h2, h3, hr _ _ h4⟩⟩
end Go.SL
