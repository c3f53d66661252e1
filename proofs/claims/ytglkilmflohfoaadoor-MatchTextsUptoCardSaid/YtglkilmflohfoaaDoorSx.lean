/- The layer 'SL': a region whose order is left open, and one of whose operations may meet an object that another one has turned already ('m[k] += v' at a key that is new). -/
import Derived.Test.YtglkilmflohfoaaDoorSv
namespace Go.SL
open Go.RowKit

/-- A chain whose operations' steps are St's. -/
inductive ChainG (St : Nat → Oper → Env → Hp → List Nat → List Nat → AV → Hp → Prop) (P : Program) (O : Org) (all : List Oper) : Nat → List Oper → Env → Hp → List Rc → Env → Hp → Prop
  | nil (k : Nat) (env : Env) (h : Hp) : ChainG St P O all k [] env h [] env h
  | step (k : Nat) (o : Oper) (rest : List Oper) (env : Env) (h : Hp) (Ts Ns : List Nat) (av : AV) (u : Hp) (rs : List Rc) (env' : Env) (h' : Hp) (hw : wantedA all env o = some true) (hs : St k o env h Ts Ns av u)
      (hf : ∀ id ∈ Ns, freshAt id env h) (hr : ChainG St P O all (k + 1) rest (upd env o.dst av) (u ++ h) rs env' h') : ChainG St P O all k (o :: rest) env h (⟨o.dst, av, Ts, Ns, u⟩ :: rs) env' h'
  | skip (k : Nat) (o : Oper) (rest : List Oper) (env : Env) (h : Hp) (rs : List Rc) (env' : Env) (h' : Hp) (hw : wantedA all env o = some false) (hd : dstOk o.dst O.nt = true)
      (hr : ChainG St P O all (k + 1) rest (upd env o.dst (.tup [])) h rs env' h') : ChainG St P O all k (o :: rest) env h (⟨o.dst, .tup [], [], [], []⟩ :: rs) env' h'
/-- one operation of a chain, met in the text's order -/
def MetG (St : Nat → Oper → Env → Hp → List Nat → List Nat → AV → Hp → Prop) (i : Nat) (_P : Program) (O : Org) (all : List Oper) (o : Oper) (r : Rc) (env : Env) (h : Hp) : Prop :=
  r.dst = o.dst ∧ ((wantedA all env o = some true ∧ St i o env h r.Ts r.Ns r.av r.u) ∨ (wantedA all env o = some false ∧ dstOk o.dst O.nt = true ∧ r.av = .tup [] ∧ r.u = []))
theorem ChainG.met {St : Nat → Oper → Env → Hp → List Nat → List Nat → AV → Hp → Prop} {k : Nat} {P : Program} {O : Org} {all rest : List Oper} {env env' : Env} {h h' : Hp} {rs : List Rc} (c : ChainG St P O all k rest env h rs env' h') :
    rest.length = rs.length ∧ env' = foldE (fun _ => true) 0 rs env ∧ h' = foldH (fun _ => true) 0 rs h ∧
      ∀ i o r, rest[i]? = some o → rs[i]? = some r → MetG St (k + i) P O all o r (foldE (fun j => decide (j < i)) 0 rs env) (foldH (fun j => decide (j < i)) 0 rs h) := by
  induction c with
  | nil k env h => exact ⟨rfl, rfl, rfl, fun i o r hi => by simp at hi⟩
  | step k o rest env h Ts Ns av u rs env' h' hw hs hf _ ih =>
    obtain ⟨i1, i2, i3, i4⟩ := ih
    refine ⟨by simp [i1], ?_, ?_, fun i o' r' hi hr => ?_⟩
    · show env' = foldE _ 1 rs _
      rw [foldE_shift]; exact i2
    · show h' = foldH _ 1 rs _
      rw [foldH_shift]; exact i3
    · cases i with
      | zero =>
        simp only [List.getElem?_cons_zero, Option.some.injEq] at hi hr
        subst hi; subst hr
        rw [foldE_none (by intro j; simp), foldH_none (by intro j; simp)]
        exact ⟨rfl, .inl ⟨hw, hs⟩⟩
      | succ i =>
        have := i4 i o' r' (by simpa using hi) (by simpa using hr)
        show MetG St (k + (i + 1)) P O all o' r' (foldE _ (0 + 1) rs _) (foldH _ (0 + 1) rs _)
        rw [foldE_shift, foldH_shift, show k + (i + 1) = k + 1 + i by omega]
        simpa using this
  | skip k o rest env h rs env' h' hw hd _ ih =>
    obtain ⟨i1, i2, i3, i4⟩ := ih
    refine ⟨by simp [i1], ?_, ?_, fun i o' r' hi hr => ?_⟩
    · show env' = foldE _ 1 rs _
      rw [foldE_shift]; exact i2
    · show h' = foldH _ 1 rs _
      rw [foldH_shift]; exact i3
    · cases i with
      | zero =>
        simp only [List.getElem?_cons_zero, Option.some.injEq] at hi hr
        subst hi; subst hr
        rw [foldE_none (by intro j; simp), foldH_none (by intro j; simp)]
        exact ⟨rfl, .inr ⟨hw, hd, rfl, rfl⟩⟩
      | succ i =>
        have := i4 i o' r' (by simpa using hi) (by simpa using hr)
        show MetG St (k + (i + 1)) P O all o' r' (foldE _ (0 + 1) rs _) (foldH _ (0 + 1) rs _)
        rw [foldE_shift, foldH_shift, show k + (i + 1) = k + 1 + i by omega]
        simpa using this

section
variable {P : Program} {O : Org} {Q : Exit → Env → Hp → Prop} {env : Env} {h : Hp} {all : List Oper}

/-! ### one operation reads softly -/
variable {i0 j0 s k : Nat} {ob : AObj} {e0 : Env} {h0 : Hp} {rest : List Oper} {o : Oper} {rs : List Rc}
end
section
open Go.MapKept
variable {P : Program} {O : Org} {T : Tab P} {env : Env} {h : Hp} {o : Oper}
variable {t kt et id : Nat} {x i : Operand} {es : List (Value × AV)} {it : Option (Nat × List Value × Option Value)} {dk : KK} {k : Value} {c : AV}
end
end Go.SL
