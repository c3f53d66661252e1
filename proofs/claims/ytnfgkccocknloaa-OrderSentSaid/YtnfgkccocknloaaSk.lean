/- The layer 'SL': loops of so many rounds; callbacks. -/
import Derived.Test.YtnfgkccocknloaaSj
import Derived.LoopN
namespace Go.SL
open Go.RowKit

section
variable {P : Program} {O : Org} {T : Tab P} {Q : Exit → Env → Hp → Prop} {env : Env} {h : Hp} {o : Oper}

def RoundsA (P : Program) (O : Org) (c : Code) (Q : Exit → Env → Hp → Prop) : Nat → Env → Hp → Prop
  | 0, _, _ => False
  | n + 1, env, h => AW P O c (thenQ (RoundsA P O c Q n) Q) env h
theorem rounds_of {c : Code} : ∀ (n : Nat) {env : Env} {h : Hp}, RoundsA P O c Q n env h → ∀ a w G, Rel O env h a w G → Code.rounds P c (lift O Q) n a w
  | 0, _, _, H, _, _, _, _ => H.elim
  | n + 1, env, h, H, a, w, G, r => by
    refine Code.wp_mono (fun e a' w' => ?_) (H a w G r)
    rintro ⟨env', h', G', r', q⟩
    cases e with
    | normal => exact rounds_of n q a' w' G' r'
    | _ => exact ⟨env', h', G', r', q⟩
/-- A loop of at most n rounds. -/
theorem AW_rounds {c : Code} (n : Nat) (H : RoundsA P O c Q n env h) : AW P O (.loop c) Q env h := fun a w G r => wp_loop_rounds n (rounds_of n H a w G r)
theorem rounds_step {c : Code} {n : Nat} (H : AW P O c (thenQ (RoundsA P O c Q n) Q) env h) : RoundsA P O c Q (n + 1) env h := H

theorem gRd {c : Code} {n : Nat} (H : RoundsA P O c Q (n + 1) env h) : RoundsA P O c Q (n + 1) env h := H
def dropE (ks : List Nat) : Env → Env
  | [] => []
  | (t, v) :: r => bif hasN ks t then dropE ks r else (t, v) :: dropE ks r
def dropH (ks : List Nat) : Hp → Hp
  | [] => []
  | (t, v) :: r => bif hasN ks t then dropH ks r else (t, v) :: dropH ks r
theorem lk_dropE (ks : List Nat) : ∀ (env : Env) (t : Nat), lk (dropE ks env) t = lk env t ∨ lk (dropE ks env) t = .any
  | [], _ => .inl rfl
  | (s, v) :: r, t => by
    unfold dropE
    cases hk : hasN ks s with
    | true =>
      simp only [cond_true]
      by_cases e : s = t
      · subst e
        right
        have key : ∀ r : Env, lk (dropE ks r) s = .any := by
          intro r
          induction r with
          | nil => rfl
          | cons p r ih =>
            obtain ⟨q, u⟩ := p
            unfold dropE
            cases hq : hasN ks q with
            | true => exact ih
            | false =>
              simp only [cond_false]
              rw [lk_cons, if_neg (fun e => by subst e; rw [hk] at hq; cases hq)]
              exact ih
        exact key r
      · rcases lk_dropE ks r t with h | h
        · left; rw [h, lk_cons, if_neg e]
        · exact .inr h
    | false =>
      simp only [cond_false]
      rw [lk_cons, lk_cons]
      by_cases e : s = t
      · rw [if_pos e, if_pos e]; exact .inl rfl
      · rw [if_neg e, if_neg e]; exact lk_dropE ks r t
theorem hget_dropH (ks : List Nat) : ∀ (h : Hp) (id : Nat) (o : AObj), hget (dropH ks h) id = some o → hget h id = some o := by
  have key : ∀ (h : Hp) (id : Nat), hasN ks id = true → hget (dropH ks h) id = none := by
    intro h id hk
    induction h with
    | nil => rfl
    | cons p r ih =>
      obtain ⟨q, u⟩ := p
      unfold dropH
      cases hq : hasN ks q with
      | true => exact ih
      | false =>
        simp only [cond_false]
        rw [hget_cons, if_neg (fun e => by subst e; rw [hk] at hq; cases hq)]
        exact ih
  intro h
  induction h with
  | nil => intro id o ho; cases ho
  | cons p r ih =>
    obtain ⟨s, v⟩ := p
    intro id o ho
    by_cases e : s = id
    · subst e
      cases hk : hasN ks s with
      | true => rw [key _ s hk] at ho; cases ho
      | false =>
        unfold dropH at ho
        rw [hk] at ho
        simp only [cond_false] at ho
        rw [hget_cons, if_pos rfl] at ho ⊢
        exact ho
    · rw [hget_cons, if_neg e]
      unfold dropH at ho
      cases hk : hasN ks s with
      | true => rw [hk] at ho; exact ih id o ho
      | false =>
        rw [hk] at ho
        simp only [cond_false] at ho
        rw [hget_cons, if_neg e] at ho
        exact ih id o ho
/-- a round, what the one before it left forgotten -/
theorem rounds_stepD (ks ids : List Nat) {c : Code} {n : Nat} (H : AW P O c (thenQ (RoundsA P O c Q n) Q) (dropE ks env) (dropH ids h)) : RoundsA P O c Q (n + 1) env h :=
  fun a w G r => H a w G (r.weak (lk_dropE ks env) (hget_dropH ids h))

def plainB (hc : Hp) (ids : List Nat) : Bool := hc.all fun p => match p.2 with
  | some o => onlyO (keysH hc) o && hasN ids p.1
  | none => false
theorem plain_of {hc : Hp} {ids : List Nat} (hp : plainB hc ids = true) : Plain hc ids := by
  unfold plainB at hp
  rw [List.all_eq_true] at hp
  have hs : ∀ p ∈ hc, ∃ o, p.2 = some o := fun p hm => by
    have := hp p hm
    cases hq : p.2 with
    | none => rw [hq] at this; cases this
    | some o => exact ⟨o, rfl⟩
  intro id o ho
  obtain ⟨_, hm⟩ := mem_keysH ho
  have := hp _ hm
  simp only [Bool.and_eq_true] at this
  obtain ⟨e1, e2⟩ := onlyO_spec this.1
  exact ⟨e1, hasN_mem.1 this.2, fun j hj => hget_of_key hs (e2 j hj)⟩
/-- a call in the caller's own names: of a callback -/
theorem LStep_callB {f : FuncId} {args : List AV} {hc : Hp} {ids : List Nat} {rv : AV} (C : AC P f args hc ids (fun r h' => r = rv ∧ Kp hc h')) (ha : callA env o.op = some (f, args)) (hd : dstOk o.dst O.nt = true) (hin : SubH hc h) (hp : plainB hc ids = true)
    (hn : noid rv = true) : LStep P O o env h (keysH hc) [] rv [] := LStep_callI C ha hd hin.each (plain_of hp) hn
theorem Kp.refl (h : Hp) : Kp h h := fun _ _ ho => ho
theorem Kp.sub {hc h : Hp} (H : SubH hc h) : Kp hc h := H.each
/-- what keeps all of a list's objects, as 'SubH' -/
def distinctK : Hp → Bool
  | [] => true
  | (t, _) :: r => !hasN (keysH r) t && distinctK r
theorem sub_of_kp : ∀ {hc h : Hp}, distinctK hc = true → Kp hc h → SubH hc h
  | [], _, _, _ => trivial
  | (t, v) :: r, h, hd, k => by
    simp only [distinctK, Bool.and_eq_true, Bool.not_eq_true'] at hd
    refine ⟨?_, sub_of_kp hd.2 (fun id o ho => k id o ?_)⟩
    · cases v with
      | none => trivial
      | some o => exact k t o (by rw [hget_cons, if_pos rfl])
    · rw [hget_cons, if_neg ?_]
      · exact ho
      · intro e
        subst e
        have := (mem_keysH ho).1
        rw [hasN_mem.2 this] at hd
        exact absurd hd.1 (by simp)
theorem AC.kp {f : FuncId} {args : List AV} {hc : Hp} {ids : List Nat} {rv : AV} (C : AC P f args hc ids (fun r h' => r = rv ∧ Kp hc h')) (hd : distinctK hc = true) : AC P f args hc ids (fun r h' => r = rv ∧ SubH hc h') :=
  C.mono fun _ _ ⟨e, k⟩ => ⟨e, sub_of_kp hd k⟩

/-! ### the same laws, what they leave written out -/
theorem LStep_storeN {t n id q : Nat} {x y : Operand} {cs vs cs' : List AV} (ho : o.op = .store t x y) (hd : o.dst = none) (hn : T.size t = some n) (hx : evalA env x = .ptr id q) (hh : hget h id = some (.cells cs)) (hv : cellsA (evalA env y) = some vs)
    (hl : vs.length = n) (hfit : q + n ≤ cs.length) (he : etaL (setsA cs q vs) = some cs') : LStep P O o env h [id] [] (.tup []) [(id, some (.cells cs'))] :=
  etaL_inv he ▸ LStep_store (T := T) ho hd hn hx hh hv hl hfit
theorem LStep_buildN {t : Nat} {parts : Array (Nat × Operand)} {l pl : List (Nat × Nat)} {zs out out' : List AV} (ho : o.op = .build t parts) (hT : T.desc t = some (.struct l)) (hpl : placesOf T l = some pl) (hz : T.zeroC t = some zs)
    (hf : fillA pl zs (parts.toList.map fun p => (p.1, evalA env p.2)) = some out) (hd : dstOk o.dst O.nt = true) (he : etaL out = some out') : LStep P O o env h [] [] (.agg out') [] :=
  etaL_inv he ▸ LStep_build (T := T) ho hT hpl hz hf hd
theorem LStep_allocN {t id : Nat} {cs cs' : List AV} (ho : o.op = .alloc t) (hd : o.dst = some id) (hn : dstOk (some id) O.nt = true) (hc : T.zeroC t = some cs) (hi : O.ids.contains id = false) (he : etaL cs = some cs') :
    LStep P O o env h [] [id] (.ptr id 0) [(id, some (.cells cs'))] := etaL_inv he ▸ LStep_alloc (T := T) ho hd hn hc hi
theorem LStep_boxN {t id : Nat} {x : Operand} {cs cs' : List AV} (ho : o.op = .box t x) (hd : o.dst = some id) (hn : dstOk (some id) O.nt = true) (hc : cellsA (evalA env x) = some cs) (hi : O.ids.contains id = false) (he : etaL cs = some cs') :
    LStep P O o env h [] [id] (.ptr id 0) [(id, some (.cells cs'))] := etaL_inv he ▸ LStep_box ho hd hn hc hi
theorem LStep_callHN {f : FuncId} {args : List AV} {hc hr hr' : Hp} {ids : List Nat} {rv rv' : AV} {Ts : List Nat} (pi pn : List (Nat × Nat)) (C : AC P f args hc ids (fun r h' => r = rv ∧ SubH hr h')) (ha : callA env o.op = some (f, ren.renL (asg pi) args)) (hd : dstOk o.dst O.nt = true)
    (hin : AllIn (asg pi) h hc) (hk : callOk O ids hc hr rv pi pn = true) (hl : LenIn hr hc) (he : eta [] (ren (asg (pi ++ pn)) rv) = some (rv', Ts)) (hh : renH (asg (pi ++ pn)) hr = hr') :
    LStep P O o env h ((keysH hc).map (asg pi)) (pn.map (·.2)) rv' hr' := eta_inv he ▸ hh ▸ LStep_callH pi pn C ha hd hin hk hl
end
end Go.SL
