import Derived.Test.YtglkilmflohfoaaDoorQ4
namespace Go.Proofs.YtglkilmflohfoaaDoor
open Go.SL

/-! ### structures that are built with a nil slice within -/
section
variable {P : Program} {O : Org} {o : Oper} {env : Env} {h : Hp}
theorem coeL_agg {xs ys : List AV} (hc : CoeL xs ys) {w : World} {X : Nat → Prop} {G : Ctx} {v : Value} (hr : Rep w X G (.agg xs) v) : Rep w X G (.agg ys) v := by
  obtain ⟨h1, h2⟩ := hc.at
  cases hr with
  | agg cs vs hs hv h1' =>
    exact .agg _ vs (by omega) (fun i y v hy hi => by
      obtain ⟨x, hx, hxy⟩ := h2 i y hy
      exact hxy.rep (hv i x v hx hi)) h1'
theorem lstep_coeR {Ts Ns : List Nat} {av av2 : AV} {u : Hp} (H : LStep P O o env h Ts Ns av u) (hc : ∀ w X G v, Rep w X G av v → Rep w X G av2 v) : LStep P O o env h Ts Ns av2 u := by
  intro env' h' ho ht hf a w G r K Q hK
  refine H env' h' ho ht hf a w G r K Q (fun v w' G' r' => hK v w' G' ⟨r'.size, r'.dfr, fun s => ?_, r'.obj, r'.dist, r'.ext, r'.own, r'.xlt, r'.ids⟩)
  have h1 := r'.env s
  revert h1
  generalize (a.put o.dst v).tmps.getD s undef = x
  cases o.dst with
  | none => exact id
  | some d =>
    show Rep _ _ _ (lk ((d, av) :: env') s) _ → Rep _ _ _ (lk ((d, av2) :: env') s) _
    rw [lk_cons, lk_cons]
    by_cases e : d = s
    · rw [if_pos e, if_pos e]; exact hc _ _ _ _
    · rw [if_neg e, if_neg e]; exact id
theorem LStep_buildC {T : Tab P} {t : Nat} {parts : Array (Nat × Operand)} {l pl : List (Nat × Nat)} {zs out out' : List AV} (ho : o.op = .build t parts) (hT : T.desc t = some (.struct l)) (hpl : placesOf T l = some pl) (hz : T.zeroC t = some zs)
    (hf : fillA pl zs (parts.toList.map fun p => (p.1, evalA env p.2)) = some out) (hd : dstOk o.dst O.nt = true) (hc : CoeL out out') : LStep P O o env h [] [] (.agg out') [] :=
  lstep_coeR (LStep_build (T := T) ho hT hpl hz hf hd) (fun _ _ _ _ hr => coeL_agg hc hr)
end

/-! ### what books are, mended -/
structure StaysM (a b M : List Post) : Prop where
  u1 : unlikeN M a = []
  m1 : isortP (mixL M a) = M
  u2 : unlikeN b M = []
  m2 : isortP (mixL b M) = M
  o1 : onlyL a M = []
  o2 : onlyL b M = []
  u3 : unlikeN M b = []
  l1 : (onlyL M a).length = (onlyL b a).length
  l2 : (onlyL M b).length = (onlyL a b).length
  lt : M.Pairwise (fun x y => x.number < y.number)
end Go.Proofs.YtglkilmflohfoaaDoor
