/- The layer 'SL': a call that reads an own row. -/
import Derived.Test.YtjlblnplofgpnaaGreatDoorSz
namespace Go.SL
open Go.RowKit

def flat : AV → Bool
  | .d (.sc _) => true
  | .agg cs | .tup cs => flatL cs
  | _ => false
where
  flatL : List AV → Bool
    | [] => true
    | c :: r => flat c && flatL r
theorem flatL_mem : ∀ {cs : List AV}, flat.flatL cs = true → ∀ {i : Nat} {c : AV}, cs[i]? = some c → flat c = true
  | [], _, i, c, h => by simp at h
  | a :: r, h, i, c, hc => by
    unfold flat.flatL at h
    rw [Bool.and_eq_true] at h
    cases i with
    | zero => simp at hc; rw [← hc]; exact h.1
    | succ i => exact flatL_mem h.2 (by simpa using hc)
theorem flat_rep {w w' : World} {X X' : Nat → Prop} {G G' : Ctx} {x : AV} {v : Value} (h : Rep w X G x v) : flat x = true → Rep w' X' G' x v := by
  induction h with
  | any v => intro hf; cases hf
  | d x v h =>
    intro hf
    cases h with
    | sc v h1 => exact .d _ _ (.sc _ h1)
    | sl => cases hf
  | agg cs vs hs _ h1 ih => exact fun hf => .agg cs vs hs (fun i c v hc hv => ih i c v hc hv (flatL_mem (by unfold flat at hf; exact hf) hc)) h1
  | tup cs vs hs _ ih => exact fun hf => .tup cs vs hs (fun i c v hc hv => ih i c v hc hv (flatL_mem (by unfold flat at hf; exact hf) hc))
  | ro => intro hf; cases hf
  | roa => intro hf; cases hf
  | sla => intro hf; cases hf
  | fn => intro hf; cases hf
  | ptr => intro hf; cases hf
  | own => intro hf; cases hf
  | eptr => intro hf; cases hf
  | part => intro hf; cases hf
  | mp => intro hf; cases hf
  | it => intro hf; cases hf
/-- the arguments as they are seen: an own row as what it holds -/
def ViewL (id n sz : Nat) (es : List (List D)) : List AV → List AV → Prop
  | [], [] => True
  | x :: xs, y :: ys => (x = y ∨ (x = .own id n ∧ y = .d (.sl sz es))) ∧ ViewL id n sz es xs ys
  | _, _ => False
theorem ViewL.get {id n sz : Nat} {es : List (List D)} : ∀ {xs ys : List AV}, ViewL id n sz es xs ys → xs.length = ys.length ∧ ∀ (i : Nat) (y : AV), ys[i]? = some y → ∃ x, xs[i]? = some x ∧ (x = y ∨ (x = .own id n ∧ y = .d (.sl sz es)))
  | [], [], _ => ⟨rfl, fun i y h => by simp at h⟩
  | [], y :: ys, h => h.elim
  | x :: xs, [], h => h.elim
  | x :: xs, y :: ys, h => by
    obtain ⟨h1, h2⟩ := ViewL.get h.2
    refine ⟨by simp [h1], fun i z hz => ?_⟩
    cases i with
    | zero =>
      simp at hz
      subst hz
      exact ⟨x, rfl, h.1⟩
    | succ i => exact h2 i z (by simpa using hz)
section
variable {P : Program} {O : Org} {o : Oper} {env : Env} {h : Hp}
/-- a call of a function that needs no object, and reads an own row; what it tells is flat -/
theorem LStep_callR {f : FuncId} {args args' : List AV} {rv : AV} (id : Nat) {n e sz : Nat} {es : List (List D)} (C : AC P f args' [] [] (fun r _ => r = rv)) (ha : callA env o.op = some (f, args)) (hd : dstOk o.dst O.nt = true)
    (hh : hget h id = some (.arr e sz es)) (hn : es.length = n) (hv : ViewL id n sz es args args') (hf : flat rv = true) : LStep P O o env h [id] [] rv [] := by
  intro env' h' he ht _ a w G r K Q hK
  have hh' : hget h' id = some (.arr e sz es) := (ht id (List.mem_singleton.2 rfl)).trans hh
  obtain ⟨d1, d2⟩ := r.drop hh'
  have hob := r.obj id _ hh'
  obtain ⟨vs, hrun, hlen, hrep⟩ := run_callA ha C.1 he r
  obtain ⟨l1, l2⟩ := hv.get
  have r0 : Rel (org w (XX O ((id, none) :: h') G) [] G [] 0) [] [] noAct w G :=
    ⟨rfl, rfl, fun t => .any _, fun id o ho => (by cases ho), fun id o j id' o' j' b h1 => (by cases h1), Ext.refl _ w, fun b hb => (by obtain ⟨id, o, h1, _⟩ := hb; cases h1), fun b hb => ⟨r.lt (d1 b hb), fun ⟨id, o, h1, _⟩ => (by cases h1)⟩, fun id hid => (by cases hid)⟩
  unfold Oper.wp
  rw [hrun]
  show Calls P f vs.toArray w _
  refine (C.2 w (XX O ((id, none) :: h') G) G vs r0 (hlen.trans l1) (fun i y v hy hvv => ?_)).mono ?_
  · obtain ⟨x, hx, hxy⟩ := l2 i y hy
    have h1 := hrep i x v hx hvv
    have hX : ∀ b, b < w.heap.size → XX (org w (XX O ((id, none) :: h') G) [] G [] 0) [] G b → XX O ((id, none) :: h') G b := fun b _ hb => by
      rcases hb with hb | ⟨id, o, h1, _⟩
      · exact hb
      · cases h1
    rcases hxy with rfl | ⟨rfl, rfl⟩
    · exact h1.ext (Ext.refl (fun _ => False) w) (fun _ _ h => h.elim) (fun b hb hc => d1 b (hX b hb hc)) (GStep.refl G)
    · cases h1 with
      | own _ _ _ _ _ _ hvv =>
        rw [hvv (by rw [hob.1, hn])]
        exact .d _ _ ((own_sl hob (fun b _ hb => d1 b hb) (fun b hb => d2 b hb (r.xNot hh' hb))).ext (Ext.refl (fun _ => False) w) (fun _ _ h => h.elim) hX)
  · rintro e w' ⟨v, x, h'', G', rfl, h2, h3, rfl⟩
    have rk : Rel O env' h' a w' G := r.keep (h2.ext.mono (fun b _ hb => by obtain ⟨id, o, h1, _⟩ := hb; cases h1))
    exact hK v w' G (rk.put hd (flat_rep h3 hf))
end
end Go.SL
