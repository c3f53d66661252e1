/- The layer 'SL': from a law's contract to its row. -/
import Derived.Test.YtnfgkccocknloaaSg
import Derived.Below
import Derived.ChangeSame
import Derived.ReadAgain
namespace Go.SL
open Go.RowKit Go.WideShapes Go.ChangeShapes

def OkArg : Bool × List CS → AV → Prop
  | (true, css), x => ∃ ds, x = .agg (ds.map .d) ∧ OkCs css ds
  | (false, [c]), x => ∃ d, x = .d d ∧ OkC c d
  | _, _ => False
def OkArgs : List (Option (Bool × List CS)) → List AV → Prop
  | [], [] => True
  | some k :: ks, x :: xs => OkArg k x ∧ OkArgs ks xs
  | _, _ => False
theorem OkArgs.nil_inv {l : List AV} (h : OkArgs [] l) : l = [] := by cases l with | nil => rfl | cons => exact h.elim
theorem OkArgs.cons_inv {k : Bool × List CS} {ks : List (Option (Bool × List CS))} {l : List AV} (h : OkArgs (some k :: ks) l) : ∃ x r, l = x :: r ∧ OkArg k x ∧ OkArgs ks r := by
  cases l with
  | nil => exact h.elim
  | cons x r => exact ⟨x, r, rfl, h.1, h.2⟩
section
variable {P : Program} (T : Tab P)
def argK (t : Nat) : Option (Bool × List CS) := match T.agg t, shapeF T 12 t with | some b, some css => some (b, css) | _, _ => none

theorem agg_okWide {t : Nat} {b : Bool} {w : World} {r : Reach} {b0 : Nat} {v : Value} (h : T.agg t = some b) (hv : Value.okWide P w r b0 t v) :
    (b = true ∧ ∃ cs, v = .agg cs) ∨ (b = false ∧ v.cells = #[v]) := by
  unfold Tab.agg at h
  cases hd : T.desc t with
  | none => rw [hd] at h; cases h
  | some d =>
    rw [hd] at h
    have hk := T.desc_ok hd
    unfold Value.okWide at hv
    cases d with
    | struct l =>
      obtain ⟨fs, h1, _⟩ := hk
      simp only [Option.some.injEq] at h
      rw [h1] at hv
      obtain ⟨cs, hc, _⟩ := hv
      exact .inl ⟨h.symm, cs, hc⟩
    | array n e =>
      simp only [Option.some.injEq] at h
      have h1 : P.underlying t = _ := hk
      rw [h1] at hv
      obtain ⟨cs, hc, _⟩ := hv
      exact .inl ⟨h.symm, cs, hc⟩
    | other =>
      obtain ⟨d, h1, h2⟩ := hk
      simp only [Option.some.injEq] at h
      refine .inr ⟨h.symm, ?_⟩
      rw [h1] at hv
      cases v with
      | agg cs => cases d <;> first | exact h2.elim | (simp [Cell.okWide, Cell.ok, h1] at hv)
      | _ => rfl
    | _ =>
      simp only [Option.some.injEq] at h
      have h1 : P.underlying t = _ := hk
      rw [h1] at hv
      refine .inr ⟨h.symm, ?_⟩
      cases v with
      | agg cs => simp [Cell.okWide, Cell.ok, h1] at hv
      | _ => rfl

theorem OkC.one {c : CS} {x : D} (_h : OkC c x) {w : World} {X : Nat → Prop} {v : Value} (hr : RepD w X x v) : v.oneCell' = true := hr.one

theorem args_open {H : Type} {enc : TypeId × Value → H} {w : World} {sp : Nat → Bool} {held : Bool} {r : Reach} {b0 : Nat} {G : Ctx} : ∀ (ts : List Nat) (vs : List Value) (ds : List (DataW H)) (ps : List MemPlace), DataW.TrodAll enc P w 0 sp held ts vs ds ps →
    (∀ (j : Nat) (t : Nat) (v : Value), ts[j]? = some t → vs[j]? = some v → Value.okWide P w r b0 t v) → (∀ t ∈ ts, ∃ k, argK T t = some k) → (∀ n ∈ DataW.weightsEach P ts ds, n ≤ reachBytes) →
    ∃ args, OkArgs (ts.map (argK T)) args ∧ vs.length = args.length ∧ ∀ (i : Nat) (x : AV) (v : Value), args[i]? = some x → vs[i]? = some v → Rep w (fun _ => False) G x v
  | [], [], [], _, _, _, _, _ => ⟨[], trivial, rfl, fun i x v h => by simp at h⟩
  | t :: ts, v :: vs, d :: ds, ps, ⟨p, q, ⟨fuel, h1⟩, h2, _⟩, hok, hk, hwt => by
    obtain ⟨args, a1, a2, a3⟩ := args_open ts vs ds q h2 (fun j t v ht hv => hok (j + 1) t v (by simpa using ht) (by simpa using hv)) (fun t ht => hk t (by simp [ht])) (fun n hn => hwt n (by simp only [DataW.weightsEach, List.mem_append]; exact .inr hn))
    obtain ⟨k, hk0⟩ := hk t (by simp)
    have hv := hok 0 t v rfl rfl
    unfold argK at hk0
    cases hg : T.agg t with
    | none => rw [hg] at hk0; cases hk0
    | some b =>
      rw [hg] at hk0
      cases hs : shapeF T 12 t with
      | none => rw [hs] at hk0; cases hk0
      | some css =>
        have hkk : argK T t = some (b, css) := by unfold argK; rw [hg, hs]
        obtain ⟨e1, dd, e2, e3⟩ := trod_open T fuel t v.cells.toList _ h1 (fun n hn => hwt n (by simp only [DataW.weightsEach, List.mem_append]; exact .inl hn)) 12 css hs
        obtain ⟨e4, e5⟩ := e3.at
        have hx : ∃ x, OkArg (b, css) x ∧ Rep w (fun _ => False) G x v := by
          rcases agg_okWide T hg hv with ⟨rfl, cs, rfl⟩ | ⟨rfl, hc⟩
          · refine ⟨.agg (dd.map .d), ⟨dd, rfl, e2⟩, .agg _ cs (by simp; simpa [Value.cells] using e4) (fun i c u hc hu => ?_) (fun i u hu => ?_)⟩
            · rw [List.getElem?_map] at hc
              obtain ⟨y, hy, rfl⟩ := Option.map_eq_some_iff.1 hc
              exact .d _ _ (e5 i y u hy (by simpa [Value.cells] using hu))
            · have hlt : i < dd.length := by have := (Array.getElem?_eq_some_iff.1 hu).1; simp [Value.cells] at e4; omega
              exact (e5 i _ u (List.getElem?_eq_getElem hlt) (by simpa [Value.cells] using hu)).one
          · rw [hc] at e1 e4 e5
            simp at e1 e4
            obtain ⟨c, rfl⟩ := List.length_eq_one_iff.1 e1.symm
            obtain ⟨y, rfl⟩ := List.length_eq_one_iff.1 e4.symm
            exact ⟨.d y, ⟨y, rfl, e2.1⟩, .d _ _ (e5 0 y v rfl (by simp))⟩
        obtain ⟨x, x1, x2⟩ := hx
        refine ⟨x :: args, ?_, by simp [a2], fun i y u hy hu => ?_⟩
        · show OkArgs (argK T t :: ts.map (argK T)) (x :: args)
          rw [hkk]
          exact ⟨x1, a1⟩
        · cases i with
          | zero => simp at hy hu; subst hy; subst hu; exact x2
          | succ i => exact a3 i y u (by simpa using hy) (by simpa using hu)
  | [], _ :: _, _, _, h, _, _, _ => by cases h
  | [], [], _ :: _, _, h, _, _, _ => by cases h
  | _ :: _, [], _, _, h, _, _, _ => by cases h
  | _ :: _, _ :: _, [], _, h, _, _, _ => by cases h

theorem trodAll_below {H : Type} {enc : TypeId × Value → H} {w w' : World} {sp : Nat → Bool} {held : Bool} (hb : Below w.heap.size w w') : ∀ (ts : List Nat) (vs : List Value) (ds : List (DataW H)) (ps : List MemPlace),
    DataW.TrodAll enc P w 0 sp held ts vs ds ps → (∀ p ∈ ps, p.block < w.heap.size) → DataW.TrodAll enc P w' 0 sp held ts vs ds ps
  | [], [], [], _, h, _ => h
  | t :: ts, v :: vs, d :: ds, ps, ⟨p, q, ⟨fuel, h1⟩, h2, e⟩, hp => by
    subst e
    exact ⟨p, q, ⟨fuel, DataW.trod_carry fuel t _ _ h1 (fun x hx => hb.same (hp x (by simp at hx ⊢; exact .inl hx)))⟩, trodAll_below hb ts vs ds q h2 (fun x hx => hp x (by simp [hx])), rfl⟩
  | [], _ :: _, _, _, h, _ => by cases h
  | [], [], _ :: _, _, h, _ => by cases h
  | _ :: _, [], _, _, h, _ => by cases h
  | _ :: _, _ :: _, [], _, h, _ => by cases h

abbrev AnyTrue {H : Type} (s : ChangeSpec) (n : Nat) : Prop := ∀ ds : List (DataW H), ds.length = n → s.fn H ds = { results := [.lit (.bool true)], args := ds }
theorem trodAll_len {H : Type} {enc : TypeId × Value → H} {w : World} {sp : Nat → Bool} {held : Bool} : ∀ (ts : List Nat) (vs : List Value) (ds : List (DataW H)) (ps : List MemPlace), DataW.TrodAll enc P w 0 sp held ts vs ds ps → ds.length = ts.length
  | [], [], [], _, _ => rfl
  | t :: ts, v :: vs, d :: ds, ps, ⟨p, q, _, h2, _⟩ => by simp [trodAll_len ts vs ds q h2]
  | [], _ :: _, _, _, h => by cases h
  | [], [], _ :: _, _, h => by cases h
  | _ :: _, [], _, _, h => by cases h
  | _ :: _, _ :: _, [], _, h => by cases h

theorem wEach_append {H : Type} : ∀ (ts us : List Nat) (ds : List (DataW H)), ds.length = ts.length → DataW.weightsEach P (ts ++ us) ds = DataW.weightsEach P ts ds
  | [], us, [], _ => by cases us <;> simp [DataW.weightsEach]
  | t :: ts, us, d :: ds, h => by simp only [List.cons_append, DataW.weightsEach]; rw [wEach_append ts us ds (by simpa using h)]
  | [], _, _ :: _, h => by simp at h
  | _ :: _, _, [], h => by simp at h
/-- The row's step. -/
theorem law_contract {TT : TypeId → Prop} (K : Kids P TT) (hz : ∀ t e, TT t → P.underlying t = some (.slice e) → 0 < P.cellsOf e) {f : FuncId} {fn : Func} {s : ChangeSpec} {ts : List Nat} (hts : fn.params.toList = ts) {rt : Nat} (hrt : fn.resultTypes = #[rt]) (hu : T.desc rt = some .bool) (hvars : s.vars = [])
    (hT : ∀ t ∈ ts, TT t) (hk : ∀ t ∈ ts, ∃ k, argK T t = some k) {H : Type} {enc : TypeId × Value → H} (hs : AnyTrue (H := H) s ts.length)
    (C : ∀ args, OkArgs (ts.map (argK T)) args → AC P f args [] [] (fun r _ => r = .d (.sc (.bool true))))
    (W : World) (base : Nat) (args : Array Value) (ds gs : List (DataW H)) (before : List MemPlace)
    (hval : ∀ (j : Nat) t v, fn.params[j]? = some t → args[j]? = some v → Value.okWide P W .any base t v)
    (hW : DataW.Whole enc P fn.params.toList s.vars false W args.toList ds gs before)
    (hsz : (DataW.weightsEach P (fn.params.toList ++ s.plain.varTypes P) (ds ++ gs)).all (· ≤ reachBytes) = true) :
    Calls P f args W fun e W' => ∃ v, e = .returned v ∧ s.post enc P fn false true false false W args v W' := by
  have hW' := hW
  obtain ⟨p, q, hA, hV, hps, hfz, hnd⟩ := hW
  rw [hvars] at hV
  have hgs : gs = [] ∧ q = [] := by
    cases gs with
    | nil => exact ⟨rfl, hV⟩
    | cons => exact hV.elim
  obtain ⟨rfl, rfl⟩ := hgs
  rw [List.append_nil] at hps
  subst hps
  rw [hts] at hA
  obtain ⟨as, o1, o2, o3⟩ := args_open (r := .any) (b0 := base) (G := ⟨fun _ => undef, fun _ => 0⟩) T ts args.toList ds before hA (fun j t v ht hv => hval j t v (by rw [← hts] at ht; simpa using ht) (by simpa using hv)) hk (fun n hn => by
      rw [hts, List.append_nil, wEach_append _ _ _ (trodAll_len ts _ _ _ hA)] at hsz
      simpa using List.all_eq_true.1 hsz n hn)
  have hO : ∀ b, ¬ Own ([] : Hp) ⟨fun _ => undef, fun _ => 0⟩ b := fun b hb => by obtain ⟨id, o, h1, _⟩ := hb; cases h1
  have r0 : Rel (org W (fun _ => False) [] ⟨fun _ => undef, fun _ => 0⟩ [] 0) [] [] noAct W ⟨fun _ => undef, fun _ => 0⟩ :=
    ⟨rfl, rfl, fun t => .any _, fun id o ho => (by cases ho), fun id o j id' o' j' b h1 => (by cases h1), Ext.refl _ W, fun b hb => (hO b hb).elim, fun b hb => hb.elim, fun id _ => rfl⟩
  have hC := (C as o1).2 W (fun _ => False) ⟨fun _ => undef, fun _ => 0⟩ args.toList r0 o2 (fun i x v hx hv => (o3 i x v hx hv).ext (Ext.refl (fun _ => False) W) (fun _ _ h => h.elim) (fun b _ hb => by
    rcases hb with h | h
    · exact h
    · exact (hO b h).elim) (GStep.refl _))
  rw [Array.toArray_toList] at hC
  refine hC.mono ?_
  rintro e W' ⟨v, r, h', G', rfl, hr, hrep, rfl⟩
  have hv := hrep.sc_inv
  subst hv
  have hb : Below W.heap.size W W' := hr.ext.toBelow (fun b _ hb => hO b hb)
  have hlt : ∀ p ∈ before, p.block < W.heap.size := fun p hp => hW'.lt p hp
  have hlen := trodAll_len ts _ _ _ hA
  have hfn : s.fn H (ds ++ []) = { results := [.lit (.bool true)], args := ds } := by rw [List.append_nil]; exact hs ds hlen
  have hres : ∀ (b : Nat) (sp : Nat → Bool) (hd : Bool), DataW.TrodAll enc P W' b sp hd fn.resultTypes.toList ((Value.bool true).resultList fn.resultTypes.size) (s.fn H (ds ++ [])).results [] := by
    intro b sp hd
    rw [hfn, hrt]
    exact trodAll_cons_mk (shut_bool (T.desc_ok hu) _) trodAll_mk0
  have hread : ∀ sp : Nat → Bool, (∀ p ∈ before, sp p.block = true) → DataW.TrodAll enc P W' 0 sp true fn.params.toList args.toList (s.fn H (ds ++ [])).args before := by
    intro sp hsp
    rw [hfn, hts]
    exact trodAll_below hb ts _ _ _ (hA.respare K hz hT hsp) hlt
  refine ⟨_, rfl, ds, [], before, [], before, [], hW', hres _ _ _, hread _ (fun p hp => by simpa using hlt p hp), by rw [hvars, hfn]; exact rfl, World.keptBut_mono (fun p hp => ⟨hp, .inr (.inl hp)⟩) (hb.frame (· ∈ before)), fun h => by cases h⟩
end
end Go.SL
