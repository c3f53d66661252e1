/- From a law's contract to its row, where a table of the library is read (laid by the row) and what is read is of small bulk; posts among the arguments, read. -/
import Derived.Test.YtglkilmflohfoaaDoorKV
import Derived.Test.YtglkilmflohfoaaDoorSh
import Derived.Test.YtglkilmflohfoaaDoorTie
import Derived.Test.YtglkilmflohfoaaDoorCards
import Derived.WalkKit
import Derived.ProofKit
import Derived.OpenShut
import Derived.Deep.DeepHandedRow
import Derived.Lib.LaidTab
import Derived.LaidMore
import Derived.Lay
namespace Go.SL
open Go.RowKit Go.WideShapes Go.ChangeShapes Go.Proofs.YtglkilmflohfoaaDoor
/-- a cell's shape that no block of ints alone can bear -/
def goodU : CS → Bool
  | .sl _ _ cs => anyNU cs && goodLU cs
  | _ => true
where
  anyNU : List CS → Bool
    | [] => false
    | .int .u64 :: r => anyNU r
    | _ :: _ => true
  goodLU : List CS → Bool
    | [] => true
    | c :: r => goodU c && goodLU r
theorem goodLU_at : ∀ {cs : List CS} {j : Nat} {c : CS}, goodU.goodLU cs = true → cs[j]? = some c → goodU c = true
  | [], j, c, _, h => by simp at h
  | a :: r, 0, c, hg, h => by
    simp only [List.getElem?_cons_zero, Option.some.injEq] at h
    subst h
    rw [goodU.goodLU, Bool.and_eq_true] at hg
    exact hg.1
  | a :: r, j + 1, c, hg, h => by
    rw [goodU.goodLU, Bool.and_eq_true] at hg
    exact goodLU_at hg.2 (by simpa using h)
theorem anyNU_at : ∀ {cs : List CS}, goodU.anyNU cs = true → ∃ (j : Nat) (c : CS), cs[j]? = some c ∧ c ≠ .int .u64
  | [], h => by cases h
  | c :: r, h => by
    by_cases hc : c = .int .u64
    · subst hc
      obtain ⟨j, c, h1, h2⟩ := anyNU_at (cs := r) h
      exact ⟨j + 1, c, by simpa using h1, h2⟩
    · exact ⟨0, c, rfl, hc⟩
theorem RepD.avoidU {w : World} {X : Nat → Prop} {b0 : Nat} (hint : ∀ off v, w.cell? ⟨b0, off, none⟩ = some v → ∃ n, v = .int .u64 n) {x : D} {v : Value} (h : RepD w X x v) : ∀ {c : CS}, OkC c x → goodU c = true → RepD w (fun b => X b ∨ b = b0) x v := by
  induction h with
  | sc v h1 => exact fun _ _ => .sc v h1
  | sl sz es A n c b off vs hn hcap hA hsz hcell hrep ih =>
    intro cs hok hg
    cases hok with
    | sl _ bs ks _ hl hz he =>
      rw [goodU, Bool.and_eq_true] at hg
      refine .sl sz es A n c b off vs hn hcap (fun h0 => ?_) hsz hcell (fun i e hi j x hj => ?_)
      · obtain ⟨e1, e2, e3⟩ := hA h0
        refine ⟨e1, e2, fun hx => ?_⟩
        rcases hx with hx | rfl
        · exact e3 hx
        · obtain ⟨j, k, hj, hk⟩ := anyNU_at hg.1
          have h0' : 0 < es.length := by omega
          have hi : es[0]? = some es[0] := List.getElem?_eq_getElem h0'
          have hlen := hz es[0] (List.getElem_mem h0')
          have hjl : j < es[0].length := by rw [hlen]; exact (List.getElem?_eq_some_iff.1 hj).1
          obtain ⟨y, hx⟩ : ∃ y, es[0][j]? = some y := ⟨_, List.getElem?_eq_getElem hjl⟩
          have h2 := he es[0] (List.getElem_mem h0') j k y hj hx
          have h3 := hrep 0 es[0] hi j y hx
          obtain ⟨nn, hv⟩ := hint _ _ (hcell 0 es[0] hi j _ hx)
          rw [hv] at h3
          cases h2 with
          | int => cases h3; exact hk rfl
          | bool b => cases h3
          | str s => cases h3
          | sl => cases h3
      · have hjk : j < ks.length := by rw [← hz e (List.mem_of_getElem? hi)]; exact (List.getElem?_eq_some_iff.1 hj).1
        exact ih i e hi j x hj (he e (List.mem_of_getElem? hi) j _ x (List.getElem?_eq_getElem hjk) hj) (goodLU_at hg.2 (List.getElem?_eq_getElem hjk))
def goodKU : Option (Bool × List CS) → Bool
  | some (_, cs) => goodU.goodLU cs
  | none => false
theorem OkArgs.avoidU {w : World} {G : Ctx} {b0 : Nat} (hint : ∀ off v, w.cell? ⟨b0, off, none⟩ = some v → ∃ n, v = .int .u64 n) : ∀ {ks : List (Option (Bool × List CS))} {xs0 : List AV}, OkArgs ks xs0 → (∀ k ∈ ks, goodKU k = true) → ∀ (i : Nat) (x : AV) (v : Value), xs0[i]? = some x →
    Rep w (fun _ => False) G x v → Rep w (fun b => b = b0) G x v
  | [], xs0, h, _, i, x, v, hx, _ => by rw [h.nil_inv] at hx; simp at hx
  | some (true, css) :: ks, _, h, hg, 0, x, v, hx, hr => by
    obtain ⟨y, r, rfl, h1, _⟩ := h.cons_inv
    simp only [List.getElem?_cons_zero, Option.some.injEq] at hx
    subst hx
    obtain ⟨ds, rfl, h2⟩ := h1
    obtain ⟨e1, e2⟩ := h2.at
    have hgg : goodU.goodLU css = true := hg _ List.mem_cons_self
    cases hr with
    | agg _ vs hs hc h1 =>
      refine .agg _ vs hs (fun i c u hi hu => ?_) h1
      have h3 := hc i c u hi hu
      rw [List.getElem?_map] at hi
      obtain ⟨d, hd, rfl⟩ := Option.map_eq_some_iff.1 hi
      have hlt : i < css.length := by rw [← e1]; exact (List.getElem?_eq_some_iff.1 hd).1
      cases h3 with
      | d _ _ h3 => exact .d _ _ ((h3.avoidU hint (e2 i _ d (List.getElem?_eq_getElem hlt) hd) (goodLU_at hgg (List.getElem?_eq_getElem hlt))).ext (Ext.refl (fun _ => False) w) (fun _ _ h => h.elim) (fun b _ hb => .inr hb))
  | some (false, css) :: ks, _, h, hg, 0, x, v, hx, hr => by
    obtain ⟨y, r, rfl, h1, _⟩ := h.cons_inv
    simp only [List.getElem?_cons_zero, Option.some.injEq] at hx
    subst hx
    have hgg : goodU.goodLU css = true := hg _ List.mem_cons_self
    match css, h1, hgg with
    | [c], h1, hgg =>
      obtain ⟨d, rfl, h2⟩ := h1
      rw [goodU.goodLU, Bool.and_eq_true] at hgg
      cases hr with
      | d _ _ h3 => exact .d _ _ ((h3.avoidU hint h2 hgg.1).ext (Ext.refl (fun _ => False) w) (fun _ _ h => h.elim) (fun b _ hb => .inr hb))
  | none :: ks, xs0, h, _, 0, x, v, hx, _ => by cases xs0 with | nil => simp at hx | cons => exact h.elim
  | some k :: ks, _, h, hg, i + 1, x, v, hx, hr => by
    obtain ⟨y, r, rfl, _, h2⟩ := h.cons_inv
    exact OkArgs.avoidU hint h2 (fun k hk => hg k (List.mem_cons_of_mem _ hk)) i x v (by simpa using hx) hr
  | none :: ks, xs0, h, _, i + 1, x, v, hx, _ => by cases xs0 with | nil => simp at hx | cons => exact h.elim
section
variable {P : Program} (T : Tab P)
/-- The row's step, a variable handed in whole. -/
theorem law_contractU {TT : TypeId → Prop} (K : Kids P TT) (hz : ∀ t e, TT t → P.underlying t = some (.slice e) → 0 < P.cellsOf e) {f : FuncId} {fn : Func} {s : ChangeSpec} {ts : List Nat} (hts : fn.params.toList = ts) {rt : Nat} (hrt : fn.resultTypes = #[rt]) (hu : T.desc rt = some .bool) (hvars : s.vars = [])
    (hT : ∀ t ∈ ts, TT t) (hk : ∀ t ∈ ts, ∃ k, argK T t = some k) (hgd : ((ts.map (argK T)).all goodKU) = true) {H : Type} {enc : TypeId × Value → H} (hs : AnyTrue (H := H) s ts.length) (b0 : Nat) (arr : Array Value) (ty : Nat) (hint : ∀ v ∈ arr.toList, ∃ n, v = .int .u64 n)
    (C : ∀ args, OkArgs (ts.map (argK T)) args → AC P f args [(9000, some (.raw b0 (.cells arr ty (0, 0))))] [9000] (fun r h' => r = .d (.sc (.bool true)) ∧ SubH [(9000, some (.raw b0 (.cells arr ty (0, 0))))] h'))
    (W : World) (hW0 : W.heap[b0]? = some (.cells arr ty (0, 0))) (base : Nat) (args : Array Value) (ds gs : List (DataW H)) (before : List MemPlace)
    (hval : ∀ (j : Nat) t v, fn.params[j]? = some t → args[j]? = some v → Value.okWide P W .any base t v)
    (hW : DataW.Whole enc P fn.params.toList s.vars false W args.toList ds gs before)
    (hsz : (DataW.weightsEach P (fn.params.toList ++ s.plain.varTypes P) (ds ++ gs)).all (· ≤ reachBytes) = true) (hB : Rows.uptoBulkAll (ds ++ gs) ≤ 1048576) :
    Calls P f args W fun e W' => ∃ v, e = .returned v ∧ s.post enc P fn false true false false W args v W' := by
  have hW' := hW
  obtain ⟨p, q, hA, hV, hps, hfz, hnd⟩ := hW
  rw [hvars] at hV
  have hgs : gs = [] ∧ q = [] := by
    cases gs with
    | nil => exact ⟨rfl, hV⟩
    | cons => exact hV.elim
  obtain ⟨rfl, rfl⟩ := hgs
  rw [List.append_nil] at hps hB
  subst hps
  rw [hts] at hA
  generalize hG : (⟨fun _ => .pointer (some ⟨b0, 0, none⟩), fun _ => 0⟩ : Ctx) = G
  have hm : ∀ i, G.m i = .pointer (some ⟨b0, 0, none⟩) := fun i => by rw [← hG]
  obtain ⟨xs0, o1, o2, o3⟩ := args_open (r := .any) (b0 := base) (G := G) T ts args.toList ds before hA (fun j t v ht hv => hval j t v (by rw [← hts] at ht; simpa using ht) (by simpa using hv)) hk (fun n hn => by
      rw [hts, List.append_nil, wEach_append _ _ _ (trodAll_len ts _ _ _ hA)] at hsz
      simpa using List.all_eq_true.1 hsz n hn) hB
  generalize hh0 : ([(9000, some (.raw b0 (.cells arr ty (0, 0))))] : Hp) = h0 at C
  have hget0 : ∀ id o, hget h0 id = some o → id = 9000 ∧ o = .raw b0 (.cells arr ty (0, 0)) := fun id o ho => by
    rw [← hh0, hget_cons] at ho
    split at ho
    · rename_i e; cases ho; exact ⟨e.symm, rfl⟩
    · cases ho
  have hO : ∀ b, Own h0 G b → b = b0 := fun b hb => by
    obtain ⟨id, o, _, j, _, hj⟩ := hb
    rw [hm] at hj
    cases hj
    rfl
  have r0 : Rel (org W (fun _ => False) h0 G [9000] 0) [] h0 noAct W G :=
    ⟨rfl, rfl, fun t => .any _, fun id o ho => (by obtain ⟨rfl, rfl⟩ := hget0 id o ho; exact ⟨hm _, hW0⟩), fun id o j id' o' j' b h1 h2 h3 h4 _ _ => (by
      obtain ⟨rfl, rfl⟩ := hget0 id o h1
      obtain ⟨rfl, rfl⟩ := hget0 id' o' h3
      simp only [names, List.mem_cons, List.not_mem_nil, or_false] at h2 h4
      exact ⟨rfl, by rw [h2, h4]⟩), Ext.refl _ W, fun b hb _ => hb, fun b hb => hb.elim, fun id _ => rfl⟩
  have hi : ∀ off v, W.cell? ⟨b0, off, none⟩ = some v → ∃ n, v = .int .u64 n := fun off v hv => by
    rw [cell_of_row W b0 off arr ty (0, 0) hW0] at hv
    exact hint v (by rw [← Array.getElem?_toList] at hv; exact List.mem_of_getElem? hv)
  have hC := (C xs0 o1).2 W (fun _ => False) G args.toList r0 o2 (fun i x v hx hv => (OkArgs.avoidU hi o1 (fun k hk => List.all_eq_true.1 hgd k hk) i x v hx (o3 i x v hx hv)).ext (Ext.refl (fun _ => False) W) (fun _ _ h => h.elim) (fun b _ hb => by
    rcases hb with h | h
    · exact h.elim
    · exact hO b h) (GStep.refl _))
  rw [Array.toArray_toList] at hC
  refine hC.mono ?_
  rintro e W' ⟨v, r, h', G', rfl, hr, hrep, rfl, hsub⟩
  have hv := hrep.sc_inv
  subst hv
  have hraw := hr.obj 9000 (.raw b0 (.cells arr ty (0, 0))) (by rw [← hh0] at hsub; exact hsub.1)
  have hb : Below W.heap.size W W' := by
    refine ⟨hr.ext.os, hr.ext.tape, hr.ext.output, hr.ext.size, fun k hk => ?_⟩
    by_cases e : k = b0
    · subst e
      rw [hraw.2, hW0]
    · exact hr.ext.block k hk (fun hx => e (hO k hx))
  have hlt : ∀ p ∈ before, p.block < W.heap.size := fun p hp => hW'.lt p hp
  have hlen := trodAll_len ts _ _ _ hA
  have hfn : s.fn H (ds ++ []) = { results := [.lit (.bool true)], args := ds } := by rw [List.append_nil]; exact hs ds hlen
  have hres : ∀ (b : Nat) (sp : Nat → Bool) (hd : Bool), DataW.TrodAll enc P W' b sp hd fn.resultTypes.toList ((Value.bool true).resultList fn.resultTypes.size) (s.fn H (ds ++ [])).results [] := by
    intro b sp hd
    rw [hfn, hrt]
    exact trodAll_cons_mk (shut_bool (T.desc_ok hu) _) trodAll_mk0
  have hread : ∀ sp : Nat → Bool, (∀ p ∈ before, sp p.block = true) → DataW.TrodAll enc P W' 0 sp true fn.params.toList args.toList (s.fn H (ds ++ [])).args before := by
    intro sp hsp
    rw [hfn, hts]
    exact trodAll_below hb ts _ _ _ (hA.respare K hz hT hsp) hlt
  refine ⟨_, rfl, ds, [], before, [], before, [], hW', hres _ _ _, hread _ (fun p hp => by simpa using hlt p hp), by rw [hvars, hfn]; exact rfl, World.keptBut_mono (fun p hp => ⟨hp, .inr (.inl hp)⟩) (hb.frame (· ∈ before)), fun h => by cases h⟩
end
end Go.SL
namespace Go.Proofs.YtglkilmflohfoaaDoor
open Go.SL Go.ChangeShapes Go.WideShapes Go.ChangeAt Go.RowKit
/-! ### posts among the arguments -/
theorem entU_of (e : List D) (h : OkCs [.str, .str, .int .i64] e) : ∃ x : Ent, e = x.enc ∧ x.ok := by
  obtain ⟨_, _, rfl, h1, h⟩ := h.cons_inv
  obtain ⟨_, _, rfl, h2, h⟩ := h.cons_inv
  obtain ⟨_, _, rfl, h3, h⟩ := h.cons_inv
  obtain rfl := h.nil_inv
  obtain ⟨s1, rfl, q1⟩ := h1.str_inv
  obtain ⟨s2, rfl, q2⟩ := h2.str_inv
  obtain ⟨n3, rfl, q3⟩ := h3.i64_inv
  exact ⟨⟨s1, s2, n3⟩, rfl, ⟨q1, q2, q3⟩⟩
def postU (p : Post) : Prop := in64 p.number ∧ p.text.size ≤ 1048576 ∧ ∀ x ∈ p.entries, x.ok
theorem postU_of (e : List D) (h : OkCs [.int .i64, .str, .sl 3 40 [.str, .str, .int .i64]] e) : ∃ p : Post, e = p.enc ∧ postU p := by
  obtain ⟨_, _, rfl, h1, h⟩ := h.cons_inv
  obtain ⟨_, _, rfl, h2, h⟩ := h.cons_inv
  obtain ⟨_, _, rfl, h3, h⟩ := h.cons_inv
  obtain rfl := h.nil_inv
  obtain ⟨n1, rfl, q1⟩ := h1.i64_inv
  obtain ⟨s2, rfl, q2⟩ := h2.str_inv
  obtain ⟨l, rfl, _, q3⟩ := h3.list (enc := Ent.enc) (p := Ent.ok) entU_of
  exact ⟨⟨n1, s2, l⟩, rfl, q1, q2, q3⟩
theorem poU_of {x : AV} (h : OkArg (false, poS) x) : ∃ l : List Post, x = .d (.sl 3 (l.map Post.enc)) ∧ l.length ≤ 140737488351232 ∧ ∀ p ∈ l, postU p := by
  obtain ⟨d, rfl, h⟩ := h
  obtain ⟨l, rfl, hl, hp⟩ := h.list (enc := Post.enc) (p := postU) postU_of
  exact ⟨l, rfl, by omega, hp⟩
/-! ### the table -/
def laidL : List (String × DataW Unit) := [("math/bits.deBruijn32tab", Rows.laid_math_bits_deBruijn32tab), ("math/bits.deBruijn64tab", Rows.laid_math_bits_deBruijn64tab), ("internal/strconv.uint64pow10", Rows.laid_internal_strconv_uint64pow10)]
theorem pw_data : (Rows.laid_internal_strconv_uint64pow10 : DataW Unit) = Lib.tabData .u64 Lib.pow10Tab := by kernel_rfl
theorem pw_laid {W : World} (h : laidMetH Tryd.prog laidL W) (hs : W.ShapedOpen Tryd.prog) : W.heap[0]? = some (.cells pwArr 95 (0, 0)) := by
  rw [MakeChecks.laidMetH_plain _ _ _ (by kernel_rfl)] at h
  obtain ⟨ps, ⟨_, _, _, _, _, _, _, _, _, _, ⟨_, _, _, _, _, _, _, _, _, _, ⟨g, t, cs, fuel, p, q, hg, ht, hv, hd, _, _⟩, _⟩, _⟩, _, _⟩ := h
  obtain rfl := Option.some.inj ((show Tryd.prog.globalNamed "internal/strconv.uint64pow10" = some 0 by kernel_rfl).symm.trans hg)
  obtain rfl := Option.some.inj ((show (Tryd.prog.globals[0]?).map (·.type) = some 95 by kernel_rfl).symm.trans ht)
  obtain ⟨zs, hzs⟩ : ∃ zs, ((begin Tryd.prog (fun _ _ => 0) default).world.heap[0]?).bind Obj.row? = some (zs, 95) := ⟨(Array.replicate 20 (.int .u64 0)), by kernel_rfl⟩
  obtain ⟨cs2, h2, _, _⟩ := hs.1 0 zs 95 (by rw [← Nat.blt_eq]; kernel_rfl) hzs
  have hcs : cs = cs2 := by
    unfold World.var? at hv
    rw [hg] at hv
    simp only [Option.bind_some, h2, Option.some.injEq] at hv
    exact hv.symm
  subst hcs
  rw [pw_data] at hd
  have hc := Lib.cells_of_tab Tryd.underlying95 Tryd.underlying71 (by kernel_rfl) (by kernel_rfl) hd
  have : cs = pwArr := Array.toList_inj.1 (by rw [hc]; rfl)
  rw [h2, this]
theorem pw_ints : ∀ v ∈ pwArr.toList, ∃ n, v = .int .u64 n := by
  intro v hv
  have : v ∈ Lib.pow10Tab.map (Value.int .u64) := hv
  obtain ⟨n, _, rfl⟩ := List.mem_map.1 this
  exact ⟨_, rfl⟩
end Go.Proofs.YtglkilmflohfoaaDoor
