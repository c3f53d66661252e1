/- What the rows of this seat ask of the program, once; the variable that they lay. -/
import Derived.Test.YtgikjdkdakfnkaaDoorBA
import Derived.Test.YtgikjdkdakfnkaaDoorTf
import Derived.Test.YtgikjdkdakfnkaaDoorTie
import Derived.Test.YtgikjdkdakfnkaaDoorCards
import Derived.WalkKit
import Derived.ProofKit
import Derived.OpenShut
import Derived.SizedLaws
import Derived.SevenTiedAt
namespace Go.Proofs.YtgikjdkdakfnkaaDoor
open Go.SL Go.ChangeShapes Go.WideShapes Go.ChangeAt Go.RowKit

theorem own : ownKnob Tryd.prog.godebug = none := by kernel_rfl
theorem kids : Kids Tryd.prog (· < Tryd.prog.types.size) := kids_rows (by kernel_rfl) (by kernel_rfl)
theorem full : ∀ t e, t < Tryd.prog.types.size → Tryd.prog.underlying t = some (.slice e) → 0 < Tryd.prog.cellsOf e := slices_full_of _ (by kernel_rfl)
theorem small {t : Nat} (h : Nat.blt t Tryd.prog.types.size = true) : t < Tryd.prog.types.size := by rwa [Nat.blt_eq] at h
def shipS : List CS := [.str, .int .i64, .int .i64, .int .i64, .int .i64, .int .i64, .int .i64, .int .i64, .int .i64]
theorem argK_ship : argK Tryd.tab 23 = some (true, shipS) := by kernel_rfl
theorem ship_of {x : AV} (h : OkArg (true, shipS) x) : ∃ S : Ship, x = .agg S.cs ∧ S.nm.size ≤ 140737488351232 := by
  obtain ⟨ds, rfl, h⟩ := h
  unfold shipS at h
  obtain ⟨_, _, rfl, h1, h⟩ := h.cons_inv
  obtain ⟨_, _, rfl, h2, h⟩ := h.cons_inv
  obtain ⟨_, _, rfl, h3, h⟩ := h.cons_inv
  obtain ⟨_, _, rfl, h4, h⟩ := h.cons_inv
  obtain ⟨_, _, rfl, h5, h⟩ := h.cons_inv
  obtain ⟨_, _, rfl, h6, h⟩ := h.cons_inv
  obtain ⟨_, _, rfl, h7, h⟩ := h.cons_inv
  obtain ⟨_, _, rfl, h8, h⟩ := h.cons_inv
  obtain ⟨_, _, rfl, h9, h⟩ := h.cons_inv
  obtain rfl := h.nil_inv
  obtain ⟨s, rfl, hs⟩ := h1.str_inv
  obtain ⟨n2, rfl, _⟩ := h2.i64_inv
  obtain ⟨n3, rfl, _⟩ := h3.i64_inv
  obtain ⟨n4, rfl, _⟩ := h4.i64_inv
  obtain ⟨n5, rfl, _⟩ := h5.i64_inv
  obtain ⟨n6, rfl, _⟩ := h6.i64_inv
  obtain ⟨n7, rfl, _⟩ := h7.i64_inv
  obtain ⟨n8, rfl, _⟩ := h8.i64_inv
  obtain ⟨n9, rfl, _⟩ := h9.i64_inv
  exact ⟨⟨s, n2, n3, n4, n5, n6, n7, n8, n9⟩, rfl, hs⟩
def opS : List CS := [.int .i64, .int .i64, .int .i64, .int .i64, .str, .int .i64, .int .i64, .int .i64, .str]
def opsS : List CS := [.sl 9 88 opS]
theorem argK_ops : argK Tryd.tab 24 = some (false, opsS) := by kernel_rfl
theorem op_of (e : List D) (h : OkCs opS e) : ∃ x : BOp, e = x.enc ∧ (x.bx.size ≤ 140737488351232 ∧ x.l.box.size ≤ 140737488351232) := by
  unfold opS at h
  obtain ⟨_, _, rfl, h1, h⟩ := h.cons_inv
  obtain ⟨_, _, rfl, h2, h⟩ := h.cons_inv
  obtain ⟨_, _, rfl, h3, h⟩ := h.cons_inv
  obtain ⟨_, _, rfl, h4, h⟩ := h.cons_inv
  obtain ⟨_, _, rfl, h5, h⟩ := h.cons_inv
  obtain ⟨_, _, rfl, h6, h⟩ := h.cons_inv
  obtain ⟨_, _, rfl, h7, h⟩ := h.cons_inv
  obtain ⟨_, _, rfl, h8, h⟩ := h.cons_inv
  obtain ⟨_, _, rfl, h9, h⟩ := h.cons_inv
  obtain rfl := h.nil_inv
  obtain ⟨n1, rfl, _⟩ := h1.i64_inv
  obtain ⟨n2, rfl, _⟩ := h2.i64_inv
  obtain ⟨n3, rfl, _⟩ := h3.i64_inv
  obtain ⟨n4, rfl, _⟩ := h4.i64_inv
  obtain ⟨s5, rfl, hs5⟩ := h5.str_inv
  obtain ⟨n6, rfl, _⟩ := h6.i64_inv
  obtain ⟨n7, rfl, _⟩ := h7.i64_inv
  obtain ⟨n8, rfl, _⟩ := h8.i64_inv
  obtain ⟨s9, rfl, hs9⟩ := h9.str_inv
  exact ⟨⟨n1, ⟨⟨n2, n3, n4⟩, s5, n6, n7, n8⟩, s9⟩, rfl, hs9, hs5⟩
theorem ops_of {x : AV} (h : OkArg (false, opsS) x) : ∃ l : List BOp, x = .d (.sl 9 (l.map BOp.enc)) ∧ l.length ≤ 140737488351232 ∧ ∀ o ∈ l, o.bx.size ≤ 140737488351232 ∧ o.l.box.size ≤ 140737488351232 := by
  obtain ⟨d, rfl, h⟩ := h
  obtain ⟨l, rfl, h1, h2⟩ := h.list op_of
  exact ⟨l, rfl, by omega, h2⟩
def slotS : List CS := [.int .i64, .int .i64, .int .i64]
theorem argK_slot : argK Tryd.tab 26 = some (true, slotS) := by kernel_rfl
theorem slot_of {x : AV} (h : OkArg (true, slotS) x) : ∃ s : Sl, x = slA s := by
  obtain ⟨ds, rfl, h⟩ := h
  unfold slotS at h
  obtain ⟨_, _, rfl, h1, h⟩ := h.cons_inv
  obtain ⟨_, _, rfl, h2, h⟩ := h.cons_inv
  obtain ⟨_, _, rfl, h3, h⟩ := h.cons_inv
  obtain rfl := h.nil_inv
  obtain ⟨n1, rfl, _⟩ := h1.i64_inv
  obtain ⟨n2, rfl, _⟩ := h2.i64_inv
  obtain ⟨n3, rfl, _⟩ := h3.i64_inv
  exact ⟨⟨n1, n2, n3⟩, rfl⟩
def loadS : List CS := [.int .i64, .int .i64, .int .i64, .str, .int .i64, .int .i64, .int .i64]
theorem argK_load : argK Tryd.tab 38 = some (true, loadS) := by kernel_rfl
theorem load_of {x : AV} (h : OkArg (true, loadS) x) : ∃ y : Load, x = .agg y.cs2 ∧ y.box.size ≤ 140737488351232 := by
  obtain ⟨ds, rfl, h⟩ := h
  unfold loadS at h
  obtain ⟨_, _, rfl, h1, h⟩ := h.cons_inv
  obtain ⟨_, _, rfl, h2, h⟩ := h.cons_inv
  obtain ⟨_, _, rfl, h3, h⟩ := h.cons_inv
  obtain ⟨_, _, rfl, h4, h⟩ := h.cons_inv
  obtain ⟨_, _, rfl, h5, h⟩ := h.cons_inv
  obtain ⟨_, _, rfl, h6, h⟩ := h.cons_inv
  obtain ⟨_, _, rfl, h7, h⟩ := h.cons_inv
  obtain rfl := h.nil_inv
  obtain ⟨n1, rfl, _⟩ := h1.i64_inv
  obtain ⟨n2, rfl, _⟩ := h2.i64_inv
  obtain ⟨n3, rfl, _⟩ := h3.i64_inv
  obtain ⟨s4, rfl, hs⟩ := h4.str_inv
  obtain ⟨n5, rfl, _⟩ := h5.i64_inv
  obtain ⟨n6, rfl, _⟩ := h6.i64_inv
  obtain ⟨n7, rfl, _⟩ := h7.i64_inv
  exact ⟨⟨⟨n1, n2, n3⟩, s4, n5, n6, n7⟩, rfl, hs⟩
def i64S : List CS := [.int .i64]
theorem argK_int : argK Tryd.tab 3 = some (false, i64S) := by kernel_rfl
theorem i64_of {x : AV} (h : OkArg (false, i64S) x) : ∃ n : Int, x = .d (.sc (.int .i64 n)) ∧ -9223372036854775808 ≤ n ∧ n ≤ 9223372036854775807 := by
  obtain ⟨d, rfl, h⟩ := h
  obtain ⟨n, rfl, hn⟩ := h.i64_inv
  exact ⟨n, rfl, hn⟩
def strS : List CS := [.str]
theorem argK_str : argK Tryd.tab 9 = some (false, strS) := by kernel_rfl
theorem str_of {x : AV} (h : OkArg (false, strS) x) : ∃ s : ByteArray, x = .d (.sc (.string s)) ∧ s.size ≤ 140737488351232 := by
  obtain ⟨d, rfl, h⟩ := h
  obtain ⟨s, rfl, hs⟩ := h.str_inv
  exact ⟨s, rfl, hs⟩
/-! ### the variable -/
def laidL : List (String × DataW Unit) := [("supercargo/goods.apart", Rows.laid_supercargo_goods_apart)]
def laidTy : Nat := 103
def laidArr : Array Value := #[.int .i64 0, .int .i64 1020, .int .i64 40, .int .i64 288, .int .i64 288, .int .i64 320, .int .i64 0, .int .i64 512, .int .i64 0, .int .i64 0]
theorem var_laid {W : World} (h : laidMetH Tryd.prog laidL W) (hs : W.ShapedOpen Tryd.prog) : W.heap[0]? = some (.cells laidArr 103 (0, 0)) := by
  rw [MakeChecks.laidMetH_plain _ _ _ (by kernel_rfl)] at h
  obtain ⟨ps, ⟨g, t, cs, fuel, p, q, hg, ht, hv, hd, _, _⟩, _, _⟩ := h
  obtain rfl := Option.some.inj ((show Tryd.prog.globalNamed "supercargo/goods.apart" = some 0 by kernel_rfl).symm.trans hg)
  obtain rfl := Option.some.inj ((show (Tryd.prog.globals[0]?).map (·.type) = some 103 by kernel_rfl).symm.trans ht)
  obtain ⟨zs, hzs⟩ : ∃ zs, ((begin Tryd.prog (fun _ _ => 0) default).world.heap[0]?).bind Obj.row? = some (zs, 103) := ⟨(Array.replicate 10 (.int .i64 0)), by kernel_rfl⟩
  obtain ⟨cs2, h2, _, _⟩ := hs.1 0 zs 103 (by rw [← Nat.blt_eq]; kernel_rfl) hzs
  have hcs : cs = cs2 := by
    unfold World.var? at hv
    rw [hg] at hv
    simp only [Option.bind_some, h2, Option.some.injEq] at hv
    exact hv.symm
  subst hcs
  obtain ⟨xs, m, _, ex, hlen, hl, hel⟩ := DataW.trod_array Tryd.underlying103 hd
  have c3 : Tryd.prog.cellsOf 3 = 1 := by kernel_rfl
  have cT : Tryd.prog.cellsOf 103 = 10 := by kernel_rfl
  rw [cT] at hlen
  have e3 : (xs.map (·.1)) = apTbl.map fun n => .lit (.int .i64 n) := (DataW.agg.inj (Prod.mk.inj ex).1).symm
  have key : cs.toList = laidArr.toList := by
    refine List.ext_getElem? (fun r => ?_)
    by_cases hr : r < 10
    · have hE := hel r hr
      rw [c3, Nat.mul_one, List.getElem?_eq_getElem (by omega)] at hE
      obtain ⟨z, e1, e2, _⟩ := DataW.trod_int Tryd.underlying3 hE
      have e4 : (xs.map (·.1))[r]? = (apTbl.map fun n => (DataW.lit (.int .i64 n) : DataW Unit))[r]? := by rw [e3]
      have hlenA : apTbl.length = 10 := rfl
      rw [List.getElem?_map, List.getElem?_map, List.getElem?_eq_getElem (by omega : r < xs.length), List.getElem?_eq_getElem (by omega : r < apTbl.length), e2] at e4
      simp only [Option.map_some, Option.some.injEq, DataW.lit.injEq, Lit.int.injEq, true_and] at e4
      have h0 : ((cs.toList.drop r).take 1)[0]? = some (.int .i64 z) := by rw [e1]; rfl
      have h1 : cs.toList[r]? = some (.int .i64 z) := by simpa using h0
      rw [h1, e4]
      have h9 : laidArr.toList = apTbl.map (Value.int .i64) := rfl
      rw [h9, List.getElem?_map, List.getElem?_eq_getElem (by omega : r < apTbl.length)]
      rfl
    · rw [List.getElem?_eq_none (by omega), List.getElem?_eq_none (by show 10 ≤ r; omega)]
  have : cs = laidArr := Array.toList_inj.1 key
  rw [h2, this]
theorem laidInts : ∀ v ∈ laidArr.toList, ∃ k n, v = .int k n := by
  intro v hv
  have : v ∈ apTbl.map (Value.int .i64) := hv
  obtain ⟨n, _, rfl⟩ := List.mem_map.1 this
  exact ⟨_, _, rfl⟩
end Go.Proofs.YtgikjdkdakfnkaaDoor
