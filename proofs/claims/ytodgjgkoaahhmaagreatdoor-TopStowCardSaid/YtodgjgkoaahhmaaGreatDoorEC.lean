import Derived.Test.YtodgjgkoaahhmaaGreatDoorDY
import Derived.Test.YtodgjgkoaahhmaaGreatDoorDX
import Derived.Test.YtodgjgkoaahhmaaGreatDoorDV
import Derived.Test.YtodgjgkoaahhmaaGreatDoorAE
import Derived.Test.YtodgjgkoaahhmaaGreatDoorTf
import Derived.Test.YtodgjgkoaahhmaaGreatDoorTie
import Derived.Test.YtodgjgkoaahhmaaGreatDoorCards
import Derived.WalkKit
import Derived.ProofKit
import Derived.OpenShut
import Derived.SizedLaws
import Derived.SevenTiedAt
namespace Go.Proofs.YtodgjgkoaahhmaaGreatDoor
open Go.SL
/-! ### awake -/
theorem eqb_self (a : Int) : eqb a a = true := eqb_t.2 rfl
/-! ### StowRight -/


/-! ### StowPlans -/



/-! ### StowUnloads -/



end Go.Proofs.YtodgjgkoaahhmaaGreatDoor
/- What the rows of this seat ask of the program, once; the variable that they lay. -/
namespace Go.Proofs.YtodgjgkoaahhmaaGreatDoor
open Go.SL Go.ChangeShapes Go.WideShapes Go.ChangeAt Go.RowKit

theorem own : ownKnob Tryz.prog.godebug = none := by kernel_rfl
theorem kids : Kids Tryz.prog (· < Tryz.prog.types.size) := kids_rows (by kernel_rfl) (by kernel_rfl)
theorem full : ∀ t e, t < Tryz.prog.types.size → Tryz.prog.underlying t = some (.slice e) → 0 < Tryz.prog.cellsOf e := slices_full_of _ (by kernel_rfl)
theorem small {t : Nat} (h : Nat.blt t Tryz.prog.types.size = true) : t < Tryz.prog.types.size := by rwa [Nat.blt_eq] at h
/-! ### the variable -/
def laidL : List (String × DataW Unit) := [("supercargo/goods.apart", Rows.laid_supercargo_goods_apart)]
def laidTy : Nat := 165
def laidArr : Array Value := #[.int .i64 0, .int .i64 1020, .int .i64 40, .int .i64 288, .int .i64 288, .int .i64 320, .int .i64 0, .int .i64 512, .int .i64 0, .int .i64 0]
theorem var_laid {W : World} (h : laidMetH Tryz.prog laidL W) (hs : W.ShapedOpen Tryz.prog) : W.heap[2]? = some (.cells laidArr 165 (0, 0)) := by
  rw [MakeChecks.laidMetH_plain _ _ _ (by kernel_rfl)] at h
  obtain ⟨ps, ⟨g, t, cs, fuel, p, q, hg, ht, hv, hd, _, _⟩, _, _⟩ := h
  obtain rfl := Option.some.inj ((show Tryz.prog.globalNamed "supercargo/goods.apart" = some 2 by kernel_rfl).symm.trans hg)
  obtain rfl := Option.some.inj ((show (Tryz.prog.globals[2]?).map (·.type) = some 165 by kernel_rfl).symm.trans ht)
  obtain ⟨zs, hzs⟩ : ∃ zs, ((begin Tryz.prog (fun _ _ => 0) default).world.heap[2]?).bind Obj.row? = some (zs, 165) := ⟨(Array.replicate 10 (.int .i64 0)), by kernel_rfl⟩
  obtain ⟨cs2, h2, _, _⟩ := hs.1 2 zs 165 (by rw [← Nat.blt_eq]; kernel_rfl) hzs
  have hcs : cs = cs2 := by
    unfold World.var? at hv
    rw [hg] at hv
    simp only [Option.bind_some, h2, Option.some.injEq] at hv
    exact hv.symm
  subst hcs
  obtain ⟨xs, m, _, ex, hlen, hl, hel⟩ := DataW.trod_array Tryz.underlying165 hd
  have c3 : Tryz.prog.cellsOf 3 = 1 := by kernel_rfl
  have cT : Tryz.prog.cellsOf 165 = 10 := by kernel_rfl
  rw [cT] at hlen
  have e3 : (xs.map (·.1)) = apTbl.map fun n => .lit (.int .i64 n) := (DataW.agg.inj (Prod.mk.inj ex).1).symm
  have key : cs.toList = laidArr.toList := by
    refine List.ext_getElem? (fun r => ?_)
    by_cases hr : r < 10
    · have hE := hel r hr
      rw [c3, Nat.mul_one, List.getElem?_eq_getElem (by omega)] at hE
      obtain ⟨z, e1, e2, _⟩ := DataW.trod_int Tryz.underlying3 hE
      have e4 : (xs.map (·.1))[r]? = (apTbl.map fun n => (DataW.lit (.int .i64 n) : DataW Unit))[r]? := by rw [e3]
      have hlenA : apTbl.length = 10 := rfl
      rw [List.getElem?_map, List.getElem?_map, List.getElem?_eq_getElem (by omega : r < xs.length), List.getElem?_eq_getElem (by omega : r < apTbl.length), e2] at e4
      simp only [Option.map_some, Option.some.injEq, DataW.lit.injEq, Lit.int.injEq, true_and] at e4
      have h0 : ((cs.toList.drop r).take 1)[0]? = some (.int .i64 z) := by rw [e1]; rfl
      have h1 : cs.toList[r]? = some (.int .i64 z) := by simpa using h0
      rw [h1, e4]
      have h9 : laidArr.toList = apTbl.map (Value.int .i64) := rfl
      rw [h9, List.getElem?_map, List.getElem?_eq_getElem (by omega : r < apTbl.length)]
      rfl
    · rw [List.getElem?_eq_none (by omega), List.getElem?_eq_none (by show 10 ≤ r; omega)]
  have : cs = laidArr := Array.toList_inj.1 key
  rw [h2, this]
theorem laidInts : ∀ v ∈ laidArr.toList, ∃ n, v = .int .i64 n := by
  intro v hv
  have : v ∈ apTbl.map (Value.int .i64) := hv
  obtain ⟨n, _, rfl⟩ := List.mem_map.1 this
  exact ⟨_, rfl⟩
end Go.Proofs.YtodgjgkoaahhmaaGreatDoor
