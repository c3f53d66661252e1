import Derived.Test.YtjlblnplofgpnaaGreatDoorEE
namespace Go.Proofs.YtjlblnplofgpnaaGreatDoor
open Go.SL
/-! ### StowSame -/
theorem unloadsK (S : Ship) (l : List Load) (ports : Int) (hl : l.length ≤ 20) (hpt : -9223372036854775808 ≤ ports) : AC Tryz.prog 28 [.agg S.cs, .d (.sc (.int .i64 ports)), .d (.sl 7 (l.map Load.enc))] [hG] [9000] (fun r h' => r = .d (.sc (.int .i64 (movesE S l ports))) ∧ Kp [hG] h') := (moves_ac S l ports hl hpt).mono (fun _ _ h => ⟨h.1, Kp.sub h.2⟩)
def mixL (f : Load → Load) (M : List Load) (i : Nat) : List Load := (M.take i).map f ++ M.drop i
theorem mixL_zero (f : Load → Load) (M : List Load) : mixL f M 0 = M := by unfold mixL; simp
theorem mixL_all (f : Load → Load) (M : List Load) : mixL f M M.length = M.map f := by unfold mixL; simp
theorem mixL_len (f : Load → Load) (M : List Load) {i : Nat} (hi : i ≤ M.length) : (mixL f M i).length = M.length := by unfold mixL; simp; omega
theorem mixL_at {f : Load → Load} {M : List Load} {i : Nat} {x : Load} (hx : M[i]? = some x) : (mixL f M i)[i]? = some x := by
  have hlt := (List.getElem?_eq_some_iff.1 hx).1
  unfold mixL
  rw [List.getElem?_append_right (by simp; omega)]
  have : ((M.take i).map f).length = i := by simp; omega
  rw [this, Nat.sub_self, List.getElem?_drop]
  simpa using hx
theorem mixL_set {f : Load → Load} {M : List Load} {i : Nat} {x : Load} (hx : M[i]? = some x) : ((mixL f M i).map Load.enc).set i (f x).enc = (mixL f M (i + 1)).map Load.enc := by
  obtain ⟨hlt, e⟩ := List.getElem?_eq_some_iff.1 hx
  rw [← List.map_set]
  congr 1
  unfold mixL
  have hl : ((M.take i).map f).length = i := by simp; omega
  rw [List.set_append_right _ _ (by omega), hl, Nat.sub_self, List.drop_eq_getElem_cons hlt, List.set_cons_zero, take_at hx, List.map_append, List.append_assoc]
  rfl
end Go.Proofs.YtjlblnplofgpnaaGreatDoor
