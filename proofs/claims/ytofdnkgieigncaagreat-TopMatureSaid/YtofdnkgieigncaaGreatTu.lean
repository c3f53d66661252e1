/- The layer 'SL': an array in a box, taken whole as a slice. -/
import Derived.Test.YtofdnkgieigncaaGreatSy
import Derived.Test.YtofdnkgieigncaaGreatSv
namespace Go.SL
open Go.RowKit
section
variable {P : Program} {O : Org} {T : Tab P} {Q : Exit → Env → Hp → Prop} {env : Env} {h : Hp} {o : Oper}

/-- 'a[:]' of an array that the call itself owns, which is written no more -/
theorem LStep_sliceBox {t e n id : Nat} {x : Operand} {cs : List AV} {ds : List D} (ho : o.op = .slice t x none none none) (hT : T.desc t = some (.array n e)) (hS : T.size e = some 1) (hx : evalA env x = .ptr id 0) (hh : hget h id = some (.cells cs)) (hD : asDs cs = some ds)
    (hlen : ds.length = n) (h0 : Nat.blt 0 n = true) (hd : dstOk o.dst O.nt = true) : LStep P O o env h [id] [] (.d (.sl 1 (ds.map fun d => [d]))) [(id, none)] := by
  intro env' h' he ht hf a w G r K Q hK
  have hh' := (ht id (by simp)).trans hh
  obtain ⟨b, arr, ty, e1, e2, e3, e4⟩ := r.obj id _ hh'
  obtain ⟨d1, d2⟩ := r.drop hh'
  have h1 := evalA_rep r.env x
  rw [he x (by simp [ho, Op.operands]), hx] at h1
  have hcs := asDs_inv hD
  have hn0 : 0 < n := by simpa [Nat.blt_eq] using h0
  generalize hv : a.eval x = v at h1
  cases h1 with
  | ptr _ _ b' hb' =>
    obtain rfl : b' = b := by rw [e1] at hb'; cases hb'; rfl
    have hrun : (execOp a.eval o).run P w = .ok (.value (.slice (some ⟨b', 0, none⟩) n n)) w := by
      have hne : n ≠ 0 := by omega
      simp [execOp, ho, hv, Instr.sliceAt, Instr.sureAddr, Instr.sliceBounds, run_underlying (T.desc_ok hT), run_size T hS, Addr.add_lit, hne]
    refine wp_value hrun (hK _ w G ?_)
    have r' : Rel O env' ((id, none) :: h') a w G := r.weak (fun _ => .inl rfl) (fun i oo hi => by
      rw [hget_cons] at hi
      split at hi
      · cases hi
      · exact hi)
    refine r'.put hd (.d _ _ (.sl 1 _ (some ⟨b', 0, none⟩) n n b' 0 (fun i _ => arr.getD i undef) (by rw [List.length_map, hlen]) (Nat.le_refl _) (fun _ => ⟨rfl, heap_lt e2, d2 b' (by rw [e1]; rfl) (r.xNot hh' (by rw [e1]; rfl))⟩) (fun i q hi => ?_) (fun i q hi j y hj => ?_) (fun i q hi j y hj => ?_)))
    · rw [List.getElem?_map, Option.map_eq_some_iff] at hi
      obtain ⟨d, _, rfl⟩ := hi
      rfl
    all_goals
      rw [List.getElem?_map, Option.map_eq_some_iff] at hi
      obtain ⟨d, g1, rfl⟩ := hi
      have hj0 : j = 0 := by
        have := (List.getElem?_eq_some_iff.1 hj).1
        simp at this
        omega
      subst hj0
      simp at hj
      subst hj
      have hil : i < arr.size := by
        have := (List.getElem?_eq_some_iff.1 g1).1
        rw [e3, hcs, List.length_map]; exact this
      have g2 : arr[i]? = some (arr.getD i undef) := by simp [hil]
    · rw [show 0 + (i * 1 + 0) = i by omega, cell_of_row w b' i arr ty (0, 0) e2, g2]
    · have g3 := (e4 i (.d d) _ (by rw [hcs, List.getElem?_map, g1]; rfl) g2).1
      cases g3 with
      | d _ _ g3 => exact g3.ext (Ext.refl (fun _ => False) w) (fun _ _ h => h.elim) (fun b _ hb => d1 b hb)
end
end Go.SL
