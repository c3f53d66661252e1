import Derived.Test.YtjadbgmohmgaaaaM1
namespace Go.Proofs.Ytjadbgmohmgaaaa
open Go.SL

theorem whole_le {o : Ord} {dates : List Int} {parts : List (List Int)} (h : cutCode o dates parts = 0) {p : List Int} (hp : p ∈ parts) {j : Nat} {n : Int} (hn : p[j]? = some n) : 0 ≤ n ∧ n ≤ 1048576 := by
  obtain ⟨e1, e2, _, _, e5⟩ := code_of h
  obtain ⟨_, _, _, _, e6⟩ := pMay_of e2
  have hj : j < o.lines.length := by have := (List.getElem?_eq_some_iff.1 hn).1; rw [(e6 p hp).1] at this; exact this
  have h3 := takeL_sum _ parts _ (whole_at e5 j _ (List.getElem?_eq_getElem hj))
  rw [Nat.zero_add] at h3
  have h4 := (colS_le (j := j) (ps := parts) (fun p hp n hn => (e6 p hp).2 n hn)).2 p hp
  rw [getD_at hn, h3] at h4
  have h5 := ((may_lines e1).2 _ (List.getElem_mem hj)).2.2.1
  exact ⟨(e6 p hp).2 n (List.mem_of_getElem? hn), by omega⟩
end Go.Proofs.Ytjadbgmohmgaaaa
