import Derived.Test.YtjadbgmohmgaaaaJ9
import Derived.Test.YtjadbgmohmgaaaaG0
namespace Go.Proofs.Ytjadbgmohmgaaaa
open Go.SL

end Go.Proofs.Ytjadbgmohmgaaaa
namespace Go.Proofs.Ytjadbgmohmgaaaa
open Go.SL

theorem sentB : ∀ {l : List Cons}, (∀ c ∈ l, c.lots.length ≤ 64) → (sentL l).length ≤ l.length * 64
  | [], _ => by simp [sentL]
  | c :: l, h => by
    have ih := sentB (l := l) (fun d hd => h d (by simp [hd]))
    have h1 := h c (by simp)
    have e : sentL (c :: l) = c.lots ++ sentL l := rfl
    rw [e, List.length_append, List.length_cons]
    omega
theorem cutAll_length (o : Ord) : ∀ (ds : List Int) (ps : List (List Int)) (i : Nat), ps.length = ds.length → (cutAll o ds ps i).length = ds.length
  | [], _, _, _ => by simp [cutAll]
  | _ :: _, [], _, h => by simp at h
  | d :: ds, p :: ps, i, h => by rw [cutAll, List.length_cons, List.length_cons, cutAll_length o ds ps (i + 1) (by simpa using h)]
end Go.Proofs.Ytjadbgmohmgaaaa
