/- OrderMore, plain: a piece more than was ordered. -/
import Derived.Test.YtjadbgmohmgaaaaM2
import Derived.Test.YtjadbgmohmgaaaaTo
namespace Go.Proofs.Ytjadbgmohmgaaaa
open Go.SL

theorem colS_set {j : Nat} {q : List Int} : ∀ {ps : List (List Int)} {a : Nat} {p : List Int}, ps[a]? = some p → colS j (ps.set a q) = colS j ps - p.getD j 0 + q.getD j 0
  | [], _, _, h => by simp at h
  | r :: ps, 0, p, h => by
    simp at h
    subst h
    show q.getD j 0 + colS j ps = r.getD j 0 + colS j ps - r.getD j 0 + q.getD j 0
    omega
  | r :: ps, a + 1, p, h => by
    have ih := colS_set (j := j) (q := q) (ps := ps) (a := a) (p := p) (by simpa using h)
    show r.getD j 0 + colS j (ps.set a q) = r.getD j 0 + colS j ps - p.getD j 0 + q.getD j 0
    omega
theorem more_code {o : Ord} {dates : List Int} {parts : List (List Int)} (h : cutCode o dates parts = 0) {a j : Nat} {p : List Int} {v : Int} (hp : parts[a]? = some p) (hv : p[j]? = some v) :
    cutCode o dates (parts.set a (p.set j (v + 1))) = 3 := by
  obtain ⟨e1, e2, e3, e4, e5⟩ := code_of h
  have hpm := List.mem_of_getElem? hp
  have hvm := List.mem_of_getElem? hv
  have hj : j < p.length := (List.getElem?_eq_some_iff.1 hv).1
  have m2 : pMay o.lines.length dates (parts.set a (p.set j (v + 1))) = true := by
    simp only [pMay, Bool.and_eq_true, decide_eq_true_eq, List.all_eq_true, dOk, pOk, List.length_set] at e2 ⊢
    refine ⟨e2.1, fun r hr => ?_⟩
    rcases List.mem_or_eq_of_mem_set hr with hr | rfl
    · exact e2.2 r hr
    · have e6 := e2.2 p hpm
      refine ⟨by rw [List.length_set]; exact e6.1, fun x hx => ?_⟩
      rcases List.mem_or_eq_of_mem_set hx with hx | rfl
      · exact e6.2 x hx
      · have := e6.2 v hvm
        first
          | (simp only [decide_eq_true_eq] at *; omega)
          | omega
  have m4 : (parts.set a (p.set j (v + 1))).any zeroP = false := by
    rw [List.any_eq_false] at e4 ⊢
    intro r hr
    rcases List.mem_or_eq_of_mem_set hr with hr | rfl
    · exact e4 r hr
    · intro hz
      unfold zeroP at hz
      rw [List.all_eq_true] at hz
      have h0 := of_decide_eq_true (hz (v + 1) (List.mem_of_getElem? (i := j) (by rw [List.getElem?_set_self hj])))
      obtain ⟨_, _, _, _, e6⟩ := pMay_of e2
      have := (e6 p hpm).2 v hvm
      omega
  have m5 : wholeB (parts.set a (p.set j (v + 1))) o.lines 0 = false := by
    cases hw : wholeB (parts.set a (p.set j (v + 1))) o.lines 0 with
    | false => rfl
    | true =>
      exfalso
      obtain ⟨_, _, _, _, e6⟩ := pMay_of e2
      have hjl : j < o.lines.length := by rw [← (e6 p hpm).1]; exact hj
      have t1 := takeL_sum _ _ _ (whole_at e5 j _ (List.getElem?_eq_getElem hjl))
      have t2 := takeL_sum _ _ _ (whole_at hw j _ (List.getElem?_eq_getElem hjl))
      rw [Nat.zero_add] at t1 t2
      rw [colS_set hp, t1, getD_at hv, getD_at (p := p.set j (v + 1)) (v := v + 1) (by rw [List.getElem?_set_self hj])] at t2
      omega
  unfold cutCode
  rw [e1, m2, e3, m4, m5]
  rfl
theorem left_more {o : Ord} {dates : List Int} {parts : List (List Int)} (h : cutCode o dates parts = 0) {x : Line} (hx : x ∈ o.lines) :
    leftV o (cutAll o dates parts 0 ++ [⟨o.number, 0, 0, [⟨x.good, 1⟩]⟩]) = .tup [.d (.sl 2 []), .d (.sc (.int .i64 3))] := by
  obtain ⟨e1, _⟩ := code_of h
  obtain ⟨c1, c2, c3⟩ := chk_of (chk_cut h (l := cutAll o dates parts 0) (fun c hc => hc))
  have hl := (may_lines e1).2 x hx
  have g1 : ofB o ⟨o.number, 0, 0, [⟨x.good, 1⟩]⟩ = true := by
    simp [ofB, lotOk, hl.1, countB]
  have g2 : lastL x.good o.lines ≠ none := fun e => lastL_none.1 e (List.mem_map.2 ⟨x, hx, rfl⟩)
  have hc : chkCode o (cutAll o dates parts 0 ++ [⟨o.number, 0, 0, [⟨x.good, 1⟩]⟩]) = 0 := by
    unfold chkCode
    rw [if_neg, if_neg]
    · rw [Bool.not_eq_true, List.any_eq_false]
      intro c hc
      rcases List.mem_append.1 hc with hc | hc
      · rw [Bool.not_eq_true, List.any_eq_false]
        intro y hy
        obtain ⟨z, hz⟩ := c3 c hc y hy
        rw [hz]; simp
      · rw [List.mem_singleton.1 hc]
        cases hq : lastL x.good o.lines with
        | none => exact absurd hq g2
        | some z => simp [hq]
    · rw [Bool.not_eq_true, Bool.or_eq_false_iff, e1, List.any_eq_false]
      refine ⟨rfl, fun c hc => ?_⟩
      rcases List.mem_append.1 hc with hc | hc
      · rw [c2 c hc]; decide
      · rw [List.mem_singleton.1 hc, g1]; decide
  have ht : takeOk (cntM (ordL o.lines)) (cntM (sentL (cutAll o dates parts 0 ++ [⟨o.number, 0, 0, [⟨x.good, 1⟩]⟩]))) = false := by
    cases hq : takeOk (cntM (ordL o.lines)) (cntM (sentL (cutAll o dates parts 0 ++ [⟨o.number, 0, 0, [⟨x.good, 1⟩]⟩]))) with
    | false => rfl
    | true =>
      exfalso
      have h1 := (take_ok_iff _ _).1 hq x.good
      rw [sentL_snoc, posSum_append, cut_sums h] at h1
      have : posSum x.good [(⟨x.good, 1⟩ : Lot)] = 1 := by simp [posSum]
      rw [this] at h1
      omega
  rw [leftV, if_pos hc, ht]
  rfl
def otherC (o : Ord) (g : ByteArray) : Cons := ⟨o.number ++ ⟨#[120]⟩, 0, 0, [⟨g, 1⟩]⟩
theorem chk_other (o : Ord) (g : ByteArray) : chkCode o [otherC o g] = 1 := by
  unfold chkCode
  rw [if_pos]
  have : ofB o (otherC o g) = false := by
    unfold ofB otherC
    rw [Bool.and_eq_false_iff]
    left
    refine decide_eq_false (fun e => ?_)
    have := congrArg ByteArray.size e
    rw [ByteArray.size_append] at this
    have e2 : ByteArray.size ⟨#[120]⟩ = 1 := rfl
    omega
  rw [List.any_cons, this]
  simp
theorem left_other (o : Ord) (g : ByteArray) : leftV o [otherC o g] = .tup [.d (.sl 2 []), .d (.sc (.int .i64 1))] := by
  rw [leftV, chk_other]
  rfl
theorem val_other (o : Ord) (g : ByteArray) : pairR (valP o (otherC o g)) = .tup [.d (.sc (.int .i64 0)), .d (.sc (.int .i64 1))] := by
  rw [valP, chk_other]
  rfl
end Go.Proofs.Ytjadbgmohmgaaaa
