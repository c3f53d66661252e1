import Derived.Test.YtjadbgmohmgaaaaK3
namespace Go.Proofs.Ytjadbgmohmgaaaa
open Go.SL

/-! ### two parts made one -/
/-- what a cut tells of two parts that follow one another, and of the cut in which they are one -/
structure Merged (o : Ord) (dates : List Int) (parts : List (List Int)) (k : Nat) (p q : List Int) (md : List Int) (mp : List (List Int)) (CS MS : List Cons) (c1 c2 cm : Cons) (d : Int) (J : List Lot) : Prop where
  code : cutCode o md mp = 0
  l1 : CS.length = parts.length
  l2 : MS.length + 1 = CS.length
  a1 : CS[k]? = some c1
  a2 : CS[k + 1]? = some c2
  am : MS[k]? = some cm
  ad : dates[k + 1]? = some d
  lat : cm.latest = d
  num : cm.number = (k : Int) + 1
  val : ∃ x1 e1 x2 e2 x3 e3 : Int, pairR (valP o c1) = .tup [.d (.sc (.int .i64 x1)), .d (.sc (.int .i64 e1))] ∧ pairR (valP o c2) = .tup [.d (.sc (.int .i64 x2)), .d (.sc (.int .i64 e2))] ∧ pairR (valP o cm) = .tup [.d (.sc (.int .i64 x3)), .d (.sc (.int .i64 e3))] ∧
    0 ≤ x1 ∧ x1 ≤ 1099511627776 ∧ 0 ≤ x2 ∧ x2 ≤ 1099511627776 ∧ (e1 = 0 → e2 = 0 → e3 = 0 → x1 + x2 = x3)
  left : leftV o [cm] = .tup [.d (.sl 2 (J.map Lot.enc)), .d (.sc (.int .i64 0))] ∧ leftV o [c1, c2] = .tup [.d (.sl 2 (J.map Lot.enc)), .d (.sc (.int .i64 0))]
  lots : c1.lots.length ≤ 64 ∧ c2.lots.length ≤ 64 ∧ cm.lots.length ≤ 64 ∧ J.length ≤ 140737488351232
end Go.Proofs.Ytjadbgmohmgaaaa
