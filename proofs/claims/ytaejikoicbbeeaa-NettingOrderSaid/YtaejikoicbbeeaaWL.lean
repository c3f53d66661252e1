import Derived.Test.YtaejikoicbbeeaaWK
namespace Go.Proofs.Ytaejikoicbbeeaa
open Go.SL
/-! ### what stays: plain -/
theorem pair_len {l : List Db} (hm : l.all mayD = true) (hb : ¬ badN l) : (pairN l).length ≤ l.length := fit_len (okD hm hb) (pairN_told (okD hm hb).one) (fun _ => Int.le_refl _)
theorem ring_len {l : List Db} (hm : l.all mayD = true) (hb : ¬ badN l) : (ringsN l).length ≤ l.length := fit_len (okD hm hb) (ringsN_told (okD hm hb)) (fun k => (rg_tab (okD hm hb) k.1).2.1 _ _)
end Go.Proofs.Ytaejikoicbbeeaa
namespace Go.Proofs.Ytaejikoicbbeeaa
open Go.SL
/-! ### NettingLeast: plain -/
end Go.Proofs.Ytaejikoicbbeeaa
