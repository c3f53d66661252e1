import Derived.Test.YtaejikoicbbeeaaWQ
namespace Go.Proofs.Ytaejikoicbbeeaa
open Go.SL Go.ChangeShapes Go.WideShapes Go.ChangeAt Go.RowKit
def i64S : List CS := [.int .i64]
theorem argK_i64 : argK Try.tab 2 = some (false, i64S) := by kernel_rfl
theorem argK_int : argK Try.tab 3 = some (false, i64S) := by kernel_rfl
theorem i64_of {x : AV} (h : OkArg (false, i64S) x) : ∃ n : Int, x = .d (.sc (.int .i64 n)) ∧ -9223372036854775808 ≤ n ∧ n ≤ 9223372036854775807 := by
  obtain ⟨d, rfl, h⟩ := h
  obtain ⟨n, rfl, h1, h2⟩ := h.i64_inv
  exact ⟨n, rfl, by omega, by omega⟩
end Go.Proofs.Ytaejikoicbbeeaa
namespace Go.Proofs.Ytaejikoicbbeeaa
open Go.SL
/-! ### NettingOrder: plain -/
theorem ord_neg {l m : List Db} (h : ∀ k, ow m k = ow l k) : (badN m ↔ badN l) ∧ (badS m ↔ badS l) ∧ netN m = netN l := by
  have hp : ∀ s, psI m s = psI l s := pos_of_ow (fun c p q => by rw [h, h])
  refine ⟨⟨fun ⟨k, hk⟩ => ⟨k, by rw [← net_congr h]; exact hk⟩, fun ⟨k, hk⟩ => ⟨k, by rw [net_congr h]; exact hk⟩⟩, ⟨fun ⟨s, hs⟩ => ⟨s, by rw [← hp]; exact hs⟩, fun ⟨s, hs⟩ => ⟨s, by rw [hp]; exact hs⟩⟩, netN_congr hp⟩
theorem ordP (l m : List Db) (hl : l.length ≤ 40) (hml : m.length ≤ 40) (hm : l.all mayD = true) (hmm : m.all mayD = true) (h : ∀ k, ow m k = ow l k) :
    ∃ (A : List Db) (n : Int), A.length ≤ 4096 ∧ AC Try.prog 10 [.d (.sl 4 (l.map dbE))] [] [] (fun r _ => r = .tup [.d (.sl 4 (A.map dbE)), .d (.sc (.int .i64 n))]) ∧ AC Try.prog 10 [.d (.sl 4 (m.map dbE))] [] [] (fun r _ => r = .tup [.d (.sl 4 (A.map dbE)), .d (.sc (.int .i64 n))]) := by
  have hN := (ord_neg h).1
  by_cases hb : badN l
  · exact ⟨[], 3, by simp, pairsBad_ac l (by omega) hm hb, pairsBad_ac m (by omega) hmm (hN.2 hb)⟩
  · have hb' : ¬ badN m := fun q => hb (hN.1 q)
    have e : pairN m = pairN l := pairN_congr (may_one hmm) (may_one hm) (net_congr h)
    have c2 := pairsOk_ac m (by omega) hmm hb'
    rw [e] at c2
    exact ⟨pairN l, 0, by have := pair_len hm hb; omega, pairsOk_ac l (by omega) hm hb, c2⟩
theorem ordN (l m : List Db) (hl : l.length ≤ 40) (hml : m.length ≤ 40) (hm : l.all mayD = true) (hmm : m.all mayD = true) (h : ∀ k, ow m k = ow l k) :
    ∃ (A : List Db) (n : Int), A.length ≤ 4096 ∧ AC Try.prog 11 [.d (.sl 4 (l.map dbE))] [] [] (fun r _ => r = .tup [.d (.sl 4 (A.map dbE)), .d (.sc (.int .i64 n))]) ∧ AC Try.prog 11 [.d (.sl 4 (m.map dbE))] [] [] (fun r _ => r = .tup [.d (.sl 4 (A.map dbE)), .d (.sc (.int .i64 n))]) := by
  obtain ⟨_, hN, e⟩ := ord_neg h
  by_cases hb : badS l
  · exact ⟨[], 3, by simp, net_bad l (by omega) hm hb, net_bad m (by omega) hmm (hN.2 hb)⟩
  · have c2 := net_ok m (by omega) hmm (fun q => hb (hN.1 q))
    rw [e] at c2
    exact ⟨netN l, 0, by have := netN_len l; omega, net_ok l (by omega) hm hb, c2⟩
theorem ordR (l m : List Db) (hl : l.length ≤ 40) (hml : m.length ≤ 40) (hm : l.all mayD = true) (hmm : m.all mayD = true) (h : ∀ k, ow m k = ow l k) :
    ∃ (A : List Db) (g n : Int), A.length ≤ 4096 ∧ AC Try.prog 12 [.d (.sl 4 (l.map dbE))] [] [] (fun r _ => r = .tup [.d (.sl 4 (A.map dbE)), .d (.sc (.int .i64 g)), .d (.sc (.int .i64 n))]) ∧ AC Try.prog 12 [.d (.sl 4 (m.map dbE))] [] [] (fun r _ => r = .tup [.d (.sl 4 (A.map dbE)), .d (.sc (.int .i64 g)), .d (.sc (.int .i64 n))]) := by
  have hN := (ord_neg h).1
  have hP : parN m = parN l := (dom_congr (may_one hmm) (may_one hm) h).2
  by_cases hb : badN l
  · exact ⟨[], 0, 3, by simp, ringsBad_ac l (by omega) hm hb, ringsBad_ac m (by omega) hmm (hN.2 hb)⟩
  · have hb' : ¬ badN m := fun q => hb (hN.1 q)
    by_cases h8 : 8 < (parN l).length
    · exact ⟨[], 0, 7, by simp, ringsMany_ac l (by omega) hm hb h8, ringsMany_ac m (by omega) hmm hb' (by rw [hP]; exact h8)⟩
    · obtain ⟨e1, e2⟩ := rings_congr (may_one hmm) (may_one hm) h
      have c2 := ringsOk_ac m (by omega) hmm hb' (by rw [hP]; omega)
      unfold ringsV at c2
      rw [e1, e2] at c2
      exact ⟨ringsN l, goneN l, 0, by have := ring_len hm hb; omega, ringsOk_ac l (by omega) hm hb (by omega), c2⟩
theorem turn_all {l : List Db} (hm : l.all mayD = true) (t : Nat) : (l.drop t ++ l.take t).all mayD = true := by
  rw [List.all_eq_true]
  intro d hd
  rcases List.mem_append.1 hd with q | q
  · exact all_may hm d (List.mem_of_mem_drop q)
  · exact all_may hm d (List.mem_of_mem_take q)
theorem turn_ow (l : List Db) (t : Nat) (k : DK) : ow (l.drop t ++ l.take t) k = ow l k := ow_perm (by
  have := @List.perm_append_comm _ (l.drop t) (l.take t)
  rwa [List.take_append_drop] at this) k
theorem turn_len (l : List Db) (t : Nat) : (l.drop t ++ l.take t).length = l.length := by
  have := (@List.perm_append_comm _ (l.drop t) (l.take t)).length_eq
  rwa [List.take_append_drop] at this
theorem cut_all {l : List Db} (hm : l.all mayD = true) {i : Nat} {x : Db} (hx : l[i]? = some x) {n : Int} (h1 : 0 < n) (h2 : n < x.2) : (l.set i (x.1, n) ++ [(x.1, x.2 - n)]).all mayD = true := by
  have hxm := all_may hm x (List.mem_of_getElem? hx)
  obtain ⟨_, _, _, _, hb, _⟩ := mayD_t hxm
  rw [List.all_eq_true]
  intro d hd
  rcases List.mem_append.1 hd with q | q
  · rcases List.mem_or_eq_of_mem_set q with r | r
    · exact all_may hm d r
    · rw [r]; exact may_of hxm rfl (by dsimp only; omega) (by dsimp only; omega)
  · rw [List.mem_singleton.1 q]; exact may_of hxm rfl (by dsimp only; omega) (by dsimp only; omega)
section
variable {P : Program} {T : Tab P} {O : Org} {env : Env} {h : Hp} {o : Oper}
theorem LStep_dropM {t e sz : Nat} {x y : Operand} {α : Type} {enc : α → List D} {es : List α} {k : Nat} (ho : o.op = .slice t x (some y) none none) (hT : T.desc t = some (.slice e)) (hS : T.size e = some sz)
    (hx : evalA env x = .d (.sl sz (es.map enc))) (hy : evalA env y = .d (.sc (.int .i64 (k : Nat)))) (hd : dstOk o.dst O.nt = true) (hk : k ≤ es.length) : LStep P O o env h [] [] (.d (.sl sz ((es.drop k).map enc))) [] := by
  have := LStep_partM (O := O) (o := o) (h := h) (T := T) (es := es) (l := (k : Nat)) (q := ((es.map enc).length : Nat)) ho hT hS hx (by simp only [loOf, hy]) rfl hd (by omega) (by rw [List.length_map]; omega) (by rw [List.length_map]; omega)
  rw [Int.toNat_natCast, Int.toNat_natCast, List.length_map, List.take_length] at this
  exact this
theorem LStep_takeM {t e sz : Nat} {x y : Operand} {α : Type} {enc : α → List D} {es : List α} {k : Nat} (ho : o.op = .slice t x none (some y) none) (hT : T.desc t = some (.slice e)) (hS : T.size e = some sz)
    (hx : evalA env x = .d (.sl sz (es.map enc))) (hy : evalA env y = .d (.sc (.int .i64 (k : Nat)))) (hd : dstOk o.dst O.nt = true) (hk : k ≤ es.length) : LStep P O o env h [] [] (.d (.sl sz ((es.take k).map enc))) [] := by
  have := LStep_partM (O := O) (o := o) (h := h) (T := T) (es := es) (l := 0) (q := (k : Nat)) ho hT hS hx rfl (by simp only [hiOf, hy]) hd (by omega) (by omega) (by omega)
  rw [Int.toNat_natCast] at this
  exact this
end
end Go.Proofs.Ytaejikoicbbeeaa
