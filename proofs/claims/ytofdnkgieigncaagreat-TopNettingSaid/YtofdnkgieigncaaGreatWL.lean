import Derived.Test.YtofdnkgieigncaaGreatWK
namespace Go.Proofs.YtofdnkgieigncaaGreat
open Go.SL
/-! ### what stays: plain -/
theorem mayD_of {d : Db} (h1 : nameOk d.1.2.1 = true) (h2 : nameOk d.1.2.2 = true) (h3 : d.1.2.1 ≠ d.1.2.2) (h4 : 1 ≤ d.2) (h5 : d.2 ≤ 1099511627776) (h6 : curNOk d.1.1 = true) : mayD d = true := by
  unfold mayD amtB
  simp only [Bool.and_eq_true, Bool.not_eq_true', leb_t, decide_eq_true_eq]
  refine ⟨h1, h2, ?_, h4, h6, by omega, h5⟩
  rw [Bool.eq_false_iff]
  exact fun h => h3 ((eqs_t).1 h)
theorem par_ok {l : List Db} (hm : l.all mayD = true) {p : ByteArray} (hp : p ∈ parN l) : nameOk p = true := by
  obtain ⟨d, hd, h | h⟩ := ((parN_spec l).2 p).1 hp
  · rw [← h]; exact (mayD_t (all_may hm d hd)).1
  · rw [← h]; exact (mayD_t (all_may hm d hd)).2.1
theorem cur_ok {l : List Db} (hm : l.all mayD = true) {c : ByteArray} (hc : c ∈ curN l) : curNOk c = true := by
  obtain ⟨d, hd, h⟩ := ((curN_spec l).2 c).1 hc
  rw [← h]; exact (mayD_t (all_may hm d hd)).2.2.2.2.2
theorem row_in {l : List Db} {c p : ByteArray} {n : Int} (h : (p, n) ∈ rowC l c) : p ∈ parN l ∧ n = psI l (p, c) := by
  unfold rowC at h
  obtain ⟨q, hq, e⟩ := List.mem_map.1 h
  obtain ⟨rfl, rfl⟩ := Prod.mk.inj e
  exact ⟨hq, rfl⟩
theorem netN_in {l : List Db} {x : Db} (h : x ∈ netN l) : x.1.1 ∈ curN l ∧ x.1.2.1 ∈ parN l ∧ x.1.2.2 ∈ parN l ∧ 1 ≤ x.2 ∧ x.2 ≤ -psI l (x.1.2.1, x.1.1) ∧ x.2 ≤ psI l (x.1.2.2, x.1.1) := by
  unfold netN at h
  obtain ⟨c, hc, h⟩ := List.mem_flatMap.1 h
  obtain ⟨t, ht, rfl⟩ := List.mem_map.1 h
  obtain ⟨⟨a, ha, ha2⟩, ⟨b, hb, hb2⟩, h1⟩ := set2_mem _ _ (ngs_pos _) (pss_pos _) t ht
  unfold ngs at ha
  unfold pss at hb
  obtain ⟨u, hu, e⟩ := List.mem_filterMap.1 ha
  obtain ⟨v, hv, e2⟩ := List.mem_filterMap.1 hb
  split at e
  · rename_i hu0
    obtain ⟨q1, q2⟩ := Prod.mk.inj (Option.some.inj e)
    split at e2
    · have q3 := Option.some.inj e2
      obtain ⟨m1, m2⟩ := row_in (c := c) (p := u.1) (n := u.2) hu
      obtain ⟨m3, m4⟩ := row_in (c := c) (p := v.1) (n := v.2) hv
      rw [q3] at m3 m4
      rw [q1] at m1 m2
      dsimp only at m3 m4 ⊢
      exact ⟨hc, m1, m3, h1, by omega, by omega⟩
    · cases e2
  · cases e
theorem net_may {l : List Db} (hm : l.all mayD = true) (hb : ¬ badS l) : (netN l).all mayD = true := by
  rw [List.all_eq_true]
  intro x hx
  obtain ⟨a, b, c, d, e, f⟩ := netN_in hx
  refine mayD_of (par_ok hm b) (par_ok hm c) (fun q => ?_) d ?_ (cur_ok hm a)
  · rw [q] at e; omega
  · rcases Int.lt_or_le 1099511627776 x.2 with q | q
    · exact absurd ⟨(x.1.2.2, x.1.1), .inl (by omega)⟩ hb
    · exact q
theorem sameP_of {a b : List Db} (ha : a.all mayD = true) (hb : b.all mayD = true) (h : ∀ s, psI a s = psI b s) : sameP a b = true := by
  unfold sameP
  rw [mF_all ha, mF_all hb, posN_congr h]
  exact entB_self _
theorem pair_may {l : List Db} (hm : l.all mayD = true) (hb : ¬ badN l) : (pairN l).all mayD = true := fit_may (okD hm hb) hm (pairN_told (okD hm hb).one) (fun _ => Int.le_refl _)
theorem ring_may {l : List Db} (hm : l.all mayD = true) (hb : ¬ badN l) : (ringsN l).all mayD = true := fit_may (okD hm hb) hm (ringsN_told (okD hm hb)) (fun k => (rg_tab (okD hm hb) k.1).2.1 _ _)
theorem pair_len {l : List Db} (hm : l.all mayD = true) (hb : ¬ badN l) : (pairN l).length ≤ l.length := fit_len (okD hm hb) (pairN_told (okD hm hb).one) (fun _ => Int.le_refl _)
theorem ring_len {l : List Db} (hm : l.all mayD = true) (hb : ¬ badN l) : (ringsN l).length ≤ l.length := fit_len (okD hm hb) (ringsN_told (okD hm hb)) (fun k => (rg_tab (okD hm hb) k.1).2.1 _ _)
theorem sum_pair {l : List Db} (hm : l.all mayD = true) (c : ByteArray) : sumC (pairN l) c ≤ sumC l c := pairN_sum (may_one hm) c
theorem sum_net {l X : List Db} (hX : X.all mayD = true) (h : ∀ s, psI X s = psI l s) (c : ByteArray) : sumC (netN l) c ≤ sumC X c := netN_least (fun d hd => by have := may_one hX d hd; omega) h c
end Go.Proofs.YtofdnkgieigncaaGreat
namespace Go.Proofs.YtofdnkgieigncaaGreat
open Go.SL
/-! ### NettingLeast: plain -/
end Go.Proofs.YtofdnkgieigncaaGreat
