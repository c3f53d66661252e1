import Derived.Test.YtofdnkgieigncaaGreatNY
import Derived.Test.YtofdnkgieigncaaGreatH2
import Derived.Shelf.Slices.CompactS
namespace Go.SL
open Go.RowKit Go.Proofs Go.Shelf
section
variable {P : Program} {ρ : Ren}
/-- 'slices.Compact(x)' at strings -/
theorem compactS_row (L : Lays.n194 P ρ) {e : Nat} {zs ps : List ByteArray} (hz : zs.length ≤ 140737488351232) (hps : Lib.compact (zs.map bL) = ps.map bL) (w : World) (X : Nat → Prop) (v : Value) (h : RowAt w w X e 1 v (zs.map sN)) :
    Calls P (ρ.f 194) #[v] w fun ex w' => ∃ A n c, v = .slice A n c ∧ ex = .returned (.slice A ps.length c) ∧ Ext (fun b => blk v = some b) w w' ∧ RowAt w w' X e 1 v ((ps ++ List.replicate (zs.length - ps.length) ByteArray.empty).map sN) := by
  have hc : ps.length ≤ zs.length := by
    have := Lib.compact_length_le (zs.map bL)
    rw [hps] at this
    simpa using this
  rcases h with ⟨rfl, hes⟩ | ⟨g, cap, cur, rfl, e3, e4, e5, e6, e7⟩
  · have : zs = [] := by simpa using hes
    subst this
    have hp0 : ps = [] := by
      have : ps.length = 0 := by simpa using hc
      exact List.eq_nil_of_length_eq_zero this
    subst hp0
    refine (Any.slices_Compact_string_empty L none 0 w).mono ?_
    rintro ex w' ⟨rfl, rfl⟩
    exact ⟨none, 0, 0, rfl, rfl, Ext.refl _ _, .inl ⟨rfl, rfl⟩⟩
  · have hl1 : (zs.map sN).length = zs.length := List.length_map _
    rw [hl1] at e4 ⊢
    have key := Any.slices_Compact_string L g 0 cap (zs.map bL) w (strs_holds e3 zs e7) (by rw [List.length_map]; omega) (by rw [List.length_map]; exact e4)
    rw [List.length_map, hps, List.length_map] at key
    refine key.mono ?_
    rintro ex w' ⟨rfl, q, rfl⟩
    have hful : ps.map bL ++ List.replicate (zs.length - ps.length) [] = (ps ++ List.replicate (zs.length - ps.length) ByteArray.empty).map bL := by rw [List.map_append, List.map_replicate]; rfl
    rw [hful]
    have hfl : (ps ++ List.replicate (zs.length - ps.length) ByteArray.empty).length = zs.length := by simp; omega
    generalize (ps ++ List.replicate (zs.length - ps.length) ByteArray.empty) = full at hfl ⊢
    have hx := putRow_ext (w := w) (enc := encStr) (g := g) (n := q) (os := #[]) (full.map bL).toArray
    have ha := putRow_at (w := w) (enc := encStr) (n := q) (os := #[]) (full.map bL).toArray e3
    rw [Sort.grow_empty] at hx ha
    refine ⟨_, _, _, rfl, rfl, hx.mono (fun b _ hb => by obtain rfl : b = g := hb; rfl), .inr ⟨g, cap, _, by rw [List.length_map, hfl], ha, by rw [List.length_map]; omega, e5, by simp [Sort.putCells, e6], fun i x hi => ⟨strs_one full i x hi, fun j y hj => ?_⟩⟩⟩
    obtain ⟨b, h1, h2⟩ := strs_cells (w := w) (X := X) full (d := (full.map bL).toArray) (fun i _ => by simp) i x hi j y hj
    obtain ⟨h3, h4⟩ := Array.getElem?_eq_some_iff.1 h1
    refine ⟨_, ?_, h2⟩
    rw [putCells_get cur (full.map bL).toArray (by simp; omega), dif_pos h3, h4]
end
section
open Go.Lib
theorem cut_sorted {α : Type} [Inhabited α] [DecidableEq α] {lt : α → α → Bool} (htri : ∀ a b, lt a b = false → lt b a = false → a = b) {d : Array α} (hs : ∀ i j : Nat, i ≤ j → j < d.size → lt d[j]! d[i]! = false) : ∀ m, m ≤ d.size → (∀ x, x ∈ compactUpTo d m ↔ ∃ j, j < m ∧ d[j]! = x) ∧ (compactUpTo d m).Pairwise (fun a b => lt a b = true)
  | 0, _ => ⟨fun x => by simp [compactUpTo], by simp [compactUpTo]⟩
  | m + 1, hm => by
    obtain ⟨h1, h2⟩ := cut_sorted htri hs m (by omega)
    rw [compactUpTo_succ]
    by_cases hk : keeps d m = true
    · rw [if_pos hk]
      refine ⟨fun x => ?_, ?_⟩
      · rw [List.mem_append, h1 x, List.mem_singleton]
        constructor
        · rintro (⟨j, hj, e⟩ | e)
          · exact ⟨j, by omega, e⟩
          · exact ⟨m, by omega, e.symm⟩
        · rintro ⟨j, hj, e⟩
          rcases Nat.lt_or_ge j m with h | h
          · exact .inl ⟨j, h, e⟩
          · obtain rfl : j = m := by omega
            exact .inr e.symm
      · rw [List.pairwise_append]
        refine ⟨h2, by simp, fun x hx y hy => ?_⟩
        obtain ⟨j, hj, rfl⟩ := (h1 x).1 hx
        rw [List.mem_singleton] at hy
        subst hy
        have hne : d[m]! ≠ d[m - 1]! := by
          have := of_decide_eq_true hk
          rcases this with h | h
          · omega
          · exact h
        have a1 := hs j (m - 1) (by omega) (by omega)
        have a2 := hs (m - 1) m (by omega) (by omega)
        have a3 := hs j m (by omega) (by omega)
        cases hq : lt d[j]! d[m]! with
        | true => rfl
        | false =>
          have e := htri _ _ hq a3
          rw [e] at a1
          exact absurd (htri _ _ a2 a1) hne
    · rw [if_neg hk, List.append_nil]
      refine ⟨fun x => ?_, h2⟩
      rw [h1 x]
      have hne : m ≠ 0 ∧ d[m]! = d[m - 1]! := by
        have : ¬ (m = 0 ∨ d[m]! ≠ d[m - 1]!) := fun h => hk (decide_eq_true h)
        refine ⟨fun h => this (.inl h), ?_⟩
        by_cases h : d[m]! = d[m - 1]!
        · exact h
        · exact absurd (.inr h) this
      constructor
      · rintro ⟨j, hj, e⟩
        exact ⟨j, by omega, e⟩
      · rintro ⟨j, hj, e⟩
        rcases Nat.lt_or_ge j m with h | h
        · exact ⟨j, h, e⟩
        · obtain rfl : j = m := by omega
          exact ⟨j - 1, by omega, by rw [← e, hne.2]⟩
def ltL (a b : List UInt8) : Bool := lts ⟨a.toArray⟩ ⟨b.toArray⟩
theorem ltL_bL (a b : ByteArray) : ltL (bL a) (bL b) = lts a b := rfl
theorem compactS_sorted {zs ps : List ByteArray} (hs : zs.Pairwise fun x y => lts y x = false) (hp : ps.Pairwise fun x y => lts x y = true) (hm : ∀ x, x ∈ ps ↔ x ∈ zs) : compact (zs.map bL) = ps.map bL := by
  have hg : ∀ i : Nat, ∀ hi : i < zs.length, (zs.map bL).toArray[i]! = bL zs[i] := fun i hi => by rw [getElem!_pos (zs.map bL).toArray i (by simpa using hi)]; simp
  have hz : (zs.map bL).toArray.size = zs.length := by simp
  have h0 : ∀ i j : Nat, i ≤ j → j < (zs.map bL).toArray.size → ltL (zs.map bL).toArray[j]! (zs.map bL).toArray[i]! = false := by
    intro i j hij hj
    rw [hz] at hj
    rw [hg i (by omega), hg j hj, ltL_bL]
    rcases Nat.lt_or_ge i j with h | h
    · exact List.pairwise_iff_getElem.1 hs i j (by omega) hj h
    · obtain rfl : i = j := by omega
      exact lts_irrefl _
  have htri : ∀ a b : List UInt8, ltL a b = false → ltL b a = false → a = b := fun a b h k => by
    have := lts_tri h k
    have := congrArg (fun x : ByteArray => x.data.toList) this
    simpa using this
  obtain ⟨h1, h2⟩ := cut_sorted htri h0 zs.length (by simp)
  have hbi : ∀ a b : List UInt8, (ltL a b = true) = (ltL a b = true) := fun _ _ => rfl
  unfold compact
  rw [List.length_map]
  -- two rows in strict order with the same members
  have hlist : ∀ {a b : List (List UInt8)}, a.Pairwise (fun x y => ltL x y = true) → b.Pairwise (fun x y => ltL x y = true) → (∀ x, x ∈ a ↔ x ∈ b) → a = b := by
    intro a
    induction a with
    | nil => intro b _ _ h; cases b with
      | nil => rfl
      | cons y b => have := (h y).2 List.mem_cons_self; cases this
    | cons x a ih =>
      intro b ha hb h
      cases b with
      | nil => have := (h x).1 List.mem_cons_self; cases this
      | cons y b =>
        rw [List.pairwise_cons] at ha hb
        have irr : ∀ z : List UInt8, ltL z z = true → False := fun z hz => by rw [show ltL z z = false from lts_irrefl _] at hz; cases hz
        have hxy : x = y := by
          rcases List.mem_cons.1 ((h x).1 List.mem_cons_self) with q | q
          · exact q
          · rcases List.mem_cons.1 ((h y).2 List.mem_cons_self) with r | r
            · exact r.symm
            · exact (irr _ (lts_trans (hb.1 x q) (ha.1 y r))).elim
        subst hxy
        congr 1
        refine ih ha.2 hb.2 (fun z => ?_)
        constructor
        · intro hz
          rcases List.mem_cons.1 ((h z).1 (List.mem_cons_of_mem _ hz)) with q | q
          · exact (irr _ (q ▸ ha.1 z hz)).elim
          · exact q
        · intro hz
          rcases List.mem_cons.1 ((h z).2 (List.mem_cons_of_mem _ hz)) with q | q
          · exact (irr _ (q ▸ hb.1 z hz)).elim
          · exact q
  refine hlist h2 (List.pairwise_map.2 (hp.imp (fun h => by rw [ltL_bL]; exact h))) (fun x => ?_)
  rw [h1 x, List.mem_map]
  constructor
  · rintro ⟨j, hj, e⟩
    rw [hg j hj] at e
    exact ⟨zs[j], (hm _).2 (List.getElem_mem hj), e⟩
  · rintro ⟨y, hy, rfl⟩
    obtain ⟨j, hj, e⟩ := List.getElem_of_mem ((hm y).1 hy)
    exact ⟨j, hj, by rw [hg j hj, e]⟩
end
end Go.SL
namespace Go.Proofs.YtofdnkgieigncaaGreat
open Go.SL
/-! ### parties -/
def prt (l : List Db) : List ByteArray := l.flatMap fun d => [d.1.2.1, d.1.2.2]
theorem prt_snoc (l : List Db) (d : Db) : prt (l ++ [d]) = prt l ++ [d.1.2.1] ++ [d.1.2.2] := by unfold prt; rw [List.flatMap_append]; simp
theorem prt_len (l : List Db) : (prt l).length = 2 * l.length := by
  unfold prt
  induction l with
  | nil => rfl
  | cons d l ih => rw [List.flatMap_cons, List.length_append, ih, List.length_cons]; simp only [List.length_cons, List.length_nil]; omega
theorem prt_mem (l : List Db) (p : ByteArray) : p ∈ prt l ↔ p ∈ parN l := by
  rw [(parN_spec l).2]
  unfold prt
  rw [List.mem_flatMap]
  constructor
  · rintro ⟨d, hd, h⟩
    simp only [List.mem_cons, List.not_mem_nil, or_false] at h
    rcases h with h | h
    · exact ⟨d, hd, .inl h.symm⟩
    · exact ⟨d, hd, .inr h.symm⟩
  · rintro ⟨d, hd, h | h⟩
    · exact ⟨d, hd, by simp [h]⟩
    · exact ⟨d, hd, by simp [h]⟩
theorem prt_cut (l : List Db) : Lib.compact ((sortS (prt l)).map bL) = (parN l).map bL :=
  compactS_sorted (sortS_sorted _) (parN_spec l).1 (fun x => by rw [(sortS_perm _).mem_iff, prt_mem])
set_option maxRecDepth 10000 in
set_option maxHeartbeats 4000000 in
theorem parties_ac (l : List Db) (hl : l.length ≤ 4096) : AC Tryz.prog 55 [.d (.sl 4 (l.map dbE))] [] [] (fun r _ => r = .d (.sl 1 ((parN l).map sN))) := by
  refine AC_enter Tryz.func55 rfl Tryz.ntmps55 (rv := [.tmp 2]) rfl rfl (by simp) (fun w X G => ?_)
  repeat' (first | ((with_reducible refine gA ?_); (first | refine AW_seq ?_ | refine AW_region ?_ | refine AW_block ?_)) | ((with_reducible refine gS ?_); refine Es_s (T := Tryz.tab) rfl rfl rfl rfl ?_) | (((with_reducible refine gS ?_); apply Es_q); rfl; rfl; refine LStep_lenM (T := Tryz.tab) rfl rfl rfl rfl) | (with_reducible refine Es_nil ?_) | (with_reducible refine then_n ?_))
  refine AW_openNil (t := 3) (id := 2000) (e := 9) (sz := 1) rfl rfl rfl rfl ?_
  refine AW_forE (S := Nat) (fun k => k ≤ l.length) (fun k => [(8, .d (.sc (.int .i64 (k : Nat)))), (3, .own 2000 ((prt (l.take k)).map sN).length)]) (fun k => [(2000, some (.arr 9 1 ((prt (l.take k)).map sN)))]) (fun k => l.length - k) 0 (by omega) (by (repeat' (first | exact trivial | exact rfl | (refine ⟨Or.inl rfl, ?_⟩) | (refine ⟨Or.inr rfl, ?_⟩) | (refine ⟨Or.inr trivial, ?_⟩) | (refine ⟨rfl, ?_⟩) | (refine ⟨?_, ?_⟩)))) (by (repeat' (first | exact trivial | exact rfl | (refine ⟨Or.inl rfl, ?_⟩) | (refine ⟨Or.inr rfl, ?_⟩) | (refine ⟨Or.inr trivial, ?_⟩) | (refine ⟨rfl, ?_⟩) | (refine ⟨?_, ?_⟩)))) ?_
  intro k hk
  by_cases hlt : k < l.length
  · obtain ⟨x, hx, _⟩ := drop_at hlt
    have g1 : ltb (k : Nat) (l.length : Nat) = true := by rw [ltb_t]; omega
    have hp := prt_len (l.take k)
    have h3 := take_len_le l k
    have hm : (prt (l.take (k + 1))).map sN = (prt (l.take k)).map sN ++ [[.sc (.string x.1.2.1)], [.sc (.string x.1.2.2)]] := by rw [take_at hx, prt_snoc, List.map_append, List.map_append, List.append_assoc]; rfl
    repeat' (first | ((with_reducible refine gA ?_); (first | refine AW_seq ?_ | refine AW_region ?_ | (refine AW_condY rfl ?_ ?_; assumption) | refine AW_block ?_ | refine AW_skip ?_)) | ((with_reducible refine gS ?_); refine Es_s (T := Tryz.tab) rfl rfl rfl rfl ?_) | (((with_reducible refine gS ?_); apply Es_xs); rfl; rfl; (refine LStep_append (T := Tryz.tab) rfl rfl rfl rfl rfl rfl rfl rfl rfl rfl ?_ ?_ ?_; rfl; (simp only [List.length_map, List.length_cons, List.length_nil]; omega); (unfold maxLen; simp only [List.length_map, List.length_cons, List.length_nil]; omega)); rfl) | (((with_reducible refine gS ?_); apply Es_q); rfl; rfl; (first | (refine LStep_add rfl rfl rfl rfl ?_; (refine IntWalk.i64_in _ ?_; first | omega | (simp only [cmps] at *; omega))) | (refine LStep_indexM (T := Tryz.tab) (c := ?_) rfl rfl rfl rfl rfl rfl ?_; rotate_left; assumption) | (refine LStep_lit (T := Tryz.tab) rfl rfl rfl rfl rfl rfl rfl rfl ?_; (refine Nat.le_of_ble_eq_true ?_; rfl)))) | (refine Es_skip rfl ?_ rfl ?_; (first | rfl | (refine w_tf ?_; assumption) | (refine w_ft ?_; assumption))) | (((with_reducible refine gS ?_); apply Es_xs); rfl; rfl; refine LStep_allocN (T := Tryz.tab) rfl rfl rfl rfl rfl rfl; rfl) | (((with_reducible refine gS ?_); apply Es_xn); rfl; rfl; (refine LStep_storeN (T := Tryz.tab) rfl rfl rfl rfl rfl rfl rfl ?_ rfl; (refine Nat.le_of_ble_eq_true ?_; rfl)); rfl) | (with_reducible refine Es_nil ?_) | (with_reducible refine then_n ?_) | (with_reducible refine block_n ?_))
    all_goals first
      | (refine ⟨k + 1, by omega, by omega, ?_, by (repeat' (first | exact trivial | exact rfl | (refine ⟨Or.inl rfl, ?_⟩) | (refine ⟨Or.inr rfl, ?_⟩) | (refine ⟨Or.inr trivial, ?_⟩) | (refine ⟨rfl, ?_⟩) | (refine ⟨?_, ?_⟩))), ?_, by (repeat' (first | exact trivial | exact rfl | (refine ⟨Or.inl rfl, ?_⟩) | (refine ⟨Or.inr rfl, ?_⟩) | (refine ⟨Or.inr trivial, ?_⟩) | (refine ⟨rfl, ?_⟩) | (refine ⟨?_, ?_⟩)))⟩
         · rw [hm]; (repeat' (first | exact trivial | exact rfl | (refine ⟨Or.inl rfl, ?_⟩) | (refine ⟨Or.inr rfl, ?_⟩) | (refine ⟨Or.inr trivial, ?_⟩) | (refine ⟨rfl, ?_⟩) | (refine ⟨?_, ?_⟩)))
         · rw [hm]; (repeat' (first | exact trivial | exact rfl | (refine ⟨Or.inl rfl, ?_⟩) | (refine ⟨Or.inr rfl, ?_⟩) | (refine ⟨Or.inr trivial, ?_⟩) | (refine ⟨rfl, ?_⟩) | (refine ⟨?_, ?_⟩))))
      | trace_state
  · have : k = l.length := by omega
    subst this
    have g1 : ltb (l.length : Nat) (l.length : Nat) = false := by rw [ltb_f]; omega
    rw [List.take_length]
    have hp := prt_len l
    have hcut := prt_cut l
    have hZl : (sortS (prt l)).length = (prt l).length := (sortS_perm _).length_eq
    have hpl := parN_len l
    have cs : AC Tryz.prog 107 _ _ _ _ := sortStrs_ac Tryz.sortStrs (callable_of Tryz.func107 rfl rfl) 9 ((prt l).map sN).length (prt l) (List.length_map _) (by omega)
    have cc := fun w X v h => compactS_row Tryz.compactStrs (e := 9) (zs := sortS (prt l)) (by omega) hcut w X v h
    have hll : ((prt l).map sN).length = ((sortS (prt l)).map sN).length := by rw [List.length_map, List.length_map, hZl]
    have h2 : ((parN l ++ List.replicate ((sortS (prt l)).length - (parN l).length) ByteArray.empty).map sN).length = ((sortS (prt l)).map sN).length := by simp only [List.length_map, List.length_append, List.length_replicate]; omega
    have h3 : (parN l).length ≤ ((sortS (prt l)).map sN).length := by rw [List.length_map]; omega
    have hfin : ((parN l ++ List.replicate ((sortS (prt l)).length - (parN l).length) ByteArray.empty).map sN).take (parN l).length = (parN l).map sN := by
      rw [List.map_append, List.take_append_of_le_length (by rw [List.length_map]; exact Nat.le_refl _), List.take_of_length_le (by rw [List.length_map]; exact Nat.le_refl _)]
    repeat' (first | ((with_reducible refine gA ?_); (first | refine AW_seq ?_ | refine AW_region ?_ | (refine AW_condN rfl ?_ ?_; assumption) | refine AW_ret ?_ | refine AW_exit ?_)) | ((with_reducible refine gS ?_); refine Es_s (T := Tryz.tab) rfl rfl rfl rfl ?_) | (((with_reducible refine gS ?_); apply Es_xs); rfl; rfl; refine LStep_rowD (f := 108) (callable_of Tryz.func108 rfl rfl) rfl rfl rfl hll h2 h3 cc; rfl) | (((with_reducible refine gS ?_); apply Es_xg); rfl; rfl; refine LStep_callHN [(1000, 2000)] [] cs rfl rfl ⟨rfl, trivial⟩ rfl ⟨hll, trivial⟩ rfl rfl; rfl) | (with_reducible refine Es_nil ?_) | (with_reducible refine then_n ?_) | (with_reducible refine then_e ?_) | ((with_reducible refine block_e ?_ ?_); rfl) | ((with_reducible refine gR ?_); first | refine ret1 rfl ?_ | refine ret2 rfl rfl ?_ | refine ret0 ?_ | refine end1 rfl ?_ | refine end0 ?_))
    all_goals first
      | exact congrArg (fun x => AV.d (.sl 1 x)) hfin
      | trace_state
/-! ### a currency's table -/
theorem los_range {n : Nat} (hn : n ≤ 8) {t : Nat → Nat → Int} (ht : Tab8 t (List.range n)) : los8 t = losR 0 (List.range n) ltI t := by
  have h8 : ∀ {t : Nat → Nat → Int}, Tab8 t (List.range n) → Tab8 t S8 := fun h => ⟨h.nn, h.top, fun i j hp => by
    obtain ⟨a, b⟩ := h.inS i j hp
    have := List.mem_range.1 a
    have := List.mem_range.1 b
    exact ⟨List.mem_range.2 (by omega), List.mem_range.2 (by omega)⟩⟩
  have hring : ∀ {t : Nat → Nat → Int}, Tab8 t (List.range n) → ringR 0 t S8 ltI = ringR 0 t (List.range n) ltI := fun {t} h =>
    ringR_sub 0 List.nodup_range List.nodup_range (fun q hq => by
      have e : List.range 8 = List.range n ++ (List.range 8).drop n := by
        have := List.take_append_drop n (List.range 8)
        rw [List.take_range, Nat.min_eq_left hn] at this
        exact this.symm
      show (List.range 8).filter q = _
      rw [e, List.filter_append]
      have : ((List.range 8).drop n).filter q = [] := by
        rw [List.filter_eq_nil_iff]
        intro x hx hqx
        have hxn : n ≤ x := by
          obtain ⟨k, hk⟩ := List.getElem?_of_mem hx
          rw [List.getElem?_drop] at hk
          obtain ⟨h1, h2⟩ := List.getElem?_eq_some_iff.1 hk
          rw [List.getElem_range] at h2
          omega
        rcases hq x hqx with ⟨y, hy⟩ | ⟨y, hy⟩
        · have := List.mem_range.1 (h.inS _ _ hy).1; omega
        · have := List.mem_range.1 (h.inS _ _ hy).2; omega
      rw [this, List.append_nil]) (fun a x hp => (h8 h).inS a x hp)
  refine losR_ind 0 (List.range n) ltI (M := fun t => los8 t = losR 0 (List.range n) ltI t) (fun t ht hr => ?_) (fun t r ht hr hi ih => ?_) t ht
  · unfold los8
    rw [losR_none 0 hr, losR_none 0 (by rw [hring ht]; exact hr)]
  · unfold los8 at *
    rw [losR_some 0 ht hr, losR_some 0 (h8 ht) (by rw [hring ht]; exact hr), ih]
def gN (nm : List ByteArray) (i : Nat) : ByteArray := nm.getD i ByteArray.empty
theorem gN_at {nm : List ByteArray} {i : Nat} {p : ByteArray} (h : nm[i]? = some p) : gN nm i = p := by unfold gN; rw [List.getD_eq_getElem?_getD, h]; rfl
theorem nam_of {nm : List ByteArray} (h : SSN nm) : Nam nm.length (gN nm) nm := by
  refine ⟨?_, fun i j hi hj => ?_⟩
  · refine List.ext_getElem? (fun k => ?_)
    rw [List.getElem?_map]
    by_cases hk : k < nm.length
    · rw [List.getElem?_range hk, List.getElem?_eq_getElem hk, Option.map_some, gN_at (List.getElem?_eq_getElem hk)]
    · rw [List.getElem?_eq_none (by omega), List.getElem?_eq_none (by simp; omega)]; rfl
  · rw [gN_at (List.getElem?_eq_getElem hi), gN_at (List.getElem?_eq_getElem hj)]
    rcases Nat.lt_trichotomy i j with q | q | q
    · rw [decide_eq_true q]; exact List.pairwise_iff_getElem.1 h i j hi hj q
    · subst q; rw [lts_irrefl]; simp
    · rw [decide_eq_false (by omega)]; exact lts_asymm (List.pairwise_iff_getElem.1 h j i hj hi q)
/-- the table of some debts of a currency, by numbers -/
def tabG (nm : List ByteArray) (c : ByteArray) (G : List Db) : Nat → Nat → Int := fun i j => if i < nm.length ∧ j < nm.length then ow G (c, gN nm i, gN nm j) else 0
theorem tabG_nil (nm : List ByteArray) (c : ByteArray) : tabG nm c [] = fun _ _ => 0 := by funext i j; unfold tabG; split <;> rfl
theorem tabG_snoc {nm : List ByteArray} (h : SSN nm) {c p q : ByteArray} {G : List Db} {m : Int} {a b : Nat} (ha : nm[a]? = some p) (hb : nm[b]? = some q) (h0 : ow G (c, p, q) = 0) : updT (tabG nm c G) a b m = tabG nm c (G ++ [((c, p, q), m)]) := by
  have hN := nam_of h
  have hal := (List.getElem?_eq_some_iff.1 ha).1
  have hbl := (List.getElem?_eq_some_iff.1 hb).1
  funext i j
  unfold updT tabG
  by_cases e : i = a ∧ j = b
  · obtain ⟨rfl, rfl⟩ := e
    rw [if_pos ⟨rfl, rfl⟩, if_pos ⟨hal, hbl⟩, gN_at ha, gN_at hb, ow_snoc, if_pos rfl, h0]
    omega
  · rw [if_neg e]
    by_cases hij : i < nm.length ∧ j < nm.length
    · rw [if_pos hij, if_pos hij, ow_snoc, if_neg]
      intro q'
      obtain ⟨_, q2⟩ := Prod.mk.inj q'
      obtain ⟨q3, q4⟩ := Prod.mk.inj q2
      refine e ⟨hN.inj hij.1 hal ?_, hN.inj hij.2 hbl ?_⟩
      · rw [gN_at ha]; exact q3.symm
      · rw [gN_at hb]; exact q4.symm
    · rw [if_neg hij, if_neg hij]
/-- the currencies that have pairs -/
def pcC (l : List Db) (c : ByteArray) : List Db := (parN l).flatMap fun p => (parN l).flatMap fun q => prF l c p q
def rcC (l : List Db) (c : ByteArray) : List Db := (parN l).flatMap fun p => (parN l).flatMap fun q => rgF l c p q
def curP (l : List Db) : List ByteArray := (curN l).filter fun c => !(pcC l c).isEmpty
theorem flat_ne {α β : Type} {f : α → List β} {p : α → Bool} : ∀ {C : List α}, (∀ c ∈ C, p c = false → f c = []) → C.flatMap f = (C.filter p).flatMap f
  | [], _ => rfl
  | c :: C, h => by
    have ih := flat_ne (f := f) (p := p) (C := C) (fun x hx => h x (List.mem_cons_of_mem _ hx))
    rw [List.flatMap_cons, List.filter_cons, ih]
    cases hp : p c with
    | true => rw [if_pos rfl, List.flatMap_cons]
    | false => rw [if_neg (by decide), h c List.mem_cons_self hp]; rfl
theorem sumG_ne {α : Type} {f : α → Int} {p : α → Bool} : ∀ {C : List α}, (∀ c ∈ C, p c = false → f c = 0) → sumG C f = sumG (C.filter p) f
  | [], _ => rfl
  | c :: C, h => by
    have ih := sumG_ne (f := f) (p := p) (C := C) (fun x hx => h x (List.mem_cons_of_mem _ hx))
    rw [sumG_cons, List.filter_cons, ih]
    cases hp : p c with
    | true => rw [if_pos rfl, sumG_cons]
    | false => rw [if_neg (by decide), h c List.mem_cons_self hp]; omega
theorem pc_mem {l : List Db} {c : ByteArray} {x : Db} (h : x ∈ pcC l c) : x.1.1 = c ∧ x.2 = mx0 (netI l x.1) ∧ 0 < x.2 ∧ x.1.2.1 ∈ parN l ∧ x.1.2.2 ∈ parN l := by
  unfold pcC at h
  obtain ⟨p, hp, h⟩ := List.mem_flatMap.1 h
  obtain ⟨q, hq, h⟩ := List.mem_flatMap.1 h
  obtain ⟨rfl, h0⟩ := prF_in h
  exact ⟨rfl, by unfold mx0; rw [if_pos h0], h0, hp, hq⟩
theorem pc_onC (l : List Db) {c : ByteArray} (hc : c ∈ curN l) : onC c (pairN l) = pcC l c := by
  have := flat_on (c := c) (g := pcC l) (fun c' => by
    unfold onC
    by_cases e : c' = c
    · subst e
      rw [if_pos rfl, List.filter_eq_self]
      exact fun d hd => decide_eq_true (pc_mem hd).1
    · rw [if_neg e, List.filter_eq_nil_iff]
      intro d hd h
      exact e ((pc_mem hd).1.symm.trans (of_decide_eq_true h))) (C := curN l) (ssn_nodup (curN_spec l).1)
  rw [if_pos hc] at this
  exact this
theorem pc_ow {l : List Db} (hl : ∀ d ∈ l, 1 ≤ d.2) {c : ByteArray} (hc : c ∈ curN l) (p q : ByteArray) : ow (pcC l c) (c, p, q) = tabN l c p q := by
  rw [← pc_onC l hc, onC_ow, if_pos rfl, pairN_ow hl]
  rfl
theorem pc_keys (l : List Db) {c : ByteArray} (hc : c ∈ curN l) : ((pcC l c).map (·.1)).Nodup := by
  rw [← pc_onC l hc]
  have h : (pairN l).Pairwise fun a b => ltK a.1 b.1 = true := pairN_sorted l
  exact List.pairwise_map.2 ((List.Pairwise.filter _ h).imp (fun {a b} h e => by rw [e, ltK_irrefl] at h; cases h))
theorem tab_zero {l : List Db} (hl : OkD l) {c : ByteArray} (hc : c ∈ curN l) (h : pcC l c = []) : rcC l c = [] ∧ (rgN l c).2 = 0 := by
  have hz : ∀ p q, tabN l c p q = 0 := fun p q => by rw [← pc_ow hl.one hc, h]; rfl
  have hr : ringR zB (tabN l c) (parN l) lts = none := by
    cases hq : ringR zB (tabN l c) (parN l) lts with
    | none => rfl
    | some r =>
      have hi := ringR_is zB hq
      have hne : rng zB r ≠ [] := by unfold rng; simp
      obtain ⟨e, he⟩ := List.exists_mem_of_ne_nil _ hne
      have := hi.pos e he
      rw [hz] at this
      omega
  have e : rgN l c = (tabN l c, 0) := losR_none zB hr
  refine ⟨?_, by rw [e]⟩
  unfold rcC rgF
  rw [e]
  rw [List.flatMap_eq_nil_iff]
  intro p _
  rw [List.flatMap_eq_nil_iff]
  intro q _
  exact if_neg (by dsimp only; rw [hz]; omega)
theorem curP_eq {l : List Db} (hl : OkD l) : pairN l = (curP l).flatMap (pcC l) ∧ ringsN l = (curP l).flatMap (rcC l) ∧ goneN l = sumG (curP l) fun c => (rgN l c).2 := by
  have hp : ∀ c, (!(pcC l c).isEmpty) = false → pcC l c = [] := fun c h => by
    rw [Bool.not_eq_false'] at h
    exact List.isEmpty_iff.1 h
  exact ⟨flat_ne (fun c _ h => hp c h), flat_ne (fun c hc h => (tab_zero hl hc (hp c h)).1), sumG_ne (fun c hc h => (tab_zero hl hc (hp c h)).2)⟩
end Go.Proofs.YtofdnkgieigncaaGreat
namespace Go.Proofs.YtofdnkgieigncaaGreat
open Go.SL
/-! ### rings: plain -/
theorem curP_len (l : List Db) : (curP l).length ≤ l.length := Nat.le_trans (List.length_filter_le _ _) (curN_len l)
theorem curP_nodup (l : List Db) : (curP l).Nodup := (ssn_nodup (curN_spec l).1).filter _
theorem curP_in {l : List Db} {c : ByteArray} (h : c ∈ curP l) : c ∈ curN l ∧ pcC l c ≠ [] := by
  obtain ⟨h1, h2⟩ := List.mem_filter.1 h
  refine ⟨h1, fun e => ?_⟩
  rw [e] at h2
  cases h2
theorem flat_le {α β : Type} (f : α → List β) (n : Nat) (h : ∀ x, (f x).length ≤ n) : ∀ L : List α, (L.flatMap f).length ≤ L.length * n
  | [] => by simp
  | a :: L => by
    have := flat_le f n h L
    have h1 := h a
    rw [List.flatMap_cons, List.length_append, List.length_cons, Nat.add_mul, Nat.one_mul]
    omega
theorem rgF_len (l : List Db) (c p q : ByteArray) : (rgF l c p q).length ≤ 1 := by unfold rgF; split <;> simp
theorem rcP_len {l : List Db} (_h8 : (parN l).length ≤ 8) (c p : ByteArray) (Y : List ByteArray) (hY : Y.length ≤ 8) : (Y.flatMap fun q => rgF l c p q).length ≤ 8 := by
  have := flat_le (fun q => rgF l c p q) 1 (rgF_len l c p) Y
  omega
theorem rcX_len {l : List Db} (h8 : (parN l).length ≤ 8) (c : ByteArray) (X : List ByteArray) (hX : X.length ≤ 8) : (X.flatMap fun p => (parN l).flatMap fun q => rgF l c p q).length ≤ 64 := by
  have := flat_le (fun p => (parN l).flatMap fun q => rgF l c p q) 8 (fun p => rcP_len h8 c p _ h8) X
  omega
theorem rc_len {l : List Db} (h8 : (parN l).length ≤ 8) (c : ByteArray) : (rcC l c).length ≤ 64 := rcX_len h8 c _ h8
theorem okD {l : List Db} (h : l.all mayD = true) (hb : ¬ badN l) : OkD l := ⟨may_one h, fun k => by
  rcases Int.lt_or_le 1099511627776 (netI l k) with q | q
  · exact absurd ⟨k, q⟩ hb
  · exact q⟩
theorem sumG_snoc {α : Type} (f : α → Int) (L : List α) (a : α) : sumG (L ++ [a]) f = sumG L f + f a := by
  induction L with
  | nil => show sumG [a] f = 0 + f a; rw [sumG_cons]; show f a + 0 = _; omega
  | cons b L ih => rw [List.cons_append, sumG_cons, sumG_cons, ih]; omega
/-- a currency's table, loosened -/
theorem cur_tab {l : List Db} (hl : OkD l) (h8 : (parN l).length ≤ 8) {c : ByteArray} (hc : c ∈ curN l) :
    Tab8 (tabG (parN l) c (pcC l c)) S8 ∧ (los8 (tabG (parN l) c (pcC l c))).2 = (rgN l c).2 ∧
      ∀ i j p q, (parN l)[i]? = some p → (parN l)[j]? = some q → (los8 (tabG (parN l) c (pcC l c))).1 i j = (rgN l c).1 p q := by
  have hN := nam_of (parN_spec l).1
  have hI : Img (parN l).length (gN (parN l)) (tabG (parN l) c (pcC l c)) (tabN l c) := fun i j hi hj => by
    unfold tabG
    rw [if_pos ⟨hi, hj⟩, pc_ow hl.one hc]
  have ht := hI.tab hN (tabN_tab hl c) (fun i j h => by unfold tabG; rw [if_neg h])
  obtain ⟨i1, i2⟩ := los_map hN ht hI (tabN_tab hl c)
  have e := los_range h8 ht
  refine ⟨⟨ht.nn, ht.top, fun i j h => ?_⟩, ?_, fun i j p q hi hj => ?_⟩
  · obtain ⟨a, b⟩ := ht.inS i j h
    have := List.mem_range.1 a
    have := List.mem_range.1 b
    exact ⟨List.mem_range.2 (by omega), List.mem_range.2 (by omega)⟩
  · rw [e, i2]; rfl
  · have := i1 i j (List.getElem?_eq_some_iff.1 hi).1 (List.getElem?_eq_some_iff.1 hj).1
    rw [gN_at hi, gN_at hj] at this
    rw [e, this]; rfl
theorem rg_bd {l : List Db} (hl : OkD l) (h8 : (parN l).length ≤ 8) {c : ByteArray} (hc : c ∈ curN l) : 0 ≤ (rgN l c).2 ∧ (rgN l c).2 ≤ 562949953421312 := by
  obtain ⟨h1, h2, _⟩ := cur_tab hl h8 hc
  have h3 := los_bd h1
  have h4 := cnt_le (tabG (parN l) c (pcC l c))
  rw [← h2]
  omega
theorem gone_bd {l : List Db} (hl : OkD l) (h8 : (parN l).length ≤ 8) (C : List ByteArray) (hC : ∀ c ∈ C, c ∈ curN l) : 0 ≤ sumG C (fun c => (rgN l c).2) ∧ sumG C (fun c => (rgN l c).2) ≤ 562949953421312 * (C.length : Int) := by
  induction C with
  | nil => exact ⟨Int.le_refl 0, Int.le_refl 0⟩
  | cons c C ih =>
    obtain ⟨h1, h2⟩ := ih (fun x hx => hC x (List.mem_cons_of_mem _ hx))
    obtain ⟨h3, h4⟩ := rg_bd hl h8 (hC c List.mem_cons_self)
    rw [sumG_cons, List.length_cons, Int.natCast_add, Int.mul_add]
    omega
/-- where a party stands -/
theorem par_at {nm : List ByteArray} (h8 : nm.length ≤ 8) {p : ByteArray} (hp : p ∈ nm) : ∃ a : Nat, a < 8 ∧ nm[a]? = some p ∧ idxG (fun y : ByteArray => eqs p y) nm 0 = ((a : Nat) : Int) := by
  rcases idxG_at (fun y : ByteArray => eqs p y) nm 0 with ⟨_, h⟩ | ⟨k, h1, ⟨x, hx, hq⟩, _⟩
  · have := h p hp
    rw [(eqs_t).2 rfl] at this
    cases this
  · obtain rfl := (eqs_t).1 hq
    refine ⟨k, ?_, hx, by rw [h1, Nat.zero_add]⟩
    have := (List.getElem?_eq_some_iff.1 hx).1
    omega
/-- the next debt of a currency is told in its table -/
theorem tab_step {l : List Db} (h8 : (parN l).length ≤ 8) {c : ByteArray} (hc : c ∈ curN l) {j : Nat} {x : Db} (hx : (pcC l c)[j]? = some x) :
    x.1.1 = c ∧ ∃ a b : Nat, a < 8 ∧ b < 8 ∧ idxG (fun y : ByteArray => eqs x.1.2.1 y) (parN l) 0 = ((a : Nat) : Int) ∧ idxG (fun y : ByteArray => eqs x.1.2.2 y) (parN l) 0 = ((b : Nat) : Int) ∧
      updT (tabG (parN l) c ((pcC l c).take j)) a b x.2 = tabG (parN l) c ((pcC l c).take (j + 1)) := by
  obtain ⟨e, _, _, m1, m2⟩ := pc_mem (List.mem_of_getElem? hx)
  obtain ⟨a, ha, ga, ia⟩ := par_at h8 m1
  obtain ⟨b, hb, gb, ib⟩ := par_at h8 m2
  refine ⟨e, a, b, ha, hb, ia, ib, ?_⟩
  have hk := pc_keys l hc
  have h0 : ow ((pcC l c).take j) x.1 = 0 := by
    have hs : (((pcC l c).take j).map (·.1)) = ((pcC l c).map (·.1)).take j := List.map_take
    refine (ow_in_nodup ?_).2 x.1 ?_
    · rw [hs]; exact hk.sublist (List.take_sublist _ _)
    · rw [hs]; exact nodup_take hk (by rw [List.getElem?_map, hx]; rfl)
  obtain ⟨⟨c', p, q⟩, m⟩ := x
  dsimp only at e ga gb h0 ⊢
  subst e
  rw [tabG_snoc (parN_spec l).1 ga gb h0, take_at hx]
/-- the next currency is another one -/
theorem cur_next {l : List Db} {k : Nat} {c : ByteArray} (hc : (curP l)[k]? = some c) : ((curP l).drop (k + 1)).flatMap (pcC l) = [] ∨ ∃ y ys, ((curP l).drop (k + 1)).flatMap (pcC l) = y :: ys ∧ y.1.1 ≠ c := by
  have hnd := curP_nodup l
  cases hd : (curP l).drop (k + 1) with
  | nil => exact .inl rfl
  | cons c2 C =>
    have hm2 : c2 ∈ curP l := List.mem_of_mem_drop (hd ▸ List.mem_cons_self)
    have hne := (curP_in hm2).2
    cases hp : pcC l c2 with
    | nil => exact absurd hp hne
    | cons y ys =>
      refine .inr ⟨y, ys ++ C.flatMap (pcC l), by rw [List.flatMap_cons, hp]; rfl, fun e => ?_⟩
      have hy := (pc_mem (l := l) (c := c2) (x := y) (by rw [hp]; exact List.mem_cons_self)).1
      rw [hy] at e
      subst e
      have h1 : (curP l)[k + 1]? = some c2 := by
        have := List.getElem?_drop (xs := curP l) (i := k + 1) (j := 0)
        rw [hd] at this
        exact this.symm
      obtain ⟨hk1, e1⟩ := List.getElem?_eq_some_iff.1 h1
      obtain ⟨hk0, e0⟩ := List.getElem?_eq_some_iff.1 hc
      exact List.pairwise_iff_getElem.1 hnd k (k + 1) hk0 hk1 (by omega) (e0.trans e1.symm)
end Go.Proofs.YtofdnkgieigncaaGreat
