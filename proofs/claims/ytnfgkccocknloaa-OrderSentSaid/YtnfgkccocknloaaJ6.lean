import Derived.Test.YtnfgkccocknloaaJ5
namespace Go.Proofs.Ytnfgkccocknloaa
open Go.SL

/-! ### goods.Join, and what counts and sorted counts are -/
set_option maxRecDepth 10000 in
theorem join_ac (l : List Lot) (hl : SumOk l) : AC Try.prog 25 [.d (.sl 2 (l.map Lot.enc))] [] [] (fun r _ => r = .d (.sl 2 ((sortM (cntM l)).map pL))) := by
  have cA := cntM_ac l hl
  obtain ⟨h1, h2⟩ := cntM_nodup l
  have cR := rising_ac (cntM l) h1 (by have := hl.1; omega)
  refine AC_enter Try.func25 rfl Try.ntmps25 (rv := [.tmp 2]) rfl rfl (by simp) (fun w X G => ?_)
  repeat' (first | ((with_reducible refine gA ?_); first | refine AW_seq ?_ | refine AW_region ?_ | refine AW_regionD Try.mixed ?_ | refine AW_condT rfl ?_ | refine AW_condF rfl ?_ | (refine AW_condY rfl ?_ ?_; assumption) | (refine AW_condN rfl ?_ ?_; assumption) | (refine AW_cond rfl (fun hc => ?_) (fun hc => ?_) <;> try (exfalso; simp only [cmpL] at hc; omega)) | refine AW_block ?_ | refine AW_ret ?_ | refine AW_skip ?_ | refine AW_exit ?_) | (first | ((with_reducible refine gS ?_); refine Es_s (T := Try.tab) rfl rfl rfl rfl ?_) | ((with_reducible refine gD ?_); refine Ed_s (T := Try.tab) rfl rfl rfl rfl ?_)) | ((first | ((with_reducible refine gS ?_); apply Es_xg) | ((with_reducible refine gD ?_); apply Ed_xg)); rfl; (first | rfl | (refine w_tt ?_; assumption) | (refine w_ff ?_; assumption)); (first | refine LStep_callHN [] [(6, 4)] cA rfl rfl trivial rfl trivial rfl rfl | refine LStep_callHN [(1000, 4)] [] cR rfl rfl ⟨rfl, trivial⟩ rfl ⟨trivial, trivial⟩ rfl rfl); rfl) | ((first | ((with_reducible refine gS ?_); apply Es_q) | ((with_reducible refine gD ?_); apply Ed_q)); rfl; (first | rfl | (refine w_tt ?_; assumption) | (refine w_ff ?_; assumption)); first | refine LStep_simp (T := Try.tab) rfl rfl | refine LStep_lenM (T := Try.tab) rfl rfl rfl rfl | (refine LStep_add rfl rfl rfl rfl ?_; (refine IntWalk.i64_in _ ?_; first | omega | (simp only [cmps] at *; omega))) | (refine LStep_sub rfl rfl rfl rfl ?_; (refine IntWalk.i64_in _ ?_; first | omega | (simp only [cmps] at *; omega))) | (refine LStep_mul rfl rfl rfl rfl ?_; (refine IntWalk.i64_in _ ?_; first | omega | (simp only [cmps] at *; omega))) | (refine LStep_conv (T := Try.tab) rfl rfl rfl rfl rfl ?_; (refine IntWalk.i64_in _ ?_; first | omega | (simp only [cmps] at *; omega))) | refine LStep_wrap (T := Try.tab) rfl rfl | (refine LStep_pickT rfl rfl ?_ rfl rfl; assumption) | (refine LStep_pickF rfl rfl ?_ rfl rfl; assumption) | (refine LStep_indexM (T := Try.tab) (c := ?_) rfl rfl rfl rfl rfl rfl ?_; rotate_left; assumption) | (refine LStep_index (T := Try.tab) (c := ?_) rfl rfl rfl rfl rfl rfl ?_ ?_; rotate_left; omega; (first | assumption | rfl)) | (refine LStep_indexA (T := Try.tab) (c := ?_) rfl rfl rfl rfl rfl rfl ?_ ?_; rotate_left; omega; (first | assumption | rfl)) | (refine LStep_byteM (T := Try.tab) (c := ?_) rfl rfl rfl rfl rfl ?_; rotate_left; assumption) | (refine LStep_byte (T := Try.tab) (c := ?_) rfl rfl rfl rfl rfl ?_ ?_; rotate_left; omega; (first | assumption | rfl)) | (refine LStep_partM (T := Try.tab) rfl rfl rfl rfl rfl rfl rfl ?_ ?_ ?_; omega; omega; omega) | (refine LStep_lit (T := Try.tab) rfl rfl rfl rfl rfl rfl rfl rfl ?_; (refine Nat.le_of_ble_eq_true ?_; rfl)) | (refine LStep_litA (T := Try.tab) rfl rfl rfl rfl rfl rfl rfl ?_; (refine Nat.le_of_ble_eq_true ?_; rfl)) | refine LStep_buildN (T := Try.tab) rfl rfl rfl rfl rfl rfl rfl) | ((first | refine Es_skip rfl ?_ rfl ?_ | refine Ed_skip rfl ?_ rfl ?_); (first | rfl | (refine w_tf ?_; assumption) | (refine w_ft ?_; assumption))) | ((first | ((with_reducible refine gS ?_); apply Es_xs) | ((with_reducible refine gD ?_); apply Ed_xs)); rfl; (first | rfl | (refine w_tt ?_; assumption) | (refine w_ff ?_; assumption)); (first | refine LStep_boxN rfl rfl rfl rfl rfl rfl | refine LStep_box rfl rfl rfl rfl rfl | refine LStep_allocN (T := Try.tab) rfl rfl rfl rfl rfl rfl | refine LStep_makeMap (kt := 0) (et := 0) rfl rfl rfl rfl | refine LStep_makeMapN (T := Try.tab) rfl rfl rfl rfl rfl rfl); rfl) | ((first | ((with_reducible refine gS ?_); apply Es_xn) | ((with_reducible refine gD ?_); apply Ed_xn)); rfl; (first | rfl | (refine w_tt ?_; assumption) | (refine w_ff ?_; assumption)); (first | (refine LStep_storeN (T := Try.tab) rfl rfl rfl rfl rfl rfl rfl ?_ rfl; (refine Nat.le_of_ble_eq_true ?_; rfl)) | (refine LStep_store (T := Try.tab) rfl rfl rfl rfl rfl rfl rfl ?_; (refine Nat.le_of_ble_eq_true ?_; rfl))); rfl) | ((first | refine Es_split rfl ?_ (fun _ => ?_) (fun _ => ?_) | refine Ed_split rfl ?_ (fun _ => ?_) (fun _ => ?_)); ((fail_if_success (refine und_t ?_; assumption)); (fail_if_success (refine und_f ?_; assumption)); exact trivial)) | (with_reducible refine Es_nil ?_) | ((with_reducible refine Ed_nil ?_ ?_); kernel_rfl) | (with_reducible refine then_n ?_) | (with_reducible refine then_r ?_) | (with_reducible refine then_e ?_) | (with_reducible refine block_n ?_) | (with_reducible refine block_r ?_) | ((with_reducible refine block_e ?_ ?_); rfl) | ((with_reducible refine block_x ?_ ?_); rfl) | ((with_reducible refine gR ?_); first | refine ret1 rfl ?_ | refine ret2 rfl rfl ?_ | refine ret0 ?_ | refine end1 rfl ?_ | refine end0 ?_))
  rfl
def posSum (g : ByteArray) : List Lot → Int
  | [] => 0
  | x :: l => (if x.good = g ∧ 0 < x.count then x.count else 0) + posSum g l
theorem posSum_append (g : ByteArray) : ∀ a b : List Lot, posSum g (a ++ b) = posSum g a + posSum g b
  | [], b => by simp [posSum]
  | x :: a, b => by
    show _ + posSum g (a ++ b) = _ + posSum g a + posSum g b
    rw [posSum_append g a b]
    omega
theorem posSum_nonneg (g : ByteArray) : ∀ l : List Lot, 0 ≤ posSum g l
  | [] => by simp [posSum]
  | x :: l => by
    have := posSum_nonneg g l
    unfold posSum
    split <;> omega
/-- the counts, by their sums -/
theorem getM_cntM (g : ByteArray) (l : List Lot) : getM g (cntM l) = if 0 < posSum g l then some (posSum g l) else none := by
  refine list_snoc (p := fun l => getM g (cntM l) = if 0 < posSum g l then some (posSum g l) else none) rfl (fun l x ih => ?_) l
  have hn := posSum_nonneg g l
  rw [cntM_snoc, posSum_append]
  by_cases hp : 0 < x.count
  · rw [if_pos hp, getM_add]
    by_cases e : g = x.good
    · have h1 : posSum g [x] = x.count := by simp [posSum, e, hp]
      rw [if_pos e, ih, h1]
      have h3 : 0 < posSum g l + x.count := by omega
      by_cases h2 : 0 < posSum g l
      · simp [h2, h3]
      · have : posSum g l = 0 := by omega
        simp [this, hp]
    · have h1 : posSum g [x] = 0 := by simp [posSum, Ne.symm e]
      rw [if_neg e, ih, h1, Int.add_zero]
  · have h1 : posSum g [x] = 0 := by simp [posSum, hp]
    rw [if_neg hp, ih, h1, Int.add_zero]
theorem nd_fst {a : List P2} (h : (a.map (·.1)).Nodup) : a.Nodup := by
  rw [List.nodup_iff_pairwise_ne, List.pairwise_map] at h
  rw [List.nodup_iff_pairwise_ne]
  exact h.imp (fun h e => h (by rw [e]))
theorem perm_getM {a b : List P2} (ha : (a.map (·.1)).Nodup) (hb : (b.map (·.1)).Nodup) (h : ∀ g, getM g a = getM g b) : a.Perm b := by
  refine (List.perm_ext_iff_of_nodup (nd_fst ha) (nd_fst hb)).2 (fun p => ?_)
  obtain ⟨g, v⟩ := p
  rw [← getM_mem ha, ← getM_mem hb, h g]
theorem sortM_perm_eq {a b : List P2} (ha : (a.map (·.1)).Nodup) (h : a.Perm b) : sortM a = sortM b := by
  have h1 := sortM_perm a
  have h2 := sortM_perm b
  refine (h1.trans (h.trans h2.symm)).eq_of_pairwise (le := fun p q => lts q.1 p.1 = false) (fun p q hp hq h3 h4 => ?_) (sortM_sorted a) (sortM_sorted b)
  exact fst_inj ha (h1.mem_iff.1 hp) (h.mem_iff.2 (h2.mem_iff.1 hq)) (lts_tri h4 h3)
/-- joined rows are one where the sums are -/
theorem join_eq {a b : List Lot} (h : ∀ g, posSum g a = posSum g b) : sortM (cntM a) = sortM (cntM b) :=
  sortM_perm_eq (cntM_nodup a).1 (perm_getM (cntM_nodup a).1 (cntM_nodup b).1 (fun g => by rw [getM_cntM, getM_cntM, h g]))
/-- what is taken, where it is there -/
theorem take_ok_iff (a b : List Lot) : takeOk (cntM a) (cntM b) = true ↔ ∀ g, posSum g b ≤ posSum g a := by
  unfold takeOk
  rw [List.all_eq_true]
  have hd : ∀ g, (getM g (cntM a)).getD 0 = posSum g a := fun g => by
    have := posSum_nonneg g a
    rw [getM_cntM]
    split
    · rfl
    · rw [Option.getD_none]; omega
  constructor
  · intro h g
    have h0 := posSum_nonneg g a
    by_cases hb : 0 < posSum g b
    · have := of_decide_eq_true (h (g, posSum g b) ((getM_mem (cntM_nodup b).1).1 (by rw [getM_cntM, if_pos hb])))
      dsimp only at this
      rw [hd] at this
      exact this
    · omega
  · intro h p hp
    obtain ⟨g, v⟩ := p
    have h1 := (getM_mem (cntM_nodup b).1).2 hp
    rw [getM_cntM] at h1
    split at h1
    · cases h1
      refine decide_eq_true ?_
      dsimp only
      rw [hd]
      exact h g
    · cases h1
end Go.Proofs.Ytnfgkccocknloaa
