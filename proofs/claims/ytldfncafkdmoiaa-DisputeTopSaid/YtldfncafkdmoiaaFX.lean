import Derived.Test.YtldfncafkdmoiaaFM
namespace Go.Proofs.Ytldfncafkdmoiaa
open Go.SL
/-! ### the document's split and the program's: plain -/
theorem pw_eq {α : Type} {R : α → α → Prop} (hA : ∀ a b, R a b → R b a → False) {l m : List α} (h1 : l.Pairwise R) (h2 : m.Pairwise R) (h : ∀ x, x ∈ l ↔ x ∈ m) : l = m := by
  have nd : ∀ {l : List α}, l.Pairwise R → l.Nodup := fun {l} hp => by
    rw [List.nodup_iff_pairwise_ne]
    exact hp.imp (fun {a b} hab e => by subst e; exact hA _ _ hab hab)
  exact ((List.perm_ext_iff_of_nodup (nd h1) (nd h2)).2 h).eq_of_pairwise (le := R) (fun a b _ _ x y => (hA a b x y).elim) h1 h2
def lt2 (rs : List Nat) (i j : Nat) : Prop := rs.getD j 0 < rs.getD i 0 ∨ (rs.getD j 0 = rs.getD i 0 ∧ i < j)
theorem lt2_asymm {rs : List Nat} (i j : Nat) (h : lt2 rs i j) (k : lt2 rs j i) : False := by unfold lt2 at h k; omega
theorem ins_strict {rs : List Nat} {x : Nat} : ∀ {P : List Nat}, P.Pairwise (lt2 rs) → (∀ y ∈ P, y < x) → (insL (ltOf (cmpR rs)) x P).Pairwise (lt2 rs)
  | [], _, _ => List.pairwise_singleton _ _
  | y :: P, h, hx => by
    rw [List.pairwise_cons] at h
    have hy := hx y List.mem_cons_self
    unfold insL
    rw [ltR]
    split
    · rename_i hl
      rw [decide_eq_true_eq] at hl
      refine List.pairwise_cons.2 ⟨fun z hz => ?_, List.pairwise_cons.2 h⟩
      rcases List.mem_cons.1 hz with q | q
      · rw [q]; exact .inl hl
      · have := h.1 z q
        unfold lt2 at this ⊢
        omega
    · rename_i hl
      rw [decide_eq_true_eq] at hl
      refine List.pairwise_cons.2 ⟨fun z hz => ?_, ins_strict h.2 (fun w hw => hx w (List.mem_cons_of_mem _ hw))⟩
      rcases List.mem_cons.1 ((insL_perm x P).mem_iff.1 hz) with q | q
      · rw [q]; unfold lt2; omega
      · exact h.1 z q
theorem ord_strict (rs : List Nat) (n : Nat) : (isL (ltOf (cmpR rs)) (List.range n)).Pairwise (lt2 rs) := by
  induction n with
  | zero => exact List.Pairwise.nil
  | succ n ih =>
    rw [List.range_succ, isL_snoc]
    refine ins_strict ih (fun y hy => ?_)
    exact List.mem_range.1 ((isL_perm _).mem_iff.1 hy)
def posB (rs : List Nat) (i : Nat) : Bool := decide (0 < rs.getD i 0)
theorem take_pos {rs : List Nat} : ∀ {l : List Nat} {k : Nat}, l.Pairwise (lt2 rs) → k ≤ (l.filter (posB rs)).length → l.take k = (l.filter (posB rs)).take k
  | [], k, _, _ => by simp
  | x :: l, 0, _, _ => by simp
  | x :: l, k + 1, h, hk => by
    rw [List.pairwise_cons] at h
    cases hx : posB rs x with
    | true =>
      rw [List.filter_cons_of_pos hx, List.length_cons] at hk
      rw [List.filter_cons_of_pos hx, List.take_succ_cons, List.take_succ_cons, take_pos h.2 (by omega)]
    | false =>
      exfalso
      rw [List.filter_cons_of_neg (by rw [hx]; decide)] at hk
      have : l.filter (posB rs) = [] := by
        rw [List.filter_eq_nil_iff]
        intro z hz
        have h1 := h.1 z hz
        unfold posB at hx ⊢
        rw [decide_eq_false_iff_not] at hx
        rw [decide_eq_true_eq]
        unfold lt2 at h1
        omega
      rw [this] at hk
      simp at hk
theorem plc_at (r : Int) : ∀ (l : List Cl) (i k j : Nat), (plcF r l i)[k]? = some j → i ≤ j ∧ ∃ x, l[j - i]? = some x ∧ x.rt = r ∧ (wtsF r l)[k]? = some x.am.toNat
  | [], i, k, j, h => by cases h
  | x :: l, i, k, j, h => by
    have go : ∀ k, (plcF r l (i + 1))[k]? = some j → i ≤ j ∧ ∃ y, (x :: l)[j - i]? = some y ∧ y.rt = r ∧ (wtsF r l)[k]? = some y.am.toNat := fun k h => by
      obtain ⟨h1, y, h2, h3, h4⟩ := plc_at r l (i + 1) k j h
      refine ⟨by omega, y, ?_, h3, h4⟩
      rw [show j - i = (j - (i + 1)) + 1 by omega, List.getElem?_cons_succ]
      exact h2
    rw [plcF] at h
    rw [wtsF]
    by_cases hr : x.rt = r
    · rw [if_pos hr] at h ⊢
      cases k with
      | zero =>
        rw [List.getElem?_cons_zero] at h
        obtain rfl := Option.some.inj h
        exact ⟨Nat.le_refl _, x, by rw [Nat.sub_self]; rfl, hr, rfl⟩
      | succ k =>
        rw [List.getElem?_cons_succ] at h ⊢
        exact go k h
    · rw [if_neg hr] at h ⊢
      exact go k h
theorem plc_mem (r : Int) : ∀ (l : List Cl) (i k : Nat) (x : Cl), l[k]? = some x → x.rt = r → i + k ∈ plcF r l i
  | [], i, k, x, h, _ => by cases h
  | y :: l, i, k, x, h, hr => by
    rw [plcF]
    cases k with
    | zero =>
      rw [List.getElem?_cons_zero] at h
      obtain rfl := Option.some.inj h
      rw [if_pos hr]
      exact List.mem_cons_self
    | succ k =>
      rw [List.getElem?_cons_succ] at h
      have := plc_mem r l (i + 1) k x h hr
      rw [show i + 1 + k = i + (k + 1) by omega] at this
      split
      · exact List.mem_cons_of_mem _ this
      · exact this
theorem plc_ge (r : Int) : ∀ (l : List Cl) (i j : Nat), j ∈ plcF r l i → i ≤ j
  | [], i, j, h => by cases h
  | x :: l, i, j, h => by
    rw [plcF] at h
    split at h
    · rcases List.mem_cons.1 h with q | q
      · omega
      · have := plc_ge r l (i + 1) j q; omega
    · have := plc_ge r l (i + 1) j h; omega
theorem plc_pw (r : Int) : ∀ (l : List Cl) (i : Nat), (plcF r l i).Pairwise (· < ·)
  | [], _ => List.Pairwise.nil
  | x :: l, i => by
    rw [plcF]
    split
    · exact List.pairwise_cons.2 ⟨fun j hj => by have := plc_ge r l (i + 1) j hj; omega, plc_pw r l (i + 1)⟩
    · exact plc_pw r l (i + 1)
/-- all weights, 0 for whom it isn't about -/
def wtA (r : Int) (l : List Cl) : List Nat := l.map fun x => if x.rt = r then x.am.toNat else 0
theorem wtA_sum (r : Int) : ∀ l : List Cl, (wtA r l).sum = (wtsF r l).sum
  | [] => rfl
  | x :: l => by
    have ih := wtA_sum r l
    unfold wtA at ih ⊢
    rw [List.map_cons, List.sum_cons, wtsF, ih]
    split
    · rw [List.sum_cons]
    · omega
theorem wtA_len (r : Int) (l : List Cl) : (wtA r l).length = l.length := by unfold wtA; rw [List.length_map]
theorem getD_map0 {α : Type} {f : α → Nat} {l : List α} {k : Nat} : (l.map f).getD k 0 = (match l[k]? with | some x => f x | none => 0) := by
  rw [List.getD_eq_getElem?_getD, List.getElem?_map]
  cases l[k]? <;> rfl
section
variable {r : Int} {l : List Cl} {t s : Nat}
theorem shR_A (i : Nat) : (shR t s (wtA r l)).getD i 0 = (match l[i]? with | some x => if x.rt = r then t * x.am.toNat % s else 0 | none => 0) := by
  unfold shR
  rw [getD_map0]
  unfold wtA
  rw [List.getElem?_map]
  cases l[i]? with
  | none => rfl
  | some x =>
    dsimp only [Option.map]
    split
    · rfl
    · rw [Nat.mul_zero, Nat.zero_mod]
theorem shR_F (k : Nat) : (shR t s (wtsF r l)).getD k 0 = (match (wtsF r l)[k]? with | some w => t * w % s | none => 0) := by
  unfold shR
  rw [getD_map0]
  cases (wtsF r l)[k]? <;> rfl
theorem rest_at {k j : Nat} (h : (plcF r l 0)[k]? = some j) : (shR t s (wtA r l)).getD j 0 = (shR t s (wtsF r l)).getD k 0 := by
  obtain ⟨_, x, h2, h3, h4⟩ := plc_at r l 0 k j h
  rw [Nat.sub_zero] at h2
  rw [shR_A, shR_F, h2, h4]
  dsimp only
  rw [if_pos h3]
def posO (rs : List Nat) : List Nat := (ordR rs).filter (posB rs)
theorem mem_posO {rs : List Nat} {i : Nat} : i ∈ posO rs ↔ i < rs.length ∧ 0 < rs.getD i 0 := by
  unfold posO ordR posB
  rw [List.mem_filter, (isL_perm _).mem_iff, List.mem_range, decide_eq_true_eq]
theorem posO_pw (rs : List Nat) : (posO rs).Pairwise (lt2 rs) := List.Pairwise.filter _ (ord_strict rs rs.length)
theorem posO_map : posO (shR t s (wtA r l)) = (posO (shR t s (wtsF r l))).map fun k => (plcF r l 0).getD k 0 := by
  have hlw := plc_wts r l 0
  have lr : (shR t s (wtsF r l)).length = (wtsF r l).length := by unfold shR; rw [List.length_map]
  have lA : (shR t s (wtA r l)).length = l.length := by unfold shR; rw [List.length_map, wtA_len]
  have hg : ∀ k, k ∈ posO (shR t s (wtsF r l)) → (plcF r l 0)[k]? = some ((plcF r l 0).getD k 0) := fun k hk => by
    have h1 := (mem_posO.1 hk).1
    rw [List.getD_eq_getElem?_getD, List.getElem?_eq_getElem (by omega), Option.getD_some]
  refine pw_eq (fun _ _ => lt2_asymm _ _) (posO_pw _) ?_ (fun i => ?_)
  · rw [List.pairwise_map]
    refine List.Pairwise.imp_of_mem (fun {a b} ha hb hab => ?_) (posO_pw (shR t s (wtsF r l)))
    have ga := hg a ha
    have gb := hg b hb
    have ea := rest_at (t := t) (s := s) ga
    have eb := rest_at (t := t) (s := s) gb
    unfold lt2 at hab ⊢
    rw [ea, eb]
    rcases hab with q | ⟨q, q2⟩
    · exact .inl q
    · refine .inr ⟨q, ?_⟩
      obtain ⟨xa, ya⟩ := List.getElem?_eq_some_iff.1 ga
      obtain ⟨xb, yb⟩ := List.getElem?_eq_some_iff.1 gb
      have := List.pairwise_iff_getElem.1 (plc_pw r l 0) a b xa xb q2
      rwa [ya, yb] at this
  · rw [mem_posO, List.mem_map, lA]
    constructor
    · rintro ⟨h1, h2⟩
      obtain ⟨x, hx⟩ : ∃ x, l[i]? = some x := ⟨_, List.getElem?_eq_getElem h1⟩
      have h2' := h2
      rw [shR_A, hx] at h2
      dsimp only at h2
      by_cases hr : x.rt = r
      · have hm := plc_mem r l 0 i x hx hr
        rw [Nat.zero_add] at hm
        obtain ⟨k, hk⟩ := List.getElem?_of_mem hm
        have hkl := (List.getElem?_eq_some_iff.1 hk).1
        refine ⟨k, mem_posO.2 ⟨by omega, by rw [← rest_at hk]; exact h2'⟩, ?_⟩
        rw [List.getD_eq_getElem?_getD, hk, Option.getD_some]
      · rw [if_neg hr] at h2
        omega
    · rintro ⟨k, hk, rfl⟩
      have gk := hg k hk
      obtain ⟨_, x, h2, _⟩ := plc_at r l 0 _ _ gk
      rw [Nat.sub_zero] at h2
      exact ⟨(List.getElem?_eq_some_iff.1 h2).1, by rw [rest_at gk]; exact (mem_posO.1 hk).2⟩
/-- as many are left as rests are not 0, at most -/
theorem sum_pos_le {s : Nat} (hs : 0 < s) : ∀ rs : List Nat, (∀ x ∈ rs, x < s) → rs.sum + (rs.filter fun x => decide (0 < x)).length ≤ (rs.filter fun x => decide (0 < x)).length * s
  | [], _ => by simp
  | x :: rs, h => by
    have ih := sum_pos_le hs rs (fun y hy => h y (List.mem_cons_of_mem _ hy))
    have hx := h x List.mem_cons_self
    rw [List.sum_cons]
    by_cases h0 : 0 < x
    · rw [List.filter_cons_of_pos (by rw [decide_eq_true_eq]; exact h0), List.length_cons, Nat.add_mul]
      omega
    · rw [List.filter_cons_of_neg (by rw [decide_eq_true_eq]; exact h0)]
      omega
theorem posO_len (rs : List Nat) : (posO rs).length = (rs.filter fun x => decide (0 < x)).length := by
  unfold posO ordR
  rw [((isL_perm (lt := ltOf (cmpR rs)) (List.range rs.length)).filter _).length_eq]
  have : ∀ (l : List Nat), ((List.range l.length).filter (posB l)).length = (l.filter fun x => decide (0 < x)).length := by
    intro l
    have e : l.filter (fun x => decide (0 < x)) = ((List.range l.length).map fun i => l.getD i 0).filter (fun x => decide (0 < x)) := by
      congr 1
      refine List.ext_getElem? (fun i => ?_)
      rw [List.getElem?_map]
      by_cases h : i < l.length
      · rw [List.getElem?_range h, List.getElem?_eq_getElem h, Option.map_some, List.getD_eq_getElem?_getD, List.getElem?_eq_getElem h, Option.getD_some]
      · rw [List.getElem?_eq_none (by omega), List.getElem?_eq_none (by rw [List.length_range]; omega)]; rfl
    rw [e, List.filter_map, List.length_map]
    rfl
  exact this rs
theorem left_pos {ws : List Nat} (hs : 0 < s) (h : ws.sum = s) : t - (shQ t s ws).sum ≤ (posO (shR t s ws)).length := by
  rw [posO_len]
  have h1 := shQ_sum (t := t) hs ws
  have h2 := sum_pos_le hs (shR t s ws) (fun x hx => by
    unfold shR at hx
    obtain ⟨w, _, rfl⟩ := List.mem_map.1 hx
    exact Nat.mod_lt _ hs)
  rw [h] at h1
  generalize ((shR t s ws).filter fun x => decide (0 < x)).length = c at *
  have h3 : t * s ≤ ((shQ t s ws).sum + c) * s := by rw [Nat.add_mul]; omega
  have := Nat.le_of_mul_le_mul_right h3 hs
  omega
theorem ord_take {ws : List Nat} (hs : 0 < s) (h : ws.sum = s) : (ordR (shR t s ws)).take (t - (shQ t s ws).sum) = (posO (shR t s ws)).take (t - (shQ t s ws).sum) := take_pos (ord_strict _ _) (left_pos hs h)
/-! #### place by place -/
theorem getD_set (ps : List Nat) (j v i : Nat) (hj : j < ps.length) : (ps.set j v).getD i 0 = if j = i then v else ps.getD i 0 := by
  rw [List.getD_eq_getElem?_getD, List.getD_eq_getElem?_getD]
  by_cases h : j = i
  · subst h
    rw [if_pos rfl, List.getElem?_set_self hj, Option.getD_some]
  · rw [if_neg h, List.getElem?_set_ne h]
theorem bump_at : ∀ {l ps : List Nat} (i : Nat), l.Nodup → (∀ j ∈ l, j < ps.length) → (bump ps l).getD i 0 = ps.getD i 0 + if i ∈ l then 1 else 0
  | [], ps, i, _, _ => by simp [bump]
  | j :: l, ps, i, hn, h => by
    rw [List.nodup_cons] at hn
    have hj := h j List.mem_cons_self
    show (bump (ps.set j (ps.getD j 0 + 1)) l).getD i 0 = _
    rw [bump_at i hn.2 (fun k hk => by rw [List.length_set]; exact h k (List.mem_cons_of_mem _ hk)), getD_set _ _ _ _ hj]
    by_cases e : j = i
    · subst e
      rw [if_pos rfl, if_neg hn.1, if_pos List.mem_cons_self]
    · rw [if_neg e]
      by_cases hi : i ∈ l
      · rw [if_pos hi, if_pos (List.mem_cons_of_mem _ hi)]
      · rw [if_neg hi, if_neg (fun q => by
          rcases List.mem_cons.1 q with q | q
          · exact e q.symm
          · exact hi q)]
theorem putP_at : ∀ {pl P o : List Nat} (i : Nat), pl.Nodup → (∀ j ∈ pl, j < o.length) → pl.length = P.length → (i ∉ pl → (putP o (pl.zip P)).getD i 0 = o.getD i 0) ∧ ∀ k, pl[k]? = some i → (putP o (pl.zip P)).getD i 0 = P.getD k 0
  | [], P, o, i, _, _, _ => ⟨fun _ => by simp [putP], fun k h => by cases h⟩
  | j :: pl, [], o, i, _, _, h => by simp at h
  | j :: pl, v :: P, o, i, hn, h, hl => by
    rw [List.nodup_cons] at hn
    have hj := h j List.mem_cons_self
    obtain ⟨i1, i2⟩ := putP_at (pl := pl) (P := P) (o := o.set j v) i hn.2 (fun k hk => by rw [List.length_set]; exact h k (List.mem_cons_of_mem _ hk)) (by simpa using hl)
    have e : putP o ((j :: pl).zip (v :: P)) = putP (o.set j v) (pl.zip P) := rfl
    rw [e]
    refine ⟨fun hi => ?_, fun k hk => ?_⟩
    · rw [i1 (fun q => hi (List.mem_cons_of_mem _ q)), getD_set _ _ _ _ hj, if_neg (fun q => hi (by rw [q]; exact List.mem_cons_self))]
    · cases k with
      | zero =>
        rw [List.getElem?_cons_zero] at hk
        obtain rfl := Option.some.inj hk
        rw [i1 hn.1, getD_set _ _ _ _ hj, if_pos rfl]
        rfl
      | succ k =>
        rw [List.getElem?_cons_succ] at hk
        rw [i2 k hk, List.getD_cons_succ]
theorem shQ_A (i : Nat) : (shQ t s (wtA r l)).getD i 0 = (match l[i]? with | some x => if x.rt = r then t * x.am.toNat / s else 0 | none => 0) := by
  unfold shQ
  rw [getD_map0]
  unfold wtA
  rw [List.getElem?_map]
  cases l[i]? with
  | none => rfl
  | some x =>
    dsimp only [Option.map]
    split
    · rfl
    · rw [Nat.mul_zero, Nat.zero_div]
theorem shQ_sumA (l : List Cl) : (shQ t s (wtA r l)).sum = (shQ t s (wtsF r l)).sum := by
  induction l with
  | nil => rfl
  | cons x l ih =>
    unfold shQ wtA at *
    rw [List.map_cons, List.map_cons, List.sum_cons, ih, wtsF]
    split
    · rw [List.map_cons, List.sum_cons]
    · rw [Nat.mul_zero, Nat.zero_div, Nat.zero_add]
/-- the document's split of all weights -/
def docP (t : Nat) (W : List Nat) : List Nat := bump (shQ t W.sum W) ((ordR (shR t W.sum W)).take (t - (shQ t W.sum W).sum))
theorem docP_len (t : Nat) (W : List Nat) : (docP t W).length = W.length := by unfold docP; rw [bump_len]; unfold shQ; rw [List.length_map]
theorem nodup_of {R : Nat → Nat → Prop} (hR : ∀ a, ¬ R a a) {l : List Nat} (h : l.Pairwise R) : l.Nodup := by
  rw [List.nodup_iff_pairwise_ne]
  exact h.imp (fun {a b} hab e => by subst e; exact hR _ hab)
theorem docP_at (hs : 0 < (wtsF r l).sum) (ht : t ≠ 0) (i : Nat) : (i ∉ plcF r l 0 → (docP t (wtA r l)).getD i 0 = 0) ∧ ∀ k, (plcF r l 0)[k]? = some i → (docP t (wtA r l)).getD i 0 = (splitN t (wtsF r l)).getD k 0 := by
  have hsA : (wtA r l).sum = (wtsF r l).sum := wtA_sum r l
  have h1 := ord_take (t := t) (ws := wtsF r l) hs rfl
  have h2 := ord_take (t := t) (s := (wtsF r l).sum) (ws := wtA r l) hs hsA
  have hlw := plc_wts r l 0
  have hinj : ∀ a b j, (plcF r l 0)[a]? = some j → (plcF r l 0)[b]? = some j → a = b := fun a b j ha hb => by
    obtain ⟨xa, ya⟩ := List.getElem?_eq_some_iff.1 ha
    obtain ⟨xb, yb⟩ := List.getElem?_eq_some_iff.1 hb
    have hp := List.pairwise_iff_getElem.1 (plc_pw r l 0)
    rcases Nat.lt_trichotomy a b with q | q | q
    · have := hp a b xa xb q; omega
    · exact q
    · have := hp b a xb xa q; omega
  have nd1 : ∀ n, ((posO (shR t (wtsF r l).sum (wtsF r l))).take n).Nodup := fun n => nodup_of (fun a h => lt2_asymm _ _ h h) (List.Pairwise.sublist (List.take_sublist n _) (posO_pw _))
  have nd2 : ∀ n, ((posO (shR t (wtsF r l).sum (wtA r l))).take n).Nodup := fun n => nodup_of (fun a h => lt2_asymm _ _ h h) (List.Pairwise.sublist (List.take_sublist n _) (posO_pw _))
  have b1 : ∀ n, ∀ j ∈ (posO (shR t (wtsF r l).sum (wtsF r l))).take n, j < (shQ t (wtsF r l).sum (wtsF r l)).length := fun n j hj => by
    have := (mem_posO.1 (List.mem_of_mem_take hj)).1
    unfold shR at this
    unfold shQ
    rw [List.length_map] at this ⊢
    exact this
  have b2 : ∀ n, ∀ j ∈ (posO (shR t (wtsF r l).sum (wtA r l))).take n, j < (shQ t (wtsF r l).sum (wtA r l)).length := fun n j hj => by
    have := (mem_posO.1 (List.mem_of_mem_take hj)).1
    unfold shR at this
    unfold shQ
    rw [List.length_map] at this ⊢
    exact this
  have eA : (docP t (wtA r l)).getD i 0 = (shQ t (wtsF r l).sum (wtA r l)).getD i 0 + if i ∈ ((posO (shR t (wtsF r l).sum (wtsF r l))).take (t - (shQ t (wtsF r l).sum (wtsF r l)).sum)).map (fun k => (plcF r l 0).getD k 0) then 1 else 0 := by
    unfold docP
    rw [hsA, h2, bump_at i (nd2 _) (b2 _), shQ_sumA, posO_map, List.map_take]
  have gk : ∀ {k}, k ∈ (posO (shR t (wtsF r l).sum (wtsF r l))).take (t - (shQ t (wtsF r l).sum (wtsF r l)).sum) → (plcF r l 0)[k]? = some ((plcF r l 0).getD k 0) := fun {k} hk => by
    have := b1 _ k hk
    unfold shQ at this
    rw [List.length_map] at this
    rw [List.getD_eq_getElem?_getD, List.getElem?_eq_getElem (by omega), Option.getD_some]
  rw [eA, shQ_A]
  refine ⟨fun hi => ?_, fun k hk => ?_⟩
  · rw [if_neg (fun q => by
      obtain ⟨k, hk, e⟩ := List.mem_map.1 q
      exact hi (e ▸ List.mem_of_getElem? (gk hk))), Nat.add_zero]
    cases hx : l[i]? with
    | none => rfl
    | some x =>
      dsimp only
      rw [if_neg (fun hr => hi (by have := plc_mem r l 0 i x hx hr; rwa [Nat.zero_add] at this))]
  · obtain ⟨_, x, g2, g3, g4⟩ := plc_at r l 0 k i hk
    rw [Nat.sub_zero] at g2
    have eS : (splitN t (wtsF r l)).getD k 0 = (shQ t (wtsF r l).sum (wtsF r l)).getD k 0 + if k ∈ (posO (shR t (wtsF r l).sum (wtsF r l))).take (t - (shQ t (wtsF r l).sum (wtsF r l)).sum) then 1 else 0 := by
      unfold splitN
      rw [if_neg ht, h1, bump_at k (nd1 _) (b1 _)]
    rw [eS, g2]
    dsimp only
    rw [if_pos g3]
    have e1 : (shQ t (wtsF r l).sum (wtsF r l)).getD k 0 = t * x.am.toNat / (wtsF r l).sum := by
      unfold shQ
      rw [getD_map0, g4]
    rw [e1]
    congr 1
    by_cases hm : k ∈ (posO (shR t (wtsF r l).sum (wtsF r l))).take (t - (shQ t (wtsF r l).sum (wtsF r l)).sum)
    · rw [if_pos hm, if_pos]
      refine List.mem_map.2 ⟨k, hm, ?_⟩
      rw [List.getD_eq_getElem?_getD, hk, Option.getD_some]
    · rw [if_neg hm, if_neg]
      intro q
      obtain ⟨k', hk', e⟩ := List.mem_map.1 q
      have := hinj k k' i hk (e ▸ gk hk')
      exact hm (this ▸ hk')
end
/-! #### the document's money -/
def addL (a b : List Nat) : List Nat := a.zipWith (· + ·) b
theorem addL_at {a b : List Nat} (h : a.length = b.length) (i : Nat) : (addL a b).getD i 0 = a.getD i 0 + b.getD i 0 := by
  unfold addL
  rw [List.getD_eq_getElem?_getD, List.getD_eq_getElem?_getD, List.getD_eq_getElem?_getD, List.getElem?_zipWith]
  by_cases hi : i < a.length
  · rw [List.getElem?_eq_getElem hi, List.getElem?_eq_getElem (show i < b.length by omega)]
    rfl
  · rw [List.getElem?_eq_none (by omega), List.getElem?_eq_none (show b.length ≤ i by omega)]
    rfl
theorem addL_len {a b : List Nat} (h : a.length = b.length) : (addL a b).length = a.length := by unfold addL; rw [List.length_zipWith]; omega
theorem ext_getD {a b : List Nat} (h : a.length = b.length) (e : ∀ i, a.getD i 0 = b.getD i 0) : a = b := by
  refine List.ext_getElem? (fun i => ?_)
  have := e i
  rw [List.getD_eq_getElem?_getD, List.getD_eq_getElem?_getD] at this
  by_cases hi : i < a.length
  · rw [List.getElem?_eq_getElem hi, List.getElem?_eq_getElem (show i < b.length by omega)] at this ⊢
    exact congrArg some this
  · rw [List.getElem?_eq_none (by omega), List.getElem?_eq_none (show b.length ≤ i by omega)]
def docS (l : List Cl) (s : List Nat × Nat) (r : Nat) : List Nat × Nat :=
  if (wtA ((r : Nat) : Int) l).sum ≤ s.2 then (addL s.1 (wtA ((r : Nat) : Int) l), s.2 - (wtA ((r : Nat) : Int) l).sum) else (addL s.1 (docP s.2 (wtA ((r : Nat) : Int) l)), 0)
def docM (l : List Cl) (t : Nat) : Nat → List Nat × Nat
  | 0 => (List.replicate l.length 0, t)
  | r + 1 => docS l (docM l t r) r
theorem splitN_zero {ws : List Nat} (k : Nat) : (splitN 0 ws).getD k 0 = 0 := by
  unfold splitN
  rw [if_pos rfl, List.getD_eq_getElem?_getD, List.getElem?_replicate]
  split <;> rfl
theorem docP_zero (W : List Nat) (h : 0 < W.sum) (i : Nat) : (docP 0 W).getD i 0 = 0 := by
  unfold docP
  have e : shQ 0 W.sum W = List.replicate W.length 0 := by
    unfold shQ
    rw [List.eq_replicate_iff]
    refine ⟨by rw [List.length_map], fun b hb => ?_⟩
    obtain ⟨w, _, rfl⟩ := List.mem_map.1 hb
    rw [Nat.zero_mul, Nat.zero_div]
  rw [Nat.zero_sub, List.take_zero, e]
  show (List.replicate W.length 0).getD i 0 = 0
  rw [List.getD_eq_getElem?_getD, List.getElem?_replicate]
  split <;> rfl
theorem docM_eq (l : List Cl) (t : Nat) : ∀ r, docM l t r = monN l t r ∧ ∀ i x, l[i]? = some x → ((r : Nat) : Int) ≤ x.rt → (monN l t r).1.getD i 0 = 0
  | 0 => ⟨rfl, fun i x h _ => by
    show (List.replicate l.length 0).getD i 0 = 0
    rw [List.getD_eq_getElem?_getD, List.getElem?_replicate]
    split <;> rfl⟩
  | r + 1 => by
    obtain ⟨h1, h2⟩ := docM_eq l t r
    have hlen := monN_len l t r
    have e0 : docM l t (r + 1) = docS l (monN l t r) r := by rw [← h1]; rfl
    have e1 : monN l t (r + 1) = monS l (monN l t r) r := rfl
    rw [e0, e1]
    generalize monN l t r = st at *
    obtain ⟨o, p⟩ := st
    dsimp only at *
    have nd := nodup_of (fun a h => Nat.lt_irrefl a h) (plc_pw ((r : Nat) : Int) l 0)
    have hpl := plc_lt ((r : Nat) : Int) l 0
    have hpp : (plcF ((r : Nat) : Int) l 0).length = (partsOf p (wtsF ((r : Nat) : Int) l)).length := by rw [parts_len, plc_wts]
    have hsA := wtA_sum ((r : Nat) : Int) l
    have hlA := wtA_len ((r : Nat) : Int) l
    have hput := fun i => putP_at (pl := plcF ((r : Nat) : Int) l 0) (P := partsOf p (wtsF ((r : Nat) : Int) l)) (o := o) i nd (fun j hj => by have := hpl j hj; omega) hpp
    refine ⟨?_, fun i x hx hr => ?_⟩
    · unfold docS monS
      dsimp only
      have key : ∀ D : List Nat, D.length = o.length → (∀ i, i ∉ plcF ((r : Nat) : Int) l 0 → D.getD i 0 = 0) → (∀ i k, (plcF ((r : Nat) : Int) l 0)[k]? = some i → D.getD i 0 = (partsOf p (wtsF ((r : Nat) : Int) l)).getD k 0) →
          addL o D = putP o ((plcF ((r : Nat) : Int) l 0).zip (partsOf p (wtsF ((r : Nat) : Int) l))) := by
        intro D hD hn hy
        refine ext_getD (by rw [addL_len hD.symm, putP_len]) (fun i => ?_)
        rw [addL_at hD.symm]
        by_cases hi : i ∈ plcF ((r : Nat) : Int) l 0
        · obtain ⟨k, hk⟩ := List.getElem?_of_mem hi
          obtain ⟨_, x, q1, q2, _⟩ := plc_at ((r : Nat) : Int) l 0 k i hk
          rw [Nat.sub_zero] at q1
          rw [(hput i).2 k hk, hy i k hk, h2 i x q1 (by omega), Nat.zero_add]
        · rw [(hput i).1 hi, hn i hi, Nat.add_zero]
      by_cases hc : (wtA ((r : Nat) : Int) l).sum ≤ p
      · have eP : partsOf p (wtsF ((r : Nat) : Int) l) = wtsF ((r : Nat) : Int) l := by unfold partsOf; rw [if_neg (by omega)]
        rw [if_pos hc]
        refine Prod.ext ?_ ?_
        · refine key _ (by omega) (fun i hi => ?_) (fun i k hk => ?_)
          · unfold wtA
            rw [getD_map0]
            cases hx : l[i]? with
            | none => rfl
            | some x =>
              dsimp only
              rw [if_neg (fun hr => hi (by have := plc_mem ((r : Nat) : Int) l 0 i x hx hr; rwa [Nat.zero_add] at this))]
          · obtain ⟨_, x, q1, q2, q3⟩ := plc_at ((r : Nat) : Int) l 0 k i hk
            rw [Nat.sub_zero] at q1
            unfold wtA
            rw [eP, getD_map0, q1]
            dsimp only
            rw [if_pos q2, List.getD_eq_getElem?_getD, q3, Option.getD_some]
        · show p - _ = p - _
          rw [eP, hsA]
      · have hs : 0 < (wtsF ((r : Nat) : Int) l).sum := by omega
        have eP : partsOf p (wtsF ((r : Nat) : Int) l) = splitN p (wtsF ((r : Nat) : Int) l) := by unfold partsOf; rw [if_pos (by omega)]
        rw [if_neg hc]
        refine Prod.ext ?_ ?_
        · by_cases hp : p = 0
          · subst hp
            refine key _ (by rw [docP_len]; omega) (fun i hi => docP_zero _ (by omega) i) (fun i k hk => ?_)
            rw [eP, docP_zero _ (by omega), splitN_zero]
          · refine key _ (by rw [docP_len]; omega) (fun i hi => (docP_at hs hp i).1 hi) (fun i k hk => ?_)
            rw [eP]
            exact (docP_at hs hp i).2 k hk
        · show 0 = p - _
          rw [eP, splitN_sum hs, Nat.sub_self]
    · unfold monS
      dsimp only
      rw [(hput i).1 (fun q => by
        obtain ⟨k, hk⟩ := List.getElem?_of_mem q
        obtain ⟨_, y, q1, q2, _⟩ := plc_at ((r : Nat) : Int) l 0 k i hk
        rw [Nat.sub_zero, hx] at q1
        obtain rfl := Option.some.inj q1
        omega)]
      exact h2 i x hx (by omega)
end Go.Proofs.Ytldfncafkdmoiaa
namespace Go.Proofs.Ytldfncafkdmoiaa
open Go.SL
/-! ### Money: sums, ranks: plain -/
def rtB (r : Int) (x : Cl) : Bool := decide (x.rt = r)
theorem plc_cnt (r : Int) : ∀ (l : List Cl) (b i : Nat) (x : Cl), l[i]? = some x → x.rt = r → (plcF r l b)[((l.take i).filter (rtB r)).length]? = some (b + i)
  | [], b, i, x, h, _ => by cases h
  | y :: l, b, i, x, h, hr => by
    cases i with
    | zero =>
      rw [List.getElem?_cons_zero] at h
      obtain rfl := Option.some.inj h
      rw [plcF, if_pos hr]
      rfl
    | succ i =>
      rw [List.getElem?_cons_succ] at h
      have ih := plc_cnt r l (b + 1) i x h hr
      rw [List.take_succ_cons, plcF]
      by_cases hy : y.rt = r
      · rw [if_pos hy, List.filter_cons_of_pos (by unfold rtB; rw [decide_eq_true hy]), List.length_cons, List.getElem?_cons_succ, ih]
        congr 1
        omega
      · rw [if_neg hy, List.filter_cons_of_neg (by unfold rtB; rw [decide_eq_false hy]; decide), ih]
        congr 1
        omega
/-- what one gets is told by the pot of their rank -/
theorem mon_at {l : List Cl} {t i k : Nat} {x : Cl} (hx : l[i]? = some x) (h0 : 0 ≤ x.rt) (hk : (plcF x.rt l 0)[k]? = some i) : ∀ R : Nat, x.rt < ((R : Nat) : Int) → (monN l t R).1.getD i 0 = (partsOf (monN l t x.rt.toNat).2 (wtsF x.rt l)).getD k 0
  | 0, h => by omega
  | R + 1, h => by
    have hlen := monN_len l t R
    have nd := nodup_of (fun a h => Nat.lt_irrefl a h) (plc_pw ((R : Nat) : Int) l 0)
    have hpl := plc_lt ((R : Nat) : Int) l 0
    have hpp : (plcF ((R : Nat) : Int) l 0).length = (partsOf (monN l t R).2 (wtsF ((R : Nat) : Int) l)).length := by rw [parts_len, plc_wts]
    obtain ⟨p1, p2⟩ := putP_at (pl := plcF ((R : Nat) : Int) l 0) (P := partsOf (monN l t R).2 (wtsF ((R : Nat) : Int) l)) (o := (monN l t R).1) i nd (fun j hj => by have := hpl j hj; omega) hpp
    show (putP _ _).getD i 0 = _
    by_cases hr : x.rt = ((R : Nat) : Int)
    · rw [hr] at hk
      rw [p2 k hk, hr, Int.toNat_natCast]
    · rw [p1 (fun q => by
        obtain ⟨k', hk'⟩ := List.getElem?_of_mem q
        obtain ⟨_, y, q1, q2, _⟩ := plc_at ((R : Nat) : Int) l 0 k' i hk'
        rw [Nat.sub_zero, hx] at q1
        obtain rfl := Option.some.inj q1
        exact hr q2)]
      exact mon_at hx h0 hk R (by omega)
theorem splitN_at {t : Nat} {ws : List Nat} {k w : Nat} (hs : 0 < ws.sum) (hk : ws[k]? = some w) : ∃ e, e ≤ 1 ∧ (splitN t ws).getD k 0 = t * w / ws.sum + e ∧ (e = 1 → 0 < t * w % ws.sum) := by
  unfold splitN
  by_cases ht : t = 0
  · rw [if_pos ht]
    subst ht
    refine ⟨0, by omega, ?_, by omega⟩
    rw [Nat.zero_mul, Nat.zero_div, List.getD_eq_getElem?_getD, List.getElem?_replicate]
    split <;> rfl
  · rw [if_neg ht, ord_take hs rfl]
    have nd : ((posO (shR t ws.sum ws)).take (t - (shQ t ws.sum ws).sum)).Nodup := nodup_of (fun a h => lt2_asymm _ _ h h) (List.Pairwise.sublist (List.take_sublist _ _) (posO_pw _))
    rw [bump_at k nd (fun j hj => by
      have := (mem_posO.1 (List.mem_of_mem_take hj)).1
      unfold shR at this
      unfold shQ
      rw [List.length_map] at this ⊢
      exact this)]
    have e1 : (shQ t ws.sum ws).getD k 0 = t * w / ws.sum := by unfold shQ; rw [getD_map0, hk]
    have e2 : (shR t ws.sum ws).getD k 0 = t * w % ws.sum := by unfold shR; rw [getD_map0, hk]
    rw [e1]
    by_cases hm : k ∈ (posO (shR t ws.sum ws)).take (t - (shQ t ws.sum ws).sum)
    · rw [if_pos hm]
      have := (mem_posO.1 (List.mem_of_mem_take hm)).2
      exact ⟨1, by omega, rfl, fun _ => by omega⟩
    · rw [if_neg hm]
      exact ⟨0, by omega, rfl, by omega⟩
theorem part_le {t : Nat} {ws : List Nat} {k w : Nat} (hk : ws[k]? = some w) : (partsOf t ws).getD k 0 ≤ w := by
  unfold partsOf
  split
  · rename_i hl
    obtain ⟨e, h1, h2, h3⟩ := splitN_at (t := t) (by omega) hk
    rw [h2]
    have hd := Nat.div_add_mod (t * w) ws.sum
    have hm : t * w ≤ ws.sum * w := Nat.mul_le_mul_right _ (by omega)
    have hq : t * w / ws.sum ≤ w := (Nat.div_le_iff_le_mul_add_pred (by omega)).2 (by omega)
    rcases Nat.lt_or_ge (t * w / ws.sum) w with q | q
    · omega
    · have e0 : t * w / ws.sum = w := by omega
      rw [e0] at hd ⊢
      omega
  · rw [List.getD_eq_getElem?_getD, hk]
    exact Nat.le_refl _
theorem part_near {t : Nat} {ws : List Nat} {k j w : Nat} (hk : ws[k]? = some w) (hj : ws[j]? = some w) : (partsOf t ws).getD k 0 ≤ (partsOf t ws).getD j 0 + 1 := by
  unfold partsOf
  split
  · rename_i hl
    obtain ⟨e, h1, h2, _⟩ := splitN_at (t := t) (by omega) hk
    obtain ⟨f, g1, g2, _⟩ := splitN_at (t := t) (by omega) hj
    omega
  · rw [List.getD_eq_getElem?_getD, hk, List.getD_eq_getElem?_getD, hj]
    show w ≤ w + 1
    omega
theorem part_all {t : Nat} {ws : List Nat} {k w : Nat} (h : ws.sum ≤ t) (hk : ws[k]? = some w) : (partsOf t ws).getD k 0 = w := by
  unfold partsOf
  rw [if_neg (by omega), List.getD_eq_getElem?_getD, hk]
  rfl
theorem part_zero {ws : List Nat} {k : Nat} : (partsOf 0 ws).getD k 0 = 0 := by
  unfold partsOf
  split
  · exact splitN_zero k
  · rename_i h
    have hz : ws.sum = 0 := by omega
    rw [List.getD_eq_getElem?_getD]
    cases hq : ws[k]? with
    | none => rfl
    | some v =>
      have := mem_le_sum (List.mem_of_getElem? hq)
      show v = 0
      omega
theorem mon_mono (l : List Cl) (t : Nat) {a b : Nat} (h : a ≤ b) : (monN l t b).2 ≤ (monN l t a).2 := by
  induction b with
  | zero => rw [show a = 0 by omega]; exact Nat.le_refl _
  | succ b ih =>
    by_cases e : a = b + 1
    · subst e; exact Nat.le_refl _
    · exact Nat.le_trans (show (monN l t b).2 - _ ≤ _ by omega) (ih (by omega))
/-- where a pot is less than the weights, nothing is left for the next -/
theorem mon_dry (l : List Cl) (t r : Nat) (h : (monN l t r).2 < (wtsF ((r : Nat) : Int) l).sum) : (monN l t (r + 1)).2 = 0 := by
  show (monN l t r).2 - (partsOf (monN l t r).2 (wtsF ((r : Nat) : Int) l)).sum = 0
  unfold partsOf
  rw [if_pos h, splitN_sum (by omega), Nat.sub_self]
theorem putP_sum : ∀ {pl P o : List Nat}, pl.Nodup → (∀ j ∈ pl, j < o.length) → (∀ j ∈ pl, o.getD j 0 = 0) → pl.length = P.length → (putP o (pl.zip P)).sum = o.sum + P.sum
  | [], [], o, _, _, _, _ => by simp [putP]
  | [], v :: P, o, _, _, _, h => by simp at h
  | j :: pl, [], o, _, _, _, h => by simp at h
  | j :: pl, v :: P, o, hn, h, hz, hl => by
    rw [List.nodup_cons] at hn
    have hj := h j List.mem_cons_self
    have hj0 := hz j List.mem_cons_self
    have e : putP o ((j :: pl).zip (v :: P)) = putP (o.set j v) (pl.zip P) := rfl
    have ih := putP_sum (pl := pl) (P := P) (o := o.set j v) hn.2 (fun k hk => by rw [List.length_set]; exact h k (List.mem_cons_of_mem _ hk)) (fun k hk => by
      rw [getD_set _ _ _ _ hj, if_neg (fun q => hn.1 (by rw [q]; exact hk))]
      exact hz k (List.mem_cons_of_mem _ hk)) (by simpa using hl)
    have hs := sum_set o j v hj
    have hg : o.getD j 0 = o[j] := by rw [List.getD_eq_getElem?_getD, List.getElem?_eq_getElem hj, Option.getD_some]
    rw [e, ih, List.sum_cons]
    omega
theorem mon_sum (l : List Cl) (t : Nat) : ∀ r, (monN l t r).1.sum + (monN l t r).2 = t
  | 0 => by show (List.replicate l.length 0).sum + t = t; simp
  | r + 1 => by
    have ih := mon_sum l t r
    have hlen := monN_len l t r
    have hz := (docM_eq l t r).2
    have hpl := plc_lt ((r : Nat) : Int) l 0
    have hps := parts_sum (monN l t r).2 (wtsF ((r : Nat) : Int) l)
    have hs := putP_sum (pl := plcF ((r : Nat) : Int) l 0) (P := partsOf (monN l t r).2 (wtsF ((r : Nat) : Int) l)) (o := (monN l t r).1) (nodup_of (fun a h => Nat.lt_irrefl a h) (plc_pw ((r : Nat) : Int) l 0))
      (fun j hj => by have := hpl j hj; omega)
      (fun j hj => by
        obtain ⟨k, hk⟩ := List.getElem?_of_mem hj
        obtain ⟨_, x, q1, q2, _⟩ := plc_at ((r : Nat) : Int) l 0 k j hk
        rw [Nat.sub_zero] at q1
        exact hz j x q1 (by omega))
      (by rw [parts_len, plc_wts])
    show (putP _ _).sum + ((monN l t r).2 - _) = t
    rw [hs]
    omega
section
variable {l : List Cl} {t : Nat}
theorem sums_le {i : Nat} {x : Cl} (hx : l[i]? = some x) (h0 : 0 ≤ x.rt) (h4 : x.rt < 5) : (monN l t 5).1.getD i 0 ≤ x.am.toNat := by
  have hk := plc_cnt x.rt l 0 i x hx rfl
  rw [Nat.zero_add] at hk
  obtain ⟨_, y, q1, _, q3⟩ := plc_at x.rt l 0 _ _ hk
  rw [Nat.sub_zero, hx] at q1
  obtain rfl := Option.some.inj q1
  rw [mon_at hx h0 hk 5 h4]
  exact part_le q3
/-- who hasn't all has emptied the pot -/
theorem sums_dry {i : Nat} {x : Cl} (hx : l[i]? = some x) (h0 : 0 ≤ x.rt) (h4 : x.rt < 5) (hne : (monN l t 5).1.getD i 0 ≠ x.am.toNat) : ∀ R : Nat, x.rt < ((R : Nat) : Int) → (monN l t R).2 = 0 := by
  have hk := plc_cnt x.rt l 0 i x hx rfl
  rw [Nat.zero_add] at hk
  obtain ⟨_, y, q1, _, q3⟩ := plc_at x.rt l 0 _ _ hk
  rw [Nat.sub_zero, hx] at q1
  obtain rfl := Option.some.inj q1
  rw [mon_at hx h0 hk 5 h4] at hne
  intro R hR
  obtain ⟨r, hr⟩ : ∃ r : Nat, x.rt = ((r : Nat) : Int) := ⟨x.rt.toNat, by omega⟩
  rw [hr, Int.toNat_natCast] at hne
  have hd : (monN l t (r + 1)).2 = 0 := mon_dry l t r (by
    rcases Nat.lt_or_ge (monN l t r).2 (wtsF ((r : Nat) : Int) l).sum with q | q
    · exact q
    · exact absurd (part_all q (by rw [← hr]; exact q3)) (by rw [← hr] at hne ⊢; exact hne))
  have := mon_mono l t (a := r + 1) (b := R) (by omega)
  omega
theorem sums_left {i : Nat} {x : Cl} (hx : l[i]? = some x) (h0 : 0 ≤ x.rt) (h4 : x.rt < 5) (hl : 0 < (monN l t 5).2) : (monN l t 5).1.getD i 0 = x.am.toNat := by
  apply Classical.byContradiction
  intro hne
  have := sums_dry hx h0 h4 hne 5 h4
  omega
theorem sums_rank {i k : Nat} {x y : Cl} (hx : l[i]? = some x) (hy : l[k]? = some y) (h0 : 0 ≤ x.rt) (h4 : x.rt < 5) (hy4 : y.rt < 5) (hlt : x.rt < y.rt) (hp : 0 < (monN l t 5).1.getD k 0) : (monN l t 5).1.getD i 0 = x.am.toNat := by
  apply Classical.byContradiction
  intro hne
  have hd := sums_dry hx h0 h4 hne y.rt.toNat (by omega)
  have hk := plc_cnt y.rt l 0 k y hy rfl
  rw [Nat.zero_add] at hk
  rw [mon_at hy (by omega) hk 5 hy4, hd, part_zero] at hp
  omega
theorem sums_near {i k : Nat} {x y : Cl} (hx : l[i]? = some x) (hy : l[k]? = some y) (h0 : 0 ≤ x.rt) (h4 : x.rt < 5) (he : y.rt = x.rt) (ha : y.am = x.am) : (monN l t 5).1.getD k 0 ≤ (monN l t 5).1.getD i 0 + 1 := by
  have hk := plc_cnt x.rt l 0 i x hx rfl
  have hj := plc_cnt x.rt l 0 k y hy he
  rw [Nat.zero_add] at hk hj
  obtain ⟨_, x', q1, _, q3⟩ := plc_at x.rt l 0 _ _ hk
  rw [Nat.sub_zero, hx] at q1
  obtain rfl := Option.some.inj q1
  obtain ⟨_, y', r1, _, r3⟩ := plc_at x.rt l 0 _ _ hj
  rw [Nat.sub_zero, hy] at r1
  obtain rfl := Option.some.inj r1
  rw [ha] at r3
  rw [mon_at hx h0 hk 5 h4, mon_at hy (by omega) (by rw [he]; exact hj) 5 (by omega), he]
  exact part_near r3 q3
end
/-! #### the best ranks alone -/
def leB (R : Int) (x : Cl) : Bool := decide (x.rt ≤ R)
theorem wts_best {R r : Int} (h : r ≤ R) : ∀ l : List Cl, wtsF r (l.filter (leB R)) = wtsF r l
  | [] => rfl
  | x :: l => by
    have ih := wts_best h l
    rw [List.filter_cons, wtsF]
    by_cases hx : leB R x = true
    · rw [if_pos hx, wtsF, ih]
    · rw [if_neg hx, ih, if_neg (fun q => hx (by unfold leB; rw [decide_eq_true_eq]; omega))]
theorem wts_none {R r : Int} (h : R < r) : ∀ l : List Cl, wtsF r (l.filter (leB R)) = []
  | [] => rfl
  | x :: l => by
    have ih := wts_none h l
    rw [List.filter_cons]
    by_cases hx : leB R x = true
    · rw [if_pos hx, wtsF, ih, if_neg (fun q => by unfold leB at hx; rw [decide_eq_true_eq] at hx; omega)]
    · rw [if_neg hx, ih]
theorem best_pot {l : List Cl} {t R : Nat} : ∀ r : Nat, r ≤ R + 1 → (monN (l.filter (leB ((R : Nat) : Int))) t r).2 = (monN l t r).2
  | 0, _ => rfl
  | r + 1, h => by
    show (monN _ t r).2 - (partsOf (monN _ t r).2 (wtsF ((r : Nat) : Int) _)).sum = (monN l t r).2 - (partsOf (monN l t r).2 (wtsF ((r : Nat) : Int) l)).sum
    rw [best_pot r (by omega), wts_best (by omega)]
theorem best_left {l : List Cl} {t R : Nat} : ∀ r : Nat, R + 1 ≤ r → (monN (l.filter (leB ((R : Nat) : Int))) t r).2 = (monN l t (R + 1)).2
  | 0, h => by omega
  | r + 1, h => by
    by_cases e : r = R
    · subst e; exact best_pot (r + 1) (Nat.le_refl _)
    · show (monN _ t r).2 - (partsOf (monN _ t r).2 (wtsF ((r : Nat) : Int) _)).sum = _
      rw [best_left r (by omega), wts_none (by omega)]
      have : partsOf (monN l t (R + 1)).2 [] = [] := by unfold partsOf; rw [if_neg (by simp)]
      rw [this]
      rfl
theorem take_filter {α : Type} {p : α → Bool} {l : List α} {i : Nat} {x : α} (hx : l[i]? = some x) (hp : p x = true) : (l.filter p)[((l.take i).filter p).length]? = some x ∧ (l.filter p).take ((l.take i).filter p).length = (l.take i).filter p := by
  have hlt := (List.getElem?_eq_some_iff.1 hx).1
  have e : l = l.take i ++ x :: l.drop (i + 1) := by
    obtain ⟨y, h1, h2⟩ := drop_at hlt
    rw [hx] at h1
    obtain rfl := Option.some.inj h1
    rw [← h2, List.take_append_drop]
  have e2 : l.filter p = (l.take i).filter p ++ x :: (l.drop (i + 1)).filter p := by
    conv => lhs; rw [e]
    rw [List.filter_append, List.filter_cons_of_pos hp]
  rw [e2]
  refine ⟨?_, ?_⟩
  · rw [List.getElem?_append_right (Nat.le_refl _), Nat.sub_self]; rfl
  · rw [List.take_left]
theorem best_at {l : List Cl} {t R i : Nat} {x : Cl} (hx : l[i]? = some x) (h0 : 0 ≤ x.rt) (h4 : x.rt < 5) (hR : x.rt ≤ ((R : Nat) : Int)) :
    (monN (l.filter (leB ((R : Nat) : Int))) t 5).1.getD ((l.take i).filter (leB ((R : Nat) : Int))).length 0 = (monN l t 5).1.getD i 0 := by
  obtain ⟨g1, g2⟩ := take_filter (p := leB ((R : Nat) : Int)) hx (by unfold leB; rw [decide_eq_true_eq]; exact hR)
  have hk := plc_cnt x.rt l 0 i x hx rfl
  have hj := plc_cnt x.rt (l.filter (leB ((R : Nat) : Int))) 0 _ x g1 rfl
  rw [Nat.zero_add] at hk hj
  have ef : ((l.take i).filter (leB ((R : Nat) : Int))).filter (rtB x.rt) = (l.take i).filter (rtB x.rt) := by
    rw [List.filter_filter]
    refine List.filter_congr (fun y _ => ?_)
    unfold rtB leB
    by_cases hy : y.rt = x.rt
    · rw [decide_eq_true hy, decide_eq_true (by omega)]; rfl
    · rw [decide_eq_false hy]; rfl
  rw [g2, ef] at hj
  rw [mon_at hx h0 hk 5 h4, mon_at g1 h0 hj 5 h4, best_pot _ (by omega), wts_best hR]
end Go.Proofs.Ytldfncafkdmoiaa
namespace Go.Proofs.Ytldfncafkdmoiaa
open Go.SL
/-! ### the document's split: plain -/
/-- the rests as the document keeps them: who has got one more bears -1 -/
def rstL (rs : List Nat) (l : List Nat) : List Int := l.foldl (fun R i => R.set i (-1)) (rs.map fun r => ((r : Nat) : Int))
theorem rst_gen : ∀ (l : List Nat) (R : List Int), (l.foldl (fun R i => R.set i (-1)) R).length = R.length ∧ ∀ i, i < R.length → (l.foldl (fun R i => R.set i (-1)) R).getD i 0 = if i ∈ l then -1 else R.getD i 0
  | [], R => ⟨rfl, fun i _ => by simp⟩
  | j :: l, R => by
    obtain ⟨h1, h2⟩ := rst_gen l (R.set j (-1))
    refine ⟨by rw [List.foldl_cons, h1, List.length_set], fun i hi => ?_⟩
    rw [List.foldl_cons, h2 i (by rw [List.length_set]; exact hi)]
    by_cases hm : i ∈ l
    · rw [if_pos hm, if_pos (List.mem_cons_of_mem _ hm)]
    · rw [if_neg hm]
      by_cases e : j = i
      · subst e
        rw [if_pos List.mem_cons_self, List.getD_eq_getElem?_getD, List.getElem?_set_self hi]; rfl
      · rw [if_neg (fun q => by
          rcases List.mem_cons.1 q with q | q
          · exact e q.symm
          · exact hm q), List.getD_eq_getElem?_getD, List.getElem?_set_ne e, List.getD_eq_getElem?_getD]
theorem rstL_len (rs l : List Nat) : (rstL rs l).length = rs.length := by unfold rstL; rw [(rst_gen l _).1, List.length_map]
theorem rstL_at (rs l : List Nat) {i : Nat} (hi : i < rs.length) : (rstL rs l).getD i 0 = if i ∈ l then -1 else ((rs.getD i 0 : Nat) : Int) := by
  unfold rstL
  rw [(rst_gen l _).2 i (by rw [List.length_map]; exact hi)]
  congr 1
  rw [List.getD_eq_getElem?_getD, List.getElem?_map, List.getD_eq_getElem?_getD, List.getElem?_eq_getElem hi]
  rfl
theorem rstL_snoc (rs l : List Nat) (j : Nat) : rstL rs (l ++ [j]) = (rstL rs l).set j (-1) := by unfold rstL; rw [List.foldl_append]; rfl
theorem rstL_range (rs l : List Nat) (B : Nat) (h : ∀ x ∈ rs, x ≤ B) : ∀ v ∈ rstL rs l, -1 ≤ v ∧ v ≤ ((B : Nat) : Int) := by
  intro v hv
  obtain ⟨i, hi⟩ := List.getElem?_of_mem hv
  have hl := (List.getElem?_eq_some_iff.1 hi).1
  rw [rstL_len] at hl
  have h1 := rstL_at rs l hl
  rw [List.getD_eq_getElem?_getD, hi, Option.getD_some] at h1
  rw [h1]
  split
  · omega
  · have := h _ (List.getElem_mem hl)
    rw [List.getD_eq_getElem?_getD, List.getElem?_eq_getElem hl, Option.getD_some]
    omega
/-- b is the first of the greatest among the first n -/
def isBest (R : List Int) (n b : Nat) : Prop := b < n ∧ (∀ j, j < n → R.getD j 0 ≤ R.getD b 0) ∧ ∀ j, j < b → R.getD j 0 < R.getD b 0
theorem isBest_one (R : List Int) : isBest R 1 0 := by
  refine ⟨by omega, fun j hj => ?_, fun j hj => by omega⟩
  have : j = 0 := by omega
  rw [this]
  exact Int.le_refl _
theorem isBest_up {R : List Int} {n b : Nat} (h : isBest R n b) (hl : R.getD b 0 < R.getD n 0) : isBest R (n + 1) n := by
  refine ⟨by omega, fun j hj => ?_, fun j hj => ?_⟩
  · by_cases e : j = n
    · rw [e]; exact Int.le_refl _
    · have := h.2.1 j (by omega); omega
  · have := h.2.1 j (by omega); omega
theorem isBest_st {R : List Int} {n b : Nat} (h : isBest R n b) (hl : ¬ R.getD b 0 < R.getD n 0) : isBest R (n + 1) b := by
  refine ⟨by have := h.1; omega, fun j hj => ?_, h.2.2⟩
  by_cases e : j = n
  · rw [e]; omega
  · exact h.2.1 j (by omega)
theorem isBest_uni {R : List Int} {n b c : Nat} (h : isBest R n b) (k : isBest R n c) : b = c := by
  rcases Nat.lt_trichotomy b c with q | q | q
  · have h1 := k.2.2 b q
    have h2 := h.2.1 c k.1
    omega
  · exact q
  · have h1 := h.2.2 c q
    have h2 := k.2.1 b h.1
    omega
theorem ord_best (rs : List Nat) {k b : Nat} (hb : (ordR rs)[k]? = some b) : isBest (rstL rs ((ordR rs).take k)) rs.length b := by
  have hp : (ordR rs).Pairwise (lt2 rs) := ord_strict rs rs.length
  have hm : ∀ j, j ∈ ordR rs ↔ j < rs.length := fun j => by unfold ordR; rw [(isL_perm _).mem_iff, List.mem_range]
  obtain ⟨hk, hkb⟩ := List.getElem?_eq_some_iff.1 hb
  have hbl := (hm b).1 (List.mem_of_getElem? hb)
  have rel : ∀ {i j x y : Nat}, (ordR rs)[i]? = some x → (ordR rs)[j]? = some y → i < j → lt2 rs x y := fun {i j x y} hx hy hij => by
    obtain ⟨hx1, hx2⟩ := List.getElem?_eq_some_iff.1 hx
    obtain ⟨hy1, hy2⟩ := List.getElem?_eq_some_iff.1 hy
    have := List.pairwise_iff_getElem.1 hp i j hx1 hy1 hij
    rwa [hx2, hy2] at this
  have hin : ∀ {m j : Nat}, (ordR rs)[m]? = some j → k ≤ m → j ∉ (ordR rs).take k := fun {m j} hj hkm hmem => by
    obtain ⟨i, hi⟩ := List.getElem?_of_mem hmem
    rw [List.getElem?_take] at hi
    split at hi
    · exact lt2_asymm _ _ (rel hi hj (by omega)) (rel hi hj (by omega))
    · cases hi
  have hb0 : (rstL rs ((ordR rs).take k)).getD b 0 = ((rs.getD b 0 : Nat) : Int) := by rw [rstL_at _ _ hbl, if_neg (hin hb (Nat.le_refl _))]
  have key : ∀ j, j < rs.length → (rstL rs ((ordR rs).take k)).getD j 0 < (rstL rs ((ordR rs).take k)).getD b 0 ∨ ((rstL rs ((ordR rs).take k)).getD j 0 = (rstL rs ((ordR rs).take k)).getD b 0 ∧ b ≤ j) := by
    intro j hj
    obtain ⟨m, hmj⟩ := List.getElem?_of_mem ((hm j).2 hj)
    rw [hb0, rstL_at _ _ hj]
    by_cases q : m < k
    · have : j ∈ (ordR rs).take k := List.mem_of_getElem? (i := m) (by rw [List.getElem?_take, if_pos q]; exact hmj)
      rw [if_pos this]
      left
      omega
    · rw [if_neg (hin hmj (by omega))]
      by_cases e : m = k
      · subst e
        rw [hb] at hmj
        obtain rfl := Option.some.inj hmj
        exact .inr ⟨rfl, Nat.le_refl _⟩
      · have := rel hb hmj (by omega)
        unfold lt2 at this
        omega
  refine ⟨hbl, fun j hj => ?_, fun j hj => ?_⟩
  · rcases key j hj with q | q
    · omega
    · omega
  · rcases key j (by omega) with q | q
    · exact q
    · omega
theorem ordR_len (rs : List Nat) : (ordR rs).length = rs.length := by unfold ordR; rw [(isL_perm _).length_eq, List.length_range]
/-! the document's Times: p times b over c, bit by bit -/
theorem times_two {p b c : Nat} (hc : 0 < c) (hbc : b ≤ c) :
    (2 * p) * b / c = 2 * (p * b / c) + (if c ≤ 2 * (p * b % c) then 1 else 0) ∧ (2 * p) * b % c = 2 * (p * b % c) - (if c ≤ 2 * (p * b % c) then c else 0) := by
  have h1 := Nat.div_add_mod (p * b) c
  have h2 := Nat.mod_lt (p * b) hc
  have e : 2 * p * b = 2 * (p * b) := Nat.mul_assoc 2 p b
  rw [e]
  generalize p * b = x at *
  generalize hq : x / c = q at *
  generalize hr : x % c = r at *
  have h3 : 2 * x = c * (2 * q) + 2 * r := by rw [Nat.mul_left_comm]; omega
  split
  · rename_i hl
    have h4 : 2 * x = (2 * r - c) + c * (2 * q + 1) := by rw [Nat.mul_add, Nat.mul_one]; omega
    rw [h4, Nat.add_mul_div_left _ _ hc, Nat.add_mul_mod_self_left, Nat.div_eq_of_lt (by omega), Nat.mod_eq_of_lt (by omega)]
    omega
  · rename_i hl
    have h4 : 2 * x = 2 * r + c * (2 * q) := by omega
    rw [h4, Nat.add_mul_div_left _ _ hc, Nat.add_mul_mod_self_left, Nat.div_eq_of_lt (by omega), Nat.mod_eq_of_lt (by omega)]
    omega
theorem times_one {p b c : Nat} (hc : 0 < c) :
    (p + 1) * b / c = p * b / c + b / c + (if c ≤ p * b % c + b % c then 1 else 0) ∧ (p + 1) * b % c = p * b % c + b % c - (if c ≤ p * b % c + b % c then c else 0) := by
  have h1 := Nat.div_add_mod (p * b) c
  have h2 := Nat.mod_lt (p * b) hc
  have h3 := Nat.div_add_mod b c
  have h4 := Nat.mod_lt b hc
  rw [Nat.add_mul, Nat.one_mul]
  generalize p * b = x at *
  generalize x / c = q at *
  generalize x % c = r at *
  generalize b / c = u at *
  generalize b % c = v at *
  have h5 : c * (q + u) = c * q + c * u := Nat.mul_add _ _ _
  split
  · have h6 : x + b = (r + v - c) + c * (q + u + 1) := by rw [Nat.mul_add, Nat.mul_one]; omega
    rw [h6, Nat.add_mul_div_left _ _ hc, Nat.add_mul_mod_self_left, Nat.div_eq_of_lt (by omega), Nat.mod_eq_of_lt (by omega)]
    omega
  · have h6 : x + b = (r + v) + c * (q + u) := by omega
    rw [h6, Nat.add_mul_div_left _ _ hc, Nat.add_mul_mod_self_left, Nat.div_eq_of_lt (by omega), Nat.mod_eq_of_lt (by omega)]
    omega
theorem half_up (a i : Nat) : a / 2 ^ i = 2 * (a / 2 ^ (i + 1)) + a / 2 ^ i % 2 := by
  rw [Nat.pow_succ, ← Nat.div_div_eq_div_mul]
  omega
end Go.Proofs.Ytldfncafkdmoiaa
