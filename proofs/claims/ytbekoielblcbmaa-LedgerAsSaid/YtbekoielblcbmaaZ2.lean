import Derived.Test.YtbekoielblcbmaaZ1
import Derived.Test.YtbekoielblcbmaaTa
namespace Go.Proofs.Ytbekoielblcbmaa
open Go.SL
/-! ### the document's ledger: what is done -/
theorem fI_keys {κ α β : Type} [DecidableEq κ] {k : κ} : ∀ {l : List (κ × α)} {m : List (κ × β)}, akeys l = akeys m → fI k l = fI k m := by
  have key : ∀ {l : List (κ × α)} {m : List (κ × β)}, akeys l = akeys m → (aget k l).isSome = (aget k m).isSome ∧ aidx k l = aidx k m := by
    intro l
    induction l with
    | nil => intro m h; cases m with
      | nil => exact ⟨rfl, rfl⟩
      | cons p m => cases h
    | cons p l ih => intro m h; cases m with
      | nil => cases h
      | cons q m =>
        obtain ⟨a, b⟩ := p
        obtain ⟨c, d⟩ := q
        rw [akeys_cons, akeys_cons] at h
        injection h with h1 h2
        dsimp only at h1
        subst h1
        obtain ⟨i1, i2⟩ := ih h2
        rw [aget, aget, aidx, aidx]
        split
        · exact ⟨rfl, rfl⟩
        · exact ⟨i1, by rw [i2]⟩
  intro l m h
  obtain ⟨h1, h2⟩ := key h
  unfold fI
  rw [h1, h2]
set_option maxRecDepth 10000 in
set_option maxHeartbeats 1000000 in
theorem rfindO_ac (A : List (K2 × Acc)) (P : List Post) (H : List Hld) (n c : ByteArray) (hA : A.length ≤ 140737488351232) : AC Try.prog 38 [.agg [.own 1000 (A.map daE).length, .d (.sl 3 (P.map Post.enc)), .d (.sl 4 (H.map Hld.enc))], .d (.sc (.string n)), .d (.sc (.string c))] [(1000, some (.arr 84 4 (A.map daE)))] [1000]
    (fun r h' => r = .d (.sc (.int .i64 (fI (n, c) A))) ∧ SubH [(1000, some (.arr 84 4 (A.map daE)))] h') := by
  refine AC_enter Try.func38 rfl Try.ntmps38 (rv := [.tmp 6]) rfl rfl (by simp) (fun w X G => ?_)
  repeat' (first | ((with_reducible refine gA ?_); (first | refine AW_seq ?_ | refine AW_region ?_ | refine AW_block ?_)) | ((with_reducible refine gS ?_); refine Es_s (T := Try.tab) rfl rfl rfl rfl ?_) | (refine Es_skip rfl ?_ rfl ?_; (first | rfl | (refine w_tf ?_; assumption) | (refine w_ft ?_; assumption))) | (((with_reducible refine gS ?_); apply Es_xs); rfl; rfl; refine LStep_boxN rfl rfl rfl rfl rfl rfl; rfl) | (with_reducible refine Es_nil ?_) | (with_reducible refine then_n ?_))
  refine AW_forE (S := Nat) (fun k => k ≤ A.length ∧ aget (n, c) (A.take k) = none) (fun k => [(7, .d (.sc (.int .i64 (k : Nat))))]) (fun _ => []) (fun k => A.length - k) 0 ⟨by omega, rfl⟩ (by (repeat' (first | exact trivial | exact rfl | (refine ⟨Or.inl rfl, ?_⟩) | (refine ⟨Or.inr rfl, ?_⟩) | (refine ⟨Or.inr trivial, ?_⟩) | (refine ⟨rfl, ?_⟩) | (refine ⟨?_, ?_⟩)))) (by (repeat' (first | exact trivial | exact rfl | (refine ⟨Or.inl rfl, ?_⟩) | (refine ⟨Or.inr rfl, ?_⟩) | (refine ⟨Or.inr trivial, ?_⟩) | (refine ⟨rfl, ?_⟩) | (refine ⟨?_, ?_⟩)))) ?_
  intro k ⟨hk, hf⟩
  by_cases hlt : k < A.length
  · obtain ⟨p, hp, _⟩ := drop_at hlt
    repeat' (first | ((with_reducible refine gA ?_); (first | refine AW_seq ?_ | refine AW_region ?_ | refine AW_condF rfl ?_ | (refine AW_cond rfl (fun hc => ?_) (fun hc => ?_) <;> try (exfalso; simp only [cmpL] at hc; omega)) | refine AW_block ?_ | refine AW_ret ?_ | refine AW_skip ?_)) | ((with_reducible refine gS ?_); refine Es_s (T := Try.tab) rfl rfl rfl rfl ?_) | (((with_reducible refine gS ?_); apply Es_q); rfl; (first | rfl | (refine w_tt ?_; assumption)); (first | refine LStep_lenOwn (T := Try.tab) rfl rfl rfl rfl rfl rfl | (refine LStep_indexOwnM (T := Try.tab) rfl rfl rfl rfl rfl rfl rfl rfl ?_; (first | omega | (simp only [List.length_map]; omega))) | refine LStep_fieldAddrE (T := Try.tab) rfl rfl rfl rfl _ _ rfl rfl | (refine LStep_loadEM (T := Try.tab) (c := ?_) rfl rfl rfl rfl rfl rfl ?_ rfl; rotate_left; assumption))) | (((with_reducible refine gS ?_); apply Es_q); rfl; (first | rfl | (refine w_tt ?_; assumption)); (first | refine LStep_simp (T := Try.tab) rfl rfl | (refine LStep_add rfl rfl rfl rfl ?_; (refine IntWalk.i64_in _ ?_; first | omega | (simp only [cmps] at *; omega))) | (refine LStep_pickT rfl rfl ?_ rfl rfl; assumption) | (refine LStep_pickF rfl rfl ?_ rfl rfl; assumption))) | (refine Es_skip rfl ?_ rfl ?_; (first | rfl | (refine w_tf ?_; assumption) | (refine w_ft ?_; assumption))) | (refine Es_split rfl ?_ (fun _ => ?_) (fun _ => ?_); ((fail_if_success (refine und_t ?_; assumption)); (fail_if_success (refine und_f ?_; assumption)); exact trivial)) | (with_reducible refine Es_nil ?_) | (with_reducible refine then_n ?_) | (with_reducible refine then_r ?_) | (with_reducible refine block_n ?_) | (with_reducible refine block_r ?_) | ((with_reducible refine gR ?_); first | refine ret1 rfl ?_ | refine ret2 rfl rfl ?_ | refine ret0 ?_ | refine end1 rfl ?_ | refine end0 ?_))
    all_goals simp only [cmps] at *
    all_goals simp only [List.length_map] at *
    all_goals first
      | (refine ⟨congrArg (fun i => AV.d (D.sc (Value.int .i64 i))) ?_, rfl, trivial⟩; exact (fI_at hp (Prod.ext (by assumption) (by assumption)) hf).symm)
      | (refine ⟨k + 1, ?_, by omega, by (repeat' (first | exact trivial | exact rfl | (refine ⟨Or.inl rfl, ?_⟩) | (refine ⟨Or.inr rfl, ?_⟩) | (refine ⟨Or.inr trivial, ?_⟩) | (refine ⟨rfl, ?_⟩) | (refine ⟨?_, ?_⟩))), by (repeat' (first | exact trivial | exact rfl | (refine ⟨Or.inl rfl, ?_⟩) | (refine ⟨Or.inr rfl, ?_⟩) | (refine ⟨Or.inr trivial, ?_⟩) | (refine ⟨rfl, ?_⟩) | (refine ⟨?_, ?_⟩))), by (repeat' (first | exact trivial | exact rfl | (refine ⟨Or.inl rfl, ?_⟩) | (refine ⟨Or.inr rfl, ?_⟩) | (refine ⟨Or.inr trivial, ?_⟩) | (refine ⟨rfl, ?_⟩) | (refine ⟨?_, ?_⟩))), by (repeat' (first | exact trivial | exact rfl | (refine ⟨Or.inl rfl, ?_⟩) | (refine ⟨Or.inr rfl, ?_⟩) | (refine ⟨Or.inr trivial, ?_⟩) | (refine ⟨rfl, ?_⟩) | (refine ⟨?_, ?_⟩)))⟩; exact ⟨by omega, aget_step hp (fun q => by first | exact absurd (congrArg Prod.fst q) (by assumption) | exact absurd (congrArg Prod.snd q) (by assumption)) hf⟩)
      | (exfalso; omega)
  · have : k = A.length := by omega
    subst this
    rw [List.take_length] at hf
    repeat' (first | ((with_reducible refine gA ?_); (first | refine AW_seq ?_ | refine AW_region ?_ | (refine AW_cond rfl (fun hc => ?_) (fun hc => ?_) <;> try (exfalso; simp only [cmpL] at hc; omega)) | refine AW_ret ?_ | refine AW_exit ?_)) | ((with_reducible refine gS ?_); refine Es_s (T := Try.tab) rfl rfl rfl rfl ?_) | (((with_reducible refine gS ?_); apply Es_q); rfl; rfl; refine LStep_lenOwn (T := Try.tab) rfl rfl rfl rfl rfl rfl) | (with_reducible refine Es_nil ?_) | (with_reducible refine then_n ?_) | (with_reducible refine then_e ?_) | ((with_reducible refine block_e ?_ ?_); rfl) | ((with_reducible refine gR ?_); first | refine ret1 rfl ?_ | refine ret2 rfl rfl ?_ | refine ret0 ?_ | refine end1 rfl ?_ | refine end0 ?_))
    all_goals simp only [cmps] at *
    all_goals simp only [List.length_map] at *
    all_goals first
      | (exfalso; omega)
      | exact ⟨by rw [fI_none hf], rfl, trivial⟩
def bkE (A : List (K2 × Acc)) (x : List Ent) : List (K2 × Acc) := A.map fun p => (p.1, ⟨p.2.floor, p.2.bal + esum p.1 x, p.2.held⟩)
theorem bk_keys (A : List (K2 × Acc)) (x : List Ent) : akeys (bkE A x) = akeys A := by unfold akeys bkE; rw [List.map_map]; rfl
theorem bk_nil (A : List (K2 × Acc)) : bkE A [] = A := by
  unfold bkE
  refine (List.map_congr_left (fun p _ => ?_)).trans (List.map_id _)
  simp [esum]
theorem nodup_at {κ α : Type} {l : List (κ × α)} (h : (akeys l).Nodup) {i j : Nat} {p q : κ × α} (hi : l[i]? = some p) (hj : l[j]? = some q) (hpq : p.1 = q.1) : i = j := by
  have e1 : (akeys l)[i]? = some p.1 := by unfold akeys; rw [List.getElem?_map, hi]; rfl
  have e2 : (akeys l)[j]? = some q.1 := by unfold akeys; rw [List.getElem?_map, hj]; rfl
  obtain ⟨h1, e1⟩ := List.getElem?_eq_some_iff.1 e1
  obtain ⟨h2, e2⟩ := List.getElem?_eq_some_iff.1 e2
  have hp := List.pairwise_iff_getElem.1 h
  rcases Nat.lt_trichotomy i j with hlt | heq | hgt
  · exact absurd (by rw [e1, e2, hpq]) (hp i j h1 h2 hlt)
  · exact heq
  · exact absurd (by rw [e1, e2, hpq]) (hp j i h2 h1 hgt)
theorem bk_set {A : List (K2 × Acc)} (hn : (akeys A).Nodup) {q : Nat} {p : K2 × Acc} (hq : A[q]? = some p) (y : List Ent) {e : Ent} (he : e.key = p.1) : (bkE A y).set q (p.1, ⟨p.2.floor, p.2.bal + esum p.1 y + e.amt, p.2.held⟩) = bkE A (y ++ [e]) := by
  have hql := (List.getElem?_eq_some_iff.1 hq).1
  refine List.ext_getElem? (fun j => ?_)
  by_cases hj : q = j
  · subst hj
    rw [List.getElem?_set_self (by unfold bkE; rw [List.length_map]; exact hql)]
    unfold bkE
    rw [List.getElem?_map, hq, Option.map_some, esum_snoc, if_pos he, Int.add_assoc]
  · rw [List.getElem?_set_ne hj]
    unfold bkE
    rw [List.getElem?_map, List.getElem?_map]
    cases ha : A[j]? with
    | none => rfl
    | some r =>
      have : e.key ≠ r.1 := fun h => hj (nodup_at hn hq ha (by rw [← he, h]))
      rw [Option.map_some, Option.map_some, esum_snoc, if_neg this, Int.add_zero]
theorem aidx_at {κ α : Type} [DecidableEq κ] {k : κ} {c : α} : ∀ {l : List (κ × α)}, aget k l = some c → l[aidx k l]? = some (k, c)
  | [], h => by cases h
  | (q, d) :: l, h => by
    rw [aget] at h
    rw [aidx]
    split at h
    · rename_i e
      cases h
      subst e
      rw [if_pos rfl]; rfl
    · rename_i e
      rw [if_neg e, List.getElem?_cons_succ]
      exact aidx_at h
theorem enterA_bk {A : List (K2 × Acc)} {x : List Ent} (hi : ∀ e ∈ x, e.in40) (hl : x.length ≤ 64) (hb : ∀ p ∈ A, -4611686018427387904 ≤ p.2.bal ∧ p.2.bal ≤ 4611686018427387904) : enterA (chgL x) A = bkE A x := by
  unfold enterA bkE
  refine List.map_congr_left (fun p hp => ?_)
  have h1 := addAcc_get (k := p.1) (a := p.2) hi hl (hb p hp)
  exact Prod.ext (addAcc_key _ _ p) h1
set_option maxRecDepth 20000 in
set_option maxHeartbeats 4000000 in
theorem rbook_ac (A : List (K2 × Acc)) (P : List Post) (H : List Hld) (t : ByteArray) (x : List Ent) (hA : A.length ≤ 1048576) (hP : P.length ≤ 1048576) (hx : x.length ≤ 64) (hi : ∀ e ∈ x, e.in40) (hk : ∀ e ∈ x, aget e.key A ≠ none) (hn : (akeys A).Nodup) (hb : ∀ p ∈ A, -4611686018427387904 ≤ p.2.bal ∧ p.2.bal ≤ 4611686018427387904) :
    AC Try.prog 51 [docA A P H, .d (.sc (.string t)), .d (.sl 3 (x.map Ent.enc))] [] []
    (fun r _ => r = docA (bkE A x) (P ++ [⟨(P.length : Int) + 1, t, x⟩]) H) := by
  have hl0 : ∀ y, ((bkE A y).map daE).length = A.length := fun y => by unfold bkE; simp
  have hm0 : ([] ++ A.map daE) = (bkE A []).map daE := by rw [bk_nil]; rfl
  refine AC_enterC Try.tab Try.func51 rfl Try.ntmps51 (a0 := 6) (t0 := 45) rfl rfl (by simp) (fun w X G => ?_)
  repeat' (first | ((with_reducible refine gA ?_); (first | refine AW_seq ?_ | refine AW_region ?_ | refine AW_block ?_)) | ((with_reducible refine gS ?_); refine Es_s (T := Try.tab) rfl rfl rfl rfl ?_) | (((with_reducible refine gS ?_); apply Es_xs); rfl; rfl; (first | (refine LStep_litOwn (T := Try.tab) (len := 0) rfl rfl rfl rfl rfl rfl rfl rfl rfl rfl ?_ ?_; (refine Nat.le_of_ble_eq_true ?_; rfl); (unfold maxLen; omega)) | (refine LStep_append (T := Try.tab) rfl rfl rfl rfl rfl rfl rfl rfl rfl rfl ?_ ?_ ?_; rfl; (simp only [List.length_map, List.length_nil]; omega); (unfold maxLen; simp only [List.length_map, List.length_nil]; omega))); rfl) | (refine Es_skip rfl ?_ rfl ?_; (first | rfl | (refine w_tf ?_; assumption) | (refine w_ft ?_; assumption))) | (((with_reducible refine gS ?_); apply Es_xs); rfl; rfl; (first | refine LStep_boxN rfl rfl rfl rfl rfl rfl | refine LStep_allocN (T := Try.tab) rfl rfl rfl rfl rfl rfl); rfl) | (((with_reducible refine gS ?_); apply Es_xn); rfl; rfl; (refine LStep_storeN (T := Try.tab) rfl rfl rfl rfl rfl rfl rfl ?_ rfl; (refine Nat.le_of_ble_eq_true ?_; rfl)); rfl) | (with_reducible refine Es_nil ?_) | (with_reducible refine then_n ?_))
  refine AW_forE (S := Nat) (fun k => k ≤ x.length) (fun k => [(7, .d (.sc (.int .i64 (k : Nat))))]) (fun k => [(3, some (.cells [.own 9 ((bkE A (x.take k)).map daE).length, .d (.sl 3 (P.map Post.enc)), .d (.sl 4 (H.map Hld.enc))])), (9, some (.arr 84 4 ((bkE A (x.take k)).map daE)))]) (fun k => x.length - k) 0 (by omega) (by (repeat' (first | exact trivial | exact rfl | (refine ⟨Or.inl rfl, ?_⟩) | (refine ⟨Or.inr rfl, ?_⟩) | (refine ⟨Or.inr trivial, ?_⟩) | (refine ⟨rfl, ?_⟩) | (refine ⟨?_, ?_⟩)))) ?_ ?_
  · (try dsimp only)
    rw [List.take_zero, ← hm0]
    (repeat' (first | exact trivial | exact rfl | (refine ⟨Or.inl rfl, ?_⟩) | (refine ⟨Or.inr rfl, ?_⟩) | (refine ⟨Or.inr trivial, ?_⟩) | (refine ⟨rfl, ?_⟩) | (refine ⟨?_, ?_⟩)))
  intro k hkl
  by_cases hlt : k < x.length
  · obtain ⟨e, he, _⟩ := drop_at hlt
    have hem := List.mem_of_getElem? he
    have he40 := hi e hem
    obtain ⟨a, ha⟩ : ∃ a, aget e.key A = some a := by
      cases hq : aget e.key A with
      | none => exact absurd hq (hk e hem)
      | some a => exact ⟨a, rfl⟩
    have hat := aidx_at ha
    have hpa := hb _ (List.mem_of_getElem? hat)
    have heb := esum_in (x := x.take k) (fun e' h' => hi e' (List.mem_of_mem_take h')) e.key
    rw [List.length_take] at heb
    have hset := bk_set hn hat (x.take k) (e := e) rfl
    rw [← take_at he] at hset
    have hat2 : (bkE A (x.take k))[aidx e.key A]? = some (e.key, ⟨a.floor, a.bal + esum e.key (x.take k), a.held⟩) := by unfold bkE; rw [List.getElem?_map, hat]; rfl
    have hfi : fI (e.acct, e.cur) (bkE A (x.take k)) = (aidx e.key A : Nat) := by rw [fI_keys (bk_keys A _)]; exact fI_some ha
    have hlb : (bkE A (x.take k)).length = A.length := by unfold bkE; simp
    have cf := rfindO_ac (bkE A (x.take k)) P H e.acct e.cur (by omega)
    rw [hfi] at cf
    have hal : aidx e.key A < A.length := (List.getElem?_eq_some_iff.1 hat).1
    have hfit : wrp .i64 (a.bal + esum e.key (x.take k) + e.amt) = a.bal + esum e.key (x.take k) + e.amt := wrp_fit (by have := he40.1; have := he40.2; simp only at hpa; omega)
    have hs2 : ((bkE A (x.take k)).map daE).set (aidx e.key A) (setsD (daE (e.key, ⟨a.floor, a.bal + esum e.key (x.take k), a.held⟩)) (0 + 3) [.sc (.int .i64 (wrp .i64 (a.bal + esum e.key (x.take k) + e.amt)))]) = (bkE A (x.take (k + 1))).map daE := by rw [hfit, ← hset, List.map_set]; rfl
    have hLl : ((bkE A (x.take (k + 1))).map daE).length = ((bkE A (x.take k)).map daE).length := by rw [hl0, hl0]
    clear hset
    generalize hB : bkE A (x.take k) = B at hs2 hLl cf hat2 hfi hlb ⊢
    repeat' (first | ((with_reducible refine gA ?_); (first | refine AW_seq ?_ | refine AW_region ?_ | refine AW_regionD Try.mixed ?_ | (refine AW_cond rfl (fun hc => ?_) (fun hc => ?_) <;> try (exfalso; simp only [cmpL] at hc; omega)) | refine AW_block ?_ | refine AW_skip ?_)) | (first | ((with_reducible refine gS ?_); refine Es_s (T := Try.tab) rfl rfl rfl rfl ?_) | ((with_reducible refine gD ?_); refine Ed_s (T := Try.tab) rfl rfl rfl rfl ?_)) | ((first | ((with_reducible refine gS ?_); apply Es_q) | ((with_reducible refine gD ?_); apply Ed_q)); rfl; rfl; (first | (refine LStep_indexOwnM (T := Try.tab) rfl rfl rfl rfl rfl rfl rfl rfl ?_; (first | omega | (simp only [List.length_map]; omega))) | refine LStep_fieldAddrE (T := Try.tab) rfl rfl rfl rfl _ _ rfl rfl | (refine LStep_loadEM (T := Try.tab) (c := ?_) rfl rfl rfl rfl rfl rfl ?_ rfl; rotate_left; assumption))) | ((first | ((with_reducible refine gS ?_); apply Es_xn) | ((with_reducible refine gD ?_); apply Ed_xn)); rfl; rfl; (refine LStep_storeEM (T := Try.tab) (c := ?_) rfl rfl rfl rfl rfl rfl rfl rfl rfl ?_ rfl; rotate_left; assumption); rfl) | ((first | ((with_reducible refine gS ?_); apply Es_xg) | ((with_reducible refine gD ?_); apply Ed_xg)); rfl; rfl; refine LStep_callHN [(1000, 9)] [] cf rfl rfl ⟨rfl, trivial⟩ rfl ⟨rfl, trivial⟩ rfl rfl; rfl) | ((first | ((with_reducible refine gS ?_); apply Es_q) | ((with_reducible refine gD ?_); apply Ed_q)); rfl; rfl; (first | refine LStep_lenM (T := Try.tab) rfl rfl rfl rfl | (refine LStep_add rfl rfl rfl rfl ?_; (refine IntWalk.i64_in _ ?_; first | omega | (simp only [cmps] at *; omega))) | refine LStep_wrap (T := Try.tab) rfl rfl | (refine LStep_indexM (T := Try.tab) (c := ?_) rfl rfl rfl rfl rfl rfl ?_; rotate_left; assumption))) | (with_reducible refine Es_nil ?_) | ((with_reducible refine Ed_nil ?_ ?_); kernel_rfl) | (with_reducible refine then_n ?_) | (with_reducible refine block_n ?_))
    refine ⟨k + 1, by omega, by omega, by (repeat' (first | exact trivial | exact rfl | (refine ⟨Or.inl rfl, ?_⟩) | (refine ⟨Or.inr rfl, ?_⟩) | (refine ⟨Or.inr trivial, ?_⟩) | (refine ⟨rfl, ?_⟩) | (refine ⟨?_, ?_⟩))), by (repeat' (first | exact trivial | exact rfl | (refine ⟨Or.inl rfl, ?_⟩) | (refine ⟨Or.inr rfl, ?_⟩) | (refine ⟨Or.inr trivial, ?_⟩) | (refine ⟨rfl, ?_⟩) | (refine ⟨?_, ?_⟩))), ?_, by (repeat' (first | exact trivial | exact rfl | (refine ⟨Or.inl rfl, ?_⟩) | (refine ⟨Or.inr rfl, ?_⟩) | (refine ⟨Or.inr trivial, ?_⟩) | (refine ⟨rfl, ?_⟩) | (refine ⟨?_, ?_⟩)))⟩
    rw [hLl, ← hs2]
    exact ⟨rfl, rfl, trivial⟩
  have : k = x.length := by omega
  subst this
  rw [List.take_length]
  have hlP : (P.map Post.enc).length = P.length := by simp
  repeat' (first | ((with_reducible refine gA ?_); refine AW_freezeCell 3 0 (id := 9) rfl rfl rfl rfl ?_) | ((with_reducible refine gA ?_); refine AW_freezeCell 3 1 (id := 49) rfl rfl rfl rfl ?_) | ((with_reducible refine gA ?_); (first | refine AW_seq ?_ | refine AW_region ?_ | refine AW_regionD Try.mixed ?_ | (refine AW_cond rfl (fun hc => ?_) (fun hc => ?_) <;> try (exfalso; simp only [cmpL] at hc; omega)) | refine AW_ret ?_ | refine AW_exit ?_)) | (first | ((with_reducible refine gS ?_); refine Es_s (T := Try.tab) rfl rfl rfl rfl ?_) | ((with_reducible refine gD ?_); refine Ed_s (T := Try.tab) rfl rfl rfl rfl ?_)) | ((first | ((with_reducible refine gS ?_); apply Es_xs) | ((with_reducible refine gD ?_); apply Ed_xs)); rfl; rfl; (first | (refine LStep_litOwn (T := Try.tab) (len := 0) rfl rfl rfl rfl rfl rfl rfl rfl rfl rfl ?_ ?_; (refine Nat.le_of_ble_eq_true ?_; rfl); (unfold maxLen; omega)) | (refine LStep_appendD (T := Try.tab) 58 rfl rfl rfl rfl rfl rfl rfl rfl rfl rfl rfl ?_ ?_ ?_; rfl; (simp only [List.length_map, List.length_nil]; omega); (unfold maxLen; simp only [List.length_map, List.length_nil]; omega)) | (refine LStep_append (T := Try.tab) rfl rfl rfl rfl rfl rfl rfl rfl rfl rfl ?_ ?_ ?_; rfl; (simp only [List.length_map, List.length_nil, List.length_append, List.length_cons]; omega); (unfold maxLen; simp only [List.length_map, List.length_nil, List.length_append, List.length_cons]; omega))); rfl) | ((first | ((with_reducible refine gS ?_); apply Es_q) | ((with_reducible refine gD ?_); apply Ed_q)); rfl; rfl; (first | refine LStep_lenM (T := Try.tab) rfl rfl rfl rfl | (refine LStep_add rfl rfl rfl rfl ?_; (refine IntWalk.i64_in _ ?_; first | omega | (simp only [cmps] at *; omega))) | (refine LStep_lit (T := Try.tab) rfl rfl rfl rfl rfl rfl rfl rfl ?_; (refine Nat.le_of_ble_eq_true ?_; rfl)) | refine LStep_buildN (T := Try.tab) rfl rfl rfl rfl rfl rfl rfl)) | ((first | ((with_reducible refine gS ?_); apply Es_xn) | ((with_reducible refine gD ?_); apply Ed_xn)); rfl; rfl; (refine LStep_storeN (T := Try.tab) rfl rfl rfl rfl rfl rfl rfl ?_ rfl; (refine Nat.le_of_ble_eq_true ?_; rfl)); rfl) | (with_reducible refine Es_nil ?_) | ((with_reducible refine Ed_nil ?_ ?_); kernel_rfl) | (with_reducible refine then_n ?_) | (with_reducible refine then_e ?_) | ((with_reducible refine block_e ?_ ?_); rfl) | ((with_reducible refine gC ?_); first | refine retC1 rfl ?_ | refine endC1 rfl ?_))
  unfold docA
  rw [List.map_append]
  rfl
theorem doc_fin {x : Led × Int} {s : Led} {k : Int} {A' : List (K2 × Acc)} {P : List Post} {H : List Hld} (e : x = (s, k)) (hA : s.A = A') : AV.tup [docA A' P H, .d (.sc (.int .i64 k))] = .tup [docA x.1.A P H, .d (.sc (.int .i64 x.2))] := by
  subst e
  subst hA
  rfl
set_option maxRecDepth 20000 in
set_option maxHeartbeats 4000000 in
theorem ropen_ac (A : List (K2 × Acc)) (P : List Post) (H : List Hld) (n c : ByteArray) (f : Int) (hA : A.length ≤ 4000) : AC Try.prog 41 [docA A P H, .d (.sc (.string n)), .d (.sc (.string c)), .d (.sc (.int .i64 f))] [] []
    (fun r _ => r = .tup [docA (openS ⟨A, P, []⟩ n c f).1.A P H, .d (.sc (.int .i64 (openS ⟨A, P, []⟩ n c f).2))]) := by
  have c1 := rname_ac n
  have c2 := rcur_ac c
  have c3 := rfind_ac A P H n c (by omega)
  cases hq : aget (n, c) A with
  | some a =>
    rw [fI_some hq] at c3
    refine AC_enterG Try.tab Try.func41 rfl Try.ntmps41 (rv := [.cell 8 45, .tmp 9]) rfl rfl (by simp) (fun w X G => ?_)
    repeat' (first | ((with_reducible refine gA ?_); (first | refine AW_seq ?_ | refine AW_region ?_ | refine AW_condT rfl ?_ | (refine AW_cond rfl (fun hc => ?_) (fun hc => ?_) <;> try (exfalso; simp only [cmpL] at hc; omega)) | refine AW_ret ?_ | refine AW_skip ?_)) | ((with_reducible refine gS ?_); refine Es_s (T := Try.tab) rfl rfl rfl rfl ?_) | (((with_reducible refine gS ?_); apply Es_q); rfl; (first | rfl | (refine w_ff ?_; assumption)); (first | refine LStep_call (c1) rfl rfl rfl rfl | refine LStep_call (c2) rfl rfl rfl rfl | refine LStep_call (c3) rfl rfl rfl rfl)) | (((with_reducible refine gS ?_); apply Es_q); rfl; (first | rfl | (refine w_ff ?_; assumption)); (first | refine LStep_simp (T := Try.tab) rfl rfl | (refine LStep_pickT rfl rfl ?_ rfl rfl; assumption) | (refine LStep_pickF rfl rfl ?_ rfl rfl; assumption))) | (refine Es_skip rfl ?_ rfl ?_; (first | rfl | (refine w_tf ?_; assumption) | (refine w_ft ?_; assumption))) | (((with_reducible refine gS ?_); apply Es_xs); rfl; rfl; (first | refine LStep_boxN rfl rfl rfl rfl rfl rfl | refine LStep_allocN (T := Try.tab) rfl rfl rfl rfl rfl rfl); rfl) | (((with_reducible refine gS ?_); apply Es_xn); rfl; rfl; (refine LStep_storeN (T := Try.tab) rfl rfl rfl rfl rfl rfl rfl ?_ rfl; (refine Nat.le_of_ble_eq_true ?_; rfl)); rfl) | (refine Es_split rfl ?_ (fun _ => ?_) (fun _ => ?_); ((fail_if_success (refine und_t ?_; assumption)); (fail_if_success (refine und_f ?_; assumption)); exact trivial)) | (with_reducible refine Es_nil ?_) | (with_reducible refine then_n ?_) | (with_reducible refine then_r ?_) | ((with_reducible refine gRG ?_); first | refine retGa rfl ?_ | refine retGb rfl ?_ | refine retGc rfl ?_ | refine retG1 rfl rfl ?_ | refine endG1 rfl rfl ?_))
    all_goals simp only [cmps] at *
    all_goals first
      | (exfalso; omega)
      | (refine doc_fin (s := ⟨A, P, []⟩) ?_ rfl; (first | (rw [openS, if_pos (by (first | assumption | omega | (simp [*]; done) | (simp [*]; omega)))]) | (rw [openS, if_neg (by (first | assumption | omega | (simp [*]; done) | (simp [*]; omega))), if_pos (by (first | assumption | omega | (simp [*]; done) | (simp [*]; omega)))]) | (rw [openS, if_neg (by (first | assumption | omega | (simp [*]; done) | (simp [*]; omega))), if_neg (by (first | assumption | omega | (simp [*]; done) | (simp [*]; omega))), if_pos (by (first | assumption | omega | (simp [*]; done) | (simp [*]; omega)))]) | (rw [openS, if_neg (by (first | assumption | omega | (simp [*]; done) | (simp [*]; omega))), if_neg (by (first | assumption | omega | (simp [*]; done) | (simp [*]; omega))), if_neg (by (first | assumption | omega | (simp [*]; done) | (simp [*]; omega))), if_pos (by (first | assumption | omega | (simp [*]; done) | (simp [*]; omega)))]) | (rw [openS, if_neg (by (first | assumption | omega | (simp [*]; done) | (simp [*]; omega))), if_neg (by (first | assumption | omega | (simp [*]; done) | (simp [*]; omega))), if_neg (by (first | assumption | omega | (simp [*]; done) | (simp [*]; omega))), if_neg (by (first | assumption | omega | (simp [*]; done) | (simp [*]; omega)))])); done)
      | trace_state
  | none =>
    rw [fI_none hq] at c3
    have hmm : [] ++ A.map daE ++ [[.sc (.string n), .sc (.string c), .sc (.int .i64 f), .sc (.int .i64 0)]] = (aput (n, c) ⟨f, 0, 0⟩ A).map daE := by rw [aput_new hq, List.map_append]; rfl
    refine AC_enterG Try.tab Try.func41 rfl Try.ntmps41 (rv := [.cell 8 45, .tmp 9]) rfl rfl (by simp) (fun w X G => ?_)
    repeat' (first | ((with_reducible refine gA ?_); refine AW_freezeCell 4 0 (id := 32) rfl rfl rfl rfl ?_) | ((with_reducible refine gA ?_); (first | refine AW_seq ?_ | refine AW_region ?_ | refine AW_condT rfl ?_ | (refine AW_cond rfl (fun hc => ?_) (fun hc => ?_) <;> try (exfalso; simp only [cmpL] at hc; omega)) | refine AW_ret ?_ | refine AW_skip ?_)) | ((with_reducible refine gS ?_); refine Es_s (T := Try.tab) rfl rfl rfl rfl ?_) | (((with_reducible refine gS ?_); apply Es_q); rfl; (first | rfl | (refine w_ff ?_; assumption)); (first | refine LStep_call (c1) rfl rfl rfl rfl | refine LStep_call (c2) rfl rfl rfl rfl | refine LStep_call (c3) rfl rfl rfl rfl)) | (((with_reducible refine gS ?_); apply Es_xs); rfl; (first | rfl | (refine w_ff ?_; assumption)); (first | (refine LStep_litOwn (T := Try.tab) (len := 0) rfl rfl rfl rfl rfl rfl rfl rfl rfl rfl ?_ ?_; (refine Nat.le_of_ble_eq_true ?_; rfl); (unfold maxLen; omega)) | (refine LStep_append (T := Try.tab) rfl rfl rfl rfl rfl rfl rfl rfl rfl rfl ?_ ?_ ?_; rfl; (simp only [List.length_map, List.length_nil, List.length_append, List.length_cons]; omega); (unfold maxLen; simp only [List.length_map, List.length_nil, List.length_append, List.length_cons]; omega))); rfl) | (((with_reducible refine gS ?_); apply Es_q); rfl; (first | rfl | (refine w_ff ?_; assumption)); (first | refine LStep_simp (T := Try.tab) rfl rfl | (refine LStep_pickT rfl rfl ?_ rfl rfl; assumption) | (refine LStep_pickF rfl rfl ?_ rfl rfl; assumption) | (refine LStep_lit (T := Try.tab) rfl rfl rfl rfl rfl rfl rfl rfl ?_; (refine Nat.le_of_ble_eq_true ?_; rfl)) | refine LStep_buildN (T := Try.tab) rfl rfl rfl rfl rfl rfl rfl)) | (refine Es_skip rfl ?_ rfl ?_; (first | rfl | (refine w_tf ?_; assumption) | (refine w_ft ?_; assumption))) | (((with_reducible refine gS ?_); apply Es_xs); rfl; rfl; (first | refine LStep_boxN rfl rfl rfl rfl rfl rfl | refine LStep_allocN (T := Try.tab) rfl rfl rfl rfl rfl rfl); rfl) | (((with_reducible refine gS ?_); apply Es_xn); rfl; rfl; (refine LStep_storeN (T := Try.tab) rfl rfl rfl rfl rfl rfl rfl ?_ rfl; (refine Nat.le_of_ble_eq_true ?_; rfl)); rfl) | (refine Es_split rfl ?_ (fun _ => ?_) (fun _ => ?_); ((fail_if_success (refine und_t ?_; assumption)); (fail_if_success (refine und_f ?_; assumption)); exact trivial)) | (with_reducible refine Es_nil ?_) | (with_reducible refine then_n ?_) | (with_reducible refine then_r ?_) | ((with_reducible refine gRG ?_); first | refine retGa rfl ?_ | refine retGb rfl ?_ | refine retGc rfl ?_ | refine retG1 rfl rfl ?_ | refine endG1 rfl rfl ?_))
    all_goals simp only [cmps] at *
    all_goals first
      | (exfalso; omega)
      | (refine doc_fin (s := ⟨A, P, []⟩) ?_ rfl; (first | (rw [openS, if_pos (by (first | assumption | omega | (simp [*]; done) | (simp [*]; omega)))]) | (rw [openS, if_neg (by (first | assumption | omega | (simp [*]; done) | (simp [*]; omega))), if_pos (by (first | assumption | omega | (simp [*]; done) | (simp [*]; omega)))]) | (rw [openS, if_neg (by (first | assumption | omega | (simp [*]; done) | (simp [*]; omega))), if_neg (by (first | assumption | omega | (simp [*]; done) | (simp [*]; omega))), if_pos (by (first | assumption | omega | (simp [*]; done) | (simp [*]; omega)))]) | (rw [openS, if_neg (by (first | assumption | omega | (simp [*]; done) | (simp [*]; omega))), if_neg (by (first | assumption | omega | (simp [*]; done) | (simp [*]; omega))), if_neg (by (first | assumption | omega | (simp [*]; done) | (simp [*]; omega))), if_pos (by (first | assumption | omega | (simp [*]; done) | (simp [*]; omega)))]) | (rw [openS, if_neg (by (first | assumption | omega | (simp [*]; done) | (simp [*]; omega))), if_neg (by (first | assumption | omega | (simp [*]; done) | (simp [*]; omega))), if_neg (by (first | assumption | omega | (simp [*]; done) | (simp [*]; omega))), if_neg (by (first | assumption | omega | (simp [*]; done) | (simp [*]; omega)))])); done)
      | (rw [hmm]; refine doc_fin (s := ⟨aput (n, c) ⟨f, 0, 0⟩ A, P, []⟩) ?_ rfl; (first | (rw [openS, if_pos (by (first | assumption | omega | (simp [*]; done) | (simp [*]; omega)))]) | (rw [openS, if_neg (by (first | assumption | omega | (simp [*]; done) | (simp [*]; omega))), if_pos (by (first | assumption | omega | (simp [*]; done) | (simp [*]; omega)))]) | (rw [openS, if_neg (by (first | assumption | omega | (simp [*]; done) | (simp [*]; omega))), if_neg (by (first | assumption | omega | (simp [*]; done) | (simp [*]; omega))), if_pos (by (first | assumption | omega | (simp [*]; done) | (simp [*]; omega)))]) | (rw [openS, if_neg (by (first | assumption | omega | (simp [*]; done) | (simp [*]; omega))), if_neg (by (first | assumption | omega | (simp [*]; done) | (simp [*]; omega))), if_neg (by (first | assumption | omega | (simp [*]; done) | (simp [*]; omega))), if_pos (by (first | assumption | omega | (simp [*]; done) | (simp [*]; omega)))]) | (rw [openS, if_neg (by (first | assumption | omega | (simp [*]; done) | (simp [*]; omega))), if_neg (by (first | assumption | omega | (simp [*]; done) | (simp [*]; omega))), if_neg (by (first | assumption | omega | (simp [*]; done) | (simp [*]; omega))), if_neg (by (first | assumption | omega | (simp [*]; done) | (simp [*]; omega)))])); done)
      | trace_state
end Go.Proofs.Ytbekoielblcbmaa
