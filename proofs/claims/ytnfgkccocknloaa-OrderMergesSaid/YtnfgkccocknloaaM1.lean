import Derived.Test.YtnfgkccocknloaaK3
namespace Go.Proofs.Ytnfgkccocknloaa
open Go.SL

/-! ### two parts made one -/
def addL (p q : List Int) : List Int := List.zipWith (· + ·) p q
theorem addL_len {p q : List Int} (h : p.length = q.length) : (addL p q).length = p.length := by simp [addL, h]
theorem addL_getD {p q : List Int} {j : Nat} (h : p.length = q.length) : (addL p q).getD j 0 = p.getD j 0 + q.getD j 0 := by
  simp only [addL, List.getD_eq_getElem?_getD, List.getElem?_zipWith]
  by_cases hj : j < p.length
  · rw [List.getElem?_eq_getElem hj, List.getElem?_eq_getElem (h ▸ hj)]; rfl
  · rw [List.getElem?_eq_none (by omega), List.getElem?_eq_none (by omega)]; rfl
theorem addL_nonneg : ∀ {p q : List Int}, (∀ n ∈ p, 0 ≤ n) → (∀ n ∈ q, 0 ≤ n) → ∀ n ∈ addL p q, 0 ≤ n
  | [], _, _, _ => fun n hn => by simp [addL] at hn
  | _ :: _, [], _, _ => fun n hn => by simp [addL] at hn
  | x :: p, y :: q, hp, hq => fun n hn => by
    have e : addL (x :: p) (y :: q) = (x + y) :: addL p q := rfl
    rw [e] at hn
    have := hp x (by simp)
    have := hq y (by simp)
    rcases List.mem_cons.1 hn with rfl | hn
    · omega
    · exact addL_nonneg (fun m hm => hp m (by simp [hm])) (fun m hm => hq m (by simp [hm])) n hn
theorem takeL_app (j : Nat) : ∀ (a b : List (List Int)) (n : Int), takeL j (a ++ b) n = (takeL j a n).bind (takeL j b)
  | [], _, _ => rfl
  | p :: a, b, n => by
    rw [List.cons_append, takeL, takeL]
    split
    · rfl
    · exact takeL_app j a b _
theorem takeL_merge {j : Nat} {a b : List (List Int)} {p q : List Int} {n : Int} (hpq : p.length = q.length) (hq : 0 ≤ q.getD j 0) (h : takeL j (a ++ p :: q :: b) n = some 0) : takeL j (a ++ addL p q :: b) n = some 0 := by
  rw [takeL_app] at h ⊢
  cases hm : takeL j a n with
  | none => rw [hm] at h; cases h
  | some m =>
    rw [hm] at h
    have h : takeL j (p :: q :: b) m = some 0 := h
    show takeL j (addL p q :: b) m = some 0
    rw [takeL, takeL] at h
    rw [takeL, addL_getD hpq]
    split at h
    · cases h
    · split at h
      · cases h
      · rw [if_neg (by omega), show m - (p.getD j 0 + q.getD j 0) = m - p.getD j 0 - q.getD j 0 by omega]
        exact h
theorem getD_nonneg {q : List Int} (h : ∀ n ∈ q, 0 ≤ n) (j : Nat) : 0 ≤ q.getD j 0 := by
  rw [List.getD_eq_getElem?_getD]
  cases hq : q[j]? with
  | none => exact Int.le_refl _
  | some n => exact h n (List.mem_of_getElem? hq)
theorem whole_merge {a b : List (List Int)} {p q : List Int} (hpq : p.length = q.length) (hq : ∀ n ∈ q, 0 ≤ n) : ∀ (xs : List Line) (j : Nat), wholeB (a ++ p :: q :: b) xs j = true → wholeB (a ++ addL p q :: b) xs j = true
  | [], _, _ => rfl
  | x :: r, j, h => by
    rw [wholeB, Bool.and_eq_true] at h ⊢
    exact ⟨decide_eq_true (takeL_merge hpq (getD_nonneg hq j) (of_decide_eq_true h.1)), whole_merge hpq hq r (j + 1) h.2⟩
theorem zeroP_add : ∀ {p q : List Int}, p.length = q.length → (∀ n ∈ p, 0 ≤ n) → (∀ n ∈ q, 0 ≤ n) → zeroP (addL p q) = true → zeroP p = true
  | [], _, _, _, _, _ => rfl
  | _ :: _, [], h, _, _, _ => by simp at h
  | x :: p, y :: q, h, hp, hq, hz => by
    have e : addL (x :: p) (y :: q) = (x + y) :: addL p q := rfl
    rw [e, zeroP_cons, Bool.and_eq_true, decide_eq_true_eq] at hz
    rw [zeroP_cons, Bool.and_eq_true, decide_eq_true_eq]
    have := hp x (by simp)
    have := hq y (by simp)
    exact ⟨by omega, zeroP_add (by simpa using h) (fun m hm => hp m (by simp [hm])) (fun m hm => hq m (by simp [hm])) hz.2⟩
theorem srt_pw : ∀ l : List Int, srt l = true ↔ l.Pairwise (· ≤ ·)
  | [] => by simp [srt]
  | [a] => by simp [srt]
  | a :: b :: r => by
    rw [srt, Bool.and_eq_true, decide_eq_true_eq, srt_pw (b :: r), List.pairwise_cons (a := a)]
    constructor
    · rintro ⟨h1, h2⟩
      refine ⟨fun c hc => ?_, h2⟩
      rcases List.mem_cons.1 hc with rfl | hc
      · exact h1
      · exact Int.le_trans h1 ((List.pairwise_cons.1 h2).1 c hc)
    · rintro ⟨h1, h2⟩
      exact ⟨h1 b (by simp), h2⟩
theorem code_mk {o : Ord} {dates : List Int} {parts : List (List Int)} (h1 : o.may = true) (h2 : pMay o.lines.length dates parts = true) (h3 : srt dates = true) (h4 : parts.any zeroP = false) (h5 : wholeB parts o.lines 0 = true) : cutCode o dates parts = 0 := by
  unfold cutCode
  rw [h1, h2, h3, h4, h5]
  rfl
theorem pMay_mk {n : Nat} {dates : List Int} {parts : List (List Int)} (h1 : parts.length = dates.length) (h2 : 1 ≤ parts.length) (h3 : parts.length ≤ 64) (h4 : ∀ d ∈ dates, 0 ≤ d ∧ d ≤ 1048576) (h5 : ∀ p ∈ parts, p.length = n ∧ ∀ x ∈ p, 0 ≤ x) : pMay n dates parts = true := by
  simp only [pMay, Bool.and_eq_true, decide_eq_true_eq, List.all_eq_true, dOk, pOk]
  exact ⟨⟨⟨⟨h1, h2⟩, h3⟩, h4⟩, h5⟩
theorem cutAll_app (o : Ord) : ∀ (da : List Int) (a : List (List Int)) (ds : List Int) (ps : List (List Int)) (i : Nat), da.length = a.length → cutAll o (da ++ ds) (a ++ ps) i = cutAll o da a i ++ cutAll o ds ps (i + a.length)
  | [], [], _, _, _, _ => rfl
  | [], _ :: _, _, _, _, h => by simp at h
  | _ :: _, [], _, _, _, h => by simp at h
  | d :: da, p :: a, ds, ps, i, h => by
    rw [List.cons_append, List.cons_append, cutAll, cutAll, cutAll_app o da a ds ps (i + 1) (by simpa using h), List.cons_append, List.length_cons, show i + 1 + a.length = i + (a.length + 1) by omega]
theorem at_app {α : Type} {A r : List α} {x : α} {k : Nat} (h : A.length = k) : (A ++ x :: r)[k]? = some x := by subst h; simp
theorem at_app1 {α : Type} {A r : List α} {x y : α} {k : Nat} (h : A.length = k) : (A ++ x :: y :: r)[k + 1]? = some y := by
  subst h
  rw [List.getElem?_append_right (by omega)]
  simp
theorem valL_ok (o : Ord) : ∀ (r : List Lot) (a : Int), (valL o r a).2 = 0 → (valL o r a).1 = a + worth o r
  | [], a, _ => by simp [valL, worth]
  | x :: r, a, h => by
    rw [valL] at h ⊢
    split at h
    · simp at h
    · rename_i hn
      rw [if_neg hn, valL_ok o r _ h, worth]
      omega
theorem wdot_add : ∀ (xs : List Line) (p q : List Int), p.length = q.length → wdot xs (addL p q) = wdot xs p + wdot xs q
  | [], p, q, _ => by cases p <;> cases q <;> rfl
  | _ :: _, [], [], _ => rfl
  | _ :: _, [], _ :: _, h => by simp at h
  | _ :: _, _ :: _, [], h => by simp at h
  | x :: xs, y :: p, z :: q, h => by
    have ih := wdot_add xs p q (by simpa using h)
    show (y + z) * x.price + wdot xs (addL p q) = y * x.price + wdot xs p + (z * x.price + wdot xs q)
    rw [ih, Int.add_mul]
    omega
theorem dot_add (g : ByteArray) : ∀ (xs : List Line) (p q : List Int), p.length = q.length → dot g xs (addL p q) = dot g xs p + dot g xs q
  | [], p, q, _ => by cases p <;> cases q <;> rfl
  | _ :: _, [], [], _ => rfl
  | _ :: _, [], _ :: _, h => by simp at h
  | _ :: _, _ :: _, [], h => by simp at h
  | x :: xs, y :: p, z :: q, h => by
    have ih := dot_add g xs p q (by simpa using h)
    show (if x.good = g then y + z else 0) + dot g xs (addL p q) = (if x.good = g then y else 0) + dot g xs p + ((if x.good = g then z else 0) + dot g xs q)
    rw [ih]
    split <;> omega
theorem sentL_app (a b : List Cons) : sentL (a ++ b) = sentL a ++ sentL b := by simp [sentL]

/-- what a cut tells of two parts that follow one another, and of the cut in which they are one -/
structure Merged (o : Ord) (dates : List Int) (parts : List (List Int)) (k : Nat) (p q : List Int) (md : List Int) (mp : List (List Int)) (CS MS : List Cons) (c1 c2 cm : Cons) (d : Int) (J : List Lot) : Prop where
  code : cutCode o md mp = 0
  l1 : CS.length = parts.length
  l2 : MS.length + 1 = CS.length
  a1 : CS[k]? = some c1
  a2 : CS[k + 1]? = some c2
  am : MS[k]? = some cm
  ad : dates[k + 1]? = some d
  lat : cm.latest = d
  num : cm.number = (k : Int) + 1
  val : ∃ x1 e1 x2 e2 x3 e3 : Int, pairR (valP o c1) = .tup [.d (.sc (.int .i64 x1)), .d (.sc (.int .i64 e1))] ∧ pairR (valP o c2) = .tup [.d (.sc (.int .i64 x2)), .d (.sc (.int .i64 e2))] ∧ pairR (valP o cm) = .tup [.d (.sc (.int .i64 x3)), .d (.sc (.int .i64 e3))] ∧
    0 ≤ x1 ∧ x1 ≤ 1099511627776 ∧ 0 ≤ x2 ∧ x2 ≤ 1099511627776 ∧ (e1 = 0 → e2 = 0 → e3 = 0 → x1 + x2 = x3)
  left : leftV o [cm] = .tup [.d (.sl 2 (J.map Lot.enc)), .d (.sc (.int .i64 0))] ∧ leftV o [c1, c2] = .tup [.d (.sl 2 (J.map Lot.enc)), .d (.sc (.int .i64 0))]
  lots : c1.lots.length ≤ 64 ∧ c2.lots.length ≤ 64 ∧ cm.lots.length ≤ 64 ∧ J.length ≤ 140737488351232
theorem valP_in {o : Ord} {dates : List Int} {parts : List (List Int)} (h : cutCode o dates parts = 0) {c : Cons} (hc : c ∈ cutAll o dates parts 0) : ∃ x e : Int, pairR (valP o c) = .tup [.d (.sc (.int .i64 x)), .d (.sc (.int .i64 e))] ∧ 0 ≤ x ∧ x ≤ 1099511627776 ∧ (e = 0 → x = worth o c.lots) := by
  have hv : valP o c = valL o c.lots 0 := by
    rw [valP, if_pos (chk_cut h (fun d hd => by rw [List.mem_singleton] at hd; subst hd; exact hc))]
  have hb := valL_bounds o c.lots 0 (by omega) (by omega) (pos_cut h c hc)
  exact ⟨(valL o c.lots 0).1, (valL o c.lots 0).2, by rw [hv]; rfl, hb.1, hb.2, fun h0 => by rw [valL_ok o _ _ h0]; omega⟩
theorem merged {o : Ord} {dates : List Int} {parts : List (List Int)} (h : cutCode o dates parts = 0) {k : Nat} {p q : List Int} (hp : parts[k]? = some p) (hq : parts[k + 1]? = some q) :
    ∃ c1 c2 cm d J, Merged o dates parts k p q (dates.take k ++ dates.drop (k + 1)) (parts.take k ++ addL p q :: parts.drop (k + 2)) (cutAll o dates parts 0) (cutAll o (dates.take k ++ dates.drop (k + 1)) (parts.take k ++ addL p q :: parts.drop (k + 2)) 0) c1 c2 cm d J := by
  obtain ⟨e1, e2, e3, e4, e5⟩ := code_of h
  obtain ⟨f1, f2, f3, f4, f5⟩ := pMay_of e2
  have hk : k + 1 < parts.length := (List.getElem?_eq_some_iff.1 hq).1
  obtain ⟨d1, hd1, hdd1⟩ := drop_at (l := dates) (k := k) (by omega)
  obtain ⟨d2, hd2, hdd2⟩ := drop_at (l := dates) (k := k + 1) (by omega)
  obtain ⟨p', hp', hpd⟩ := drop_at (l := parts) (k := k) (by omega)
  obtain ⟨q', hq', hqd⟩ := drop_at (l := parts) (k := k + 1) (by omega)
  rw [hp] at hp'
  rw [hq] at hq'
  cases hp'
  cases hq'
  have eD : dates = dates.take k ++ d1 :: d2 :: dates.drop (k + 2) := by
    conv => lhs; rw [← List.take_append_drop k dates, hdd1, hdd2]
  have eP : parts = parts.take k ++ p :: q :: parts.drop (k + 2) := by
    conv => lhs; rw [← List.take_append_drop k parts, hpd, hqd]
  have eM : dates.drop (k + 1) = d2 :: dates.drop (k + 2) := hdd2
  have hla : (dates.take k).length = (parts.take k).length := by rw [List.length_take, List.length_take, f1]
  have hlk : (parts.take k).length = k := by rw [List.length_take]; omega
  have hpm := f5 p (List.mem_of_getElem? hp)
  have hqm := f5 q (List.mem_of_getElem? hq)
  have hpq : p.length = q.length := hpm.1.trans hqm.1.symm
  have hcm : cutCode o (dates.take k ++ dates.drop (k + 1)) (parts.take k ++ addL p q :: parts.drop (k + 2)) = 0 := by
    have hsub : (dates.take k ++ dates.drop (k + 1)).Sublist dates := by
      conv => rhs; rw [← List.take_append_drop k dates]
      exact List.Sublist.append (List.Sublist.refl _) (by rw [hdd1]; exact List.sublist_cons_self _ _)
    refine code_mk e1 (pMay_mk ?_ (by simp; omega) ?_ (fun d hd => f4 d (hsub.mem hd)) (fun x hx => ?_)) ((srt_pw _).2 (((srt_pw _).1 e3).sublist hsub)) ?_ ?_
    · rw [eM]; simp only [List.length_append, List.length_cons, List.length_drop]; omega
    · simp only [List.length_append, List.length_cons, List.length_drop, List.length_take]; omega
    · rcases List.mem_append.1 hx with hx | hx
      · exact f5 x (List.mem_of_mem_take hx)
      · rcases List.mem_cons.1 hx with rfl | hx
        · exact ⟨(addL_len hpq).trans hpm.1, addL_nonneg hpm.2 hqm.2⟩
        · exact f5 x (List.mem_of_mem_drop hx)
    · rw [List.any_eq_false] at e4 ⊢
      intro x hx
      rcases List.mem_append.1 hx with hx | hx
      · exact e4 x (List.mem_of_mem_take hx)
      · rcases List.mem_cons.1 hx with rfl | hx
        · exact fun hz => e4 p (List.mem_of_getElem? hp) (zeroP_add hpq hpm.2 hqm.2 hz)
        · exact e4 x (List.mem_of_mem_drop hx)
    · refine whole_merge hpq hqm.2 _ _ ?_
      rw [← eP]; exact e5
  have eC : cutAll o dates parts 0 = cutAll o (dates.take k) (parts.take k) 0 ++ ⟨o.number, (k : Int) + 1, d1, lotsOf o.lines p⟩ :: ⟨o.number, ((k + 1 : Nat) : Int) + 1, d2, lotsOf o.lines q⟩ :: cutAll o (dates.drop (k + 2)) (parts.drop (k + 2)) (k + 1 + 1) := by
    conv => lhs; rw [eD, eP]
    rw [cutAll_app o _ _ _ _ _ hla, hlk, Nat.zero_add, cutAll, cutAll]
  have eMm : cutAll o (dates.take k ++ dates.drop (k + 1)) (parts.take k ++ addL p q :: parts.drop (k + 2)) 0 = cutAll o (dates.take k) (parts.take k) 0 ++ ⟨o.number, (k : Int) + 1, d2, lotsOf o.lines (addL p q)⟩ :: cutAll o (dates.drop (k + 2)) (parts.drop (k + 2)) (k + 1) := by
    rw [eM, cutAll_app o _ _ _ _ _ hla, hlk, Nat.zero_add, cutAll]
  have hlA : (cutAll o (dates.take k) (parts.take k) 0).length = k := by rw [cutAll_length o _ _ _ hla.symm, List.length_take]; omega
  have m1 := at_app (r := ⟨o.number, ((k + 1 : Nat) : Int) + 1, d2, lotsOf o.lines q⟩ :: cutAll o (dates.drop (k + 2)) (parts.drop (k + 2)) (k + 1 + 1)) (x := (⟨o.number, (k : Int) + 1, d1, lotsOf o.lines p⟩ : Cons)) hlA
  have m2 := at_app1 (r := cutAll o (dates.drop (k + 2)) (parts.drop (k + 2)) (k + 1 + 1)) (x := (⟨o.number, (k : Int) + 1, d1, lotsOf o.lines p⟩ : Cons)) (y := (⟨o.number, ((k + 1 : Nat) : Int) + 1, d2, lotsOf o.lines q⟩ : Cons)) hlA
  have m3 := at_app (r := cutAll o (dates.drop (k + 2)) (parts.drop (k + 2)) (k + 1)) (x := (⟨o.number, (k : Int) + 1, d2, lotsOf o.lines (addL p q)⟩ : Cons)) hlA
  rw [← eC] at m1 m2
  rw [← eMm] at m3
  obtain ⟨x1, w1, g1, b1, b1', s1⟩ := valP_in h (List.mem_of_getElem? m1)
  obtain ⟨x2, w2, g2, b2, b2', s2⟩ := valP_in h (List.mem_of_getElem? m2)
  obtain ⟨x3, w3, g3, _, _, s3⟩ := valP_in hcm (List.mem_of_getElem? m3)
  have hpr := price_at (may_nodup e1)
  have hadd := addL_nonneg hpm.2 hqm.2
  have hsum := cut_sums h
  have hn64 := (may_lines e1).1
  have hleft : ∀ l : List Cons, chkCode o l = 0 → (∀ g, posSum g (sentL l) = posSum g (lotsOf o.lines p) + posSum g (lotsOf o.lines q)) →
      leftV o l = .tup [.d (.sl 2 (((sortM (cntM (sentL (cutAll o (dates.take k) (parts.take k) 0) ++ sentL (cutAll o (dates.drop (k + 2)) (parts.drop (k + 2)) (k + 1 + 1))))).map toLot).map Lot.enc)), .d (.sc (.int .i64 0))] := by
    intro l hl hs
    obtain ⟨t1, t2⟩ := take_eq (a := ordL o.lines) (b := sentL l) (c := sentL (cutAll o (dates.take k) (parts.take k) 0) ++ sentL (cutAll o (dates.drop (k + 2)) (parts.drop (k + 2)) (k + 1 + 1))) (fun g => by
      rw [← hsum g, hs g, eC, sentL_app, posSum_append, posSum_append]
      show _ + posSum g (lotsOf o.lines p ++ (lotsOf o.lines q ++ sentL _)) = _
      rw [posSum_append, posSum_append]
      omega)
    rw [leftV, if_pos hl, if_pos t1, t2, pL_map2]
  refine ⟨_, _, _, d2, _, hcm, ?_, ?_, m1, m2, m3, hd2, rfl, rfl, ⟨x1, w1, x2, w2, x3, w3, g1, g2, g3, b1, b1', b2, b2', fun h1 h2 h3 => ?_⟩, ⟨hleft _ (chk_cut hcm (fun d hd => by rw [List.mem_singleton] at hd; subst hd; exact List.mem_of_getElem? m3)) (fun g => ?_), hleft _ (chk_cut h (fun d hd => ?_)) (fun g => ?_)⟩,
    ⟨?_, ?_, ?_, ?_⟩⟩
  · rw [cutAll_length o _ _ _ f1, f1]
  · rw [cutAll_length o _ _ _ f1, cutAll_length o _ _ _ (by rw [eM]; simp only [List.length_append, List.length_cons, List.length_drop]; omega), eM]
    simp only [List.length_append, List.length_cons, List.length_drop, List.length_take]
    omega
  · rw [s1 h1, s2 h2, s3 h3]
    dsimp only
    rw [worth_lotsOf o _ _ hpr hpm.2, worth_lotsOf o _ _ hpr hqm.2, worth_lotsOf o _ _ hpr hadd, wdot_add _ _ _ hpq]
  · show posSum g (lotsOf o.lines (addL p q) ++ []) = _
    rw [List.append_nil, posSum_lotsOf g _ _ hadd, dot_add g _ _ _ hpq, posSum_lotsOf g _ _ hpm.2, posSum_lotsOf g _ _ hqm.2]
  · rcases List.mem_cons.1 hd with rfl | hd
    · exact List.mem_of_getElem? m1
    · rw [List.mem_singleton] at hd; subst hd; exact List.mem_of_getElem? m2
  · show posSum g (lotsOf o.lines p ++ (lotsOf o.lines q ++ [])) = _
    rw [List.append_nil, posSum_append]
  · have := lotsOf_len o.lines p; dsimp only; omega
  · have := lotsOf_len o.lines q; dsimp only; omega
  · have := lotsOf_len o.lines (addL p q); dsimp only; omega
  · rw [List.length_map, (sortM_perm _).length_eq]
    have h1 := (cntM_nodup (sentL (cutAll o (dates.take k) (parts.take k) 0) ++ sentL (cutAll o (dates.drop (k + 2)) (parts.drop (k + 2)) (k + 1 + 1)))).2
    have hb : ∀ (ds : List Int) (ps : List (List Int)) (i : Nat), ps.length ≤ 64 → (sentL (cutAll o ds ps i)).length ≤ 64 * 64 := by
      intro ds ps i hl
      have h2 := cutAll_len o ds ps i
      have h3 := sentB (l := cutAll o ds ps i) (fun c hc => by have := h2.2 c hc; omega)
      omega
    have h4 := hb (dates.take k) (parts.take k) 0 (by omega)
    have h5 := hb (dates.drop (k + 2)) (parts.drop (k + 2)) (k + 1 + 1) (by rw [List.length_drop]; omega)
    rw [List.length_append] at h1
    omega
end Go.Proofs.Ytnfgkccocknloaa
