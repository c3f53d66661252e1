import Derived.Test.YtbekoielblcbmaaY6
namespace Go.Proofs.Ytbekoielblcbmaa
open Go.SL
/-! ### what a ledger's sums are -/
def esum (k : K2) (x : List Ent) : Int := (x.map fun e => if e.key = k then e.amt else 0).sum
def csum (c : ByteArray) (x : List Ent) : Int := (x.map fun e => if e.cur = c then e.amt else 0).sum
def psum (k : K2) (P : List Post) : Int := (P.map fun p => esum k p.entries).sum
def hsum (k : K2) (H : List (ByteArray × Hld)) : Int := (H.map fun p => if p.2.key = k then p.2.amt else 0).sum
theorem esum_cons (k : K2) (e : Ent) (x : List Ent) : esum k (e :: x) = (if e.key = k then e.amt else 0) + esum k x := by simp [esum]
theorem csum_cons (c : ByteArray) (e : Ent) (x : List Ent) : csum c (e :: x) = (if e.cur = c then e.amt else 0) + csum c x := by simp [csum]
theorem esum_snoc (k : K2) (x : List Ent) (e : Ent) : esum k (x ++ [e]) = esum k x + (if e.key = k then e.amt else 0) := by simp [esum]
theorem csum_snoc (c : ByteArray) (x : List Ent) (e : Ent) : csum c (x ++ [e]) = csum c x + (if e.cur = c then e.amt else 0) := by simp [csum]
theorem psum_snoc (k : K2) (P : List Post) (p : Post) : psum k (P ++ [p]) = psum k P + esum k p.entries := by simp [psum]
theorem hsum_cons (k : K2) (p : ByteArray × Hld) (H : List (ByteArray × Hld)) : hsum k (p :: H) = (if p.2.key = k then p.2.amt else 0) + hsum k H := by simp [hsum]
theorem hsum_snoc (k : K2) (H : List (ByteArray × Hld)) (p : ByteArray × Hld) : hsum k (H ++ [p]) = hsum k H + (if p.2.key = k then p.2.amt else 0) := by simp [hsum]
theorem chg_esum (k : K2) (x : List Ent) : (aget k (chgL x)).getD 0 = esum k x := by
  induction x using list_snoc with
  | h0 => rfl
  | h1 l e ih =>
    rw [chgL_snoc, esum_snoc, chgK, aget_put]
    by_cases h : (e.acct, e.cur) = k
    · have h' : e.key = k := h
      rw [if_pos h, if_pos h', h, ← ih]; rfl
    · have h' : ¬ e.key = k := h
      rw [if_neg h, if_neg h', ih]; omega
theorem sum_csum (c : ByteArray) (x : List Ent) : (aget c (sumL x)).getD 0 = csum c x := by
  induction x using list_snoc with
  | h0 => rfl
  | h1 l e ih =>
    rw [sumL_snoc, csum_snoc, sumK, aget_put]
    by_cases h : e.cur = c
    · rw [if_pos h, if_pos h, h, ← ih]; rfl
    · rw [if_neg h, if_neg h, ih]; omega
theorem esum_in {x : List Ent} (h : ∀ e ∈ x, e.in40) (k : K2) : -(1099511627776 * (x.length : Int)) ≤ esum k x ∧ esum k x ≤ 1099511627776 * (x.length : Int) := by
  rw [← chg_esum]
  exact chgL_in x h k
/-- what all accounts of a currency change by -/
theorem sum_zero {α : Type} : ∀ l : List α, (l.map fun _ => (0 : Int)).sum = 0
  | [] => rfl
  | _ :: l => by rw [List.map_cons, List.sum_cons, sum_zero l]; rfl
open Classical in
theorem cur_one {c : ByteArray} {e : Ent} : ∀ {A : List (K2 × Acc)}, (akeys A).Nodup → (A.map fun p => if p.1.2 = c then (if e.key = p.1 then e.amt else 0) else 0).sum = if e.key ∈ akeys A then (if e.cur = c then e.amt else 0) else 0
  | [], _ => by rw [if_neg (by simp [akeys])]; rfl
  | q :: A, h => by
    rw [akeys_cons, List.nodup_cons] at h
    rw [List.map_cons, List.sum_cons, cur_one h.2, akeys_cons]
    by_cases hq : e.key = q.1
    · have hc : q.1.2 = e.cur := by rw [← hq]; rfl
      have hin : e.key ∈ q.1 :: akeys A := by rw [hq]; exact List.mem_cons_self
      have hout : e.key ∉ akeys A := by rw [hq]; exact h.1
      rw [if_pos hin, if_neg hout, if_pos hq, hc]
      exact Int.add_zero _
    · rw [if_neg hq]
      have : (e.key ∈ q.1 :: akeys A) ↔ e.key ∈ akeys A := by simp [hq]
      simp only [this]
      split <;> omega
theorem cur_all {c : ByteArray} {A : List (K2 × Acc)} (hn : (akeys A).Nodup) : ∀ {x : List Ent}, (∀ e ∈ x, aget e.key A ≠ none) → (A.map fun p => if p.1.2 = c then esum p.1 x else 0).sum = csum c x
  | [], _ => by
    have : (A.map fun p => if p.1.2 = c then esum p.1 [] else 0) = A.map fun _ => (0 : Int) := List.map_congr_left (fun p _ => by simp [esum])
    rw [this, sum_zero]
    rfl
  | e :: x, hk => by
    have h1 := cur_one (c := c) (e := e) hn
    have h2 := cur_all (c := c) hn (x := x) (fun e' he => hk e' (List.mem_cons_of_mem _ he))
    have hm : e.key ∈ akeys A := Classical.byContradiction fun hq => hk e List.mem_cons_self (aget_none.2 hq)
    rw [if_pos hm] at h1
    rw [csum_cons, ← h1, ← h2]
    clear h1 h2 hk hm hn
    induction A with
    | nil => rfl
    | cons a A ih =>
      simp only [List.map_cons, List.sum_cons]
      rw [ih, esum_cons]
      split <;> omega
def M40 : Int := 1099511627776
structure Led.Inv (s : Led) : Prop where
  acc : ∀ k a, aget k s.A = some a → -1099511627776 ≤ a.floor ∧ a.floor ≤ 0 ∧ 0 ≤ a.held ∧ a.bal ≤ 1099511627776 ∧ 0 ≤ a.bal - a.held - a.floor
  held : ∀ k a, aget k s.A = some a → a.held = hsum k s.H
  bal : ∀ k a, aget k s.A = some a → a.bal = psum k s.P
  tot : ∀ c, curSum c s.A = 0
  new : ∀ k, aget k s.A = none → psum k s.P = 0 ∧ hsum k s.H = 0
theorem Led0_inv : Led0.Inv := ⟨fun k a h => (by cases h), fun k a h => (by cases h), fun k a h => (by cases h), fun c => rfl, fun k _ => ⟨rfl, rfl⟩⟩
theorem acc_fr {a : Acc} (h : -1099511627776 ≤ a.floor ∧ a.floor ≤ 0 ∧ 0 ≤ a.held ∧ a.bal ≤ 1099511627776 ∧ 0 ≤ a.bal - a.held - a.floor) : a.fr = a.bal - a.held - a.floor := by
  unfold Acc.fr
  rw [wrp_fit (by omega : -9223372036854775808 ≤ a.bal - a.held ∧ _), wrp_fit (by omega)]
theorem addAcc_get {x : List Ent} {k : K2} {a : Acc} (hi : ∀ e ∈ x, e.in40) (hl : x.length ≤ 64) (hb : -4611686018427387904 ≤ a.bal ∧ a.bal ≤ 4611686018427387904) : (addAcc (chgL x) (fun _ => true) (k, a)).2 = ⟨a.floor, a.bal + esum k x, a.held⟩ := by
  have he := esum_in hi k
  have hc := chg_esum k x
  unfold addAcc
  rw [if_pos rfl]
  dsimp only
  cases hq : aget k (chgL x) with
  | none =>
    rw [hq] at hc
    have : esum k x = 0 := hc.symm
    rw [this]
    simp
  | some d =>
    rw [hq] at hc
    have : d = esum k x := hc
    subst this
    dsimp only
    rw [wrp_fit (by omega)]
theorem curSum_enter {x : List Ent} {A : List (K2 × Acc)} {c : ByteArray} (hi : ∀ e ∈ x, e.in40) (hl : x.length ≤ 64) (hb : ∀ p ∈ A, -4611686018427387904 ≤ p.2.bal ∧ p.2.bal ≤ 4611686018427387904) : curSum c (enterA (chgL x) A) = curSum c A + (A.map fun p => if p.1.2 = c then esum p.1 x else 0).sum := by
  unfold curSum enterA
  induction A with
  | nil => rfl
  | cons q A ih =>
    have h1 := addAcc_get (k := q.1) (a := q.2) hi hl (hb q List.mem_cons_self)
    have h2 := addAcc_key (chgL x) (fun _ => true) q
    simp only [List.map_cons, List.sum_cons]
    rw [ih (fun p hp => hb p (List.mem_cons_of_mem _ hp)), h2]
    rw [show addAcc (chgL x) (fun _ => true) (q.1, q.2) = addAcc (chgL x) (fun _ => true) q from rfl] at h1
    rw [h1]
    dsimp only
    split <;> omega
theorem acc_bal {a : Acc} (h : -1099511627776 ≤ a.floor ∧ a.floor ≤ 0 ∧ 0 ≤ a.held ∧ a.bal ≤ 1099511627776 ∧ 0 ≤ a.bal - a.held - a.floor) : -1099511627776 ≤ a.bal ∧ a.bal ≤ 1099511627776 := by omega
theorem acc_bal2 {a : Acc} (h : -1099511627776 ≤ a.floor ∧ a.floor ≤ 0 ∧ 0 ≤ a.held ∧ a.bal ≤ 1099511627776 ∧ 0 ≤ a.bal - a.held - a.floor) : -4611686018427387904 ≤ a.bal ∧ a.bal ≤ 4611686018427387904 := by omega
theorem enterS_inv {s : Led} (hs : s.Ok) (h : s.Inv) (t : ByteArray) {x : List Ent} (hl : x.length ≤ 64) (hk : ∀ e ∈ x, aget e.key s.A ≠ none) (hi : ∀ e ∈ x, e.in40) (hc : ∀ c, csum c x = 0)
    (hb : ∀ k a, aget k s.A = some a → a.bal + esum k x ≤ 1099511627776 ∧ 0 ≤ a.bal + esum k x - a.held - a.floor) : (enterS s t x).Inv := by
  have get : ∀ k a', aget k (enterS s t x).A = some a' → ∃ a, aget k s.A = some a ∧ a' = ⟨a.floor, a.bal + esum k x, a.held⟩ := by
    intro k a' e
    have e : aget k (enterA (chgL x) s.A) = some a' := e
    rw [enterA_get, Option.map_eq_some_iff] at e
    obtain ⟨a, e1, rfl⟩ := e
    exact ⟨a, e1, addAcc_get hi hl (acc_bal2 (h.acc k a e1))⟩
  refine ⟨fun k a' e => ?_, fun k a' e => ?_, fun k a' e => ?_, fun c => ?_, fun k e => ?_⟩
  · obtain ⟨a, e1, rfl⟩ := get k a' e
    obtain ⟨q1, q2, q3, q4, q5⟩ := h.acc k a e1
    obtain ⟨b1, b2⟩ := hb k a e1
    exact ⟨q1, q2, q3, b1, b2⟩
  · obtain ⟨a, e1, rfl⟩ := get k a' e
    exact h.held k a e1
  · obtain ⟨a, e1, rfl⟩ := get k a' e
    show a.bal + esum k x = psum k (s.P ++ [_])
    rw [psum_snoc, ← h.bal k a e1]
  · show curSum c (enterA (chgL x) s.A) = 0
    rw [curSum_enter hi hl (fun p hp => acc_bal2 (h.acc p.1 p.2 (aget_of_mem hs.nA hp))), h.tot, cur_all hs.nA hk, hc]
    rfl
  · have e1 : aget k s.A = none := by
      have e : aget k (enterA (chgL x) s.A) = none := e
      rw [enterA_get, Option.map_eq_none_iff] at e
      exact e
    refine ⟨?_, (h.new k e1).2⟩
    show psum k (s.P ++ [_]) = 0
    rw [psum_snoc, (h.new k e1).1]
    have : esum k x = 0 := by
      unfold esum
      have : (x.map fun e => if e.key = k then e.amt else 0) = x.map fun _ => (0 : Int) := List.map_congr_left (fun e he => if_neg (fun q => hk e he (by rw [q]; exact e1)))
      rw [this, sum_zero]
    show 0 + esum k x = 0
    rw [this]
    rfl
theorem esum_notin {k : K2} {x : List Ent} (h : aget k (chgL x) = none) : esum k x = 0 := by rw [← chg_esum, h]; rfl
theorem post_inv {s : Led} (hs : s.Ok) (h : s.Inv) {t : ByteArray} {x : List Ent} (he : postE s t x = 0) : (enterS s t x).Inv := by
  unfold postE at he
  split at he
  · cases he
  split at he
  · cases he
  rename_i g1 g2
  obtain ⟨r1, r2⟩ := refS_ok he
  unfold refS at he
  split at he
  · cases he
  split at he
  · cases he
  split at he
  · cases he
  split at he
  · cases he
  split at he
  · cases he
  rename_i h1 h2 h3 h4 h5
  have hl : x.length ≤ 64 := by omega
  refine enterS_inv hs h t hl r1 r2 (fun c => ?_) (fun k a e => ?_)
  · rw [← sum_csum]
    cases hq : aget c (sumL x) with
    | none => rfl
    | some d =>
      have hf : (sumL x).any off0 = false := by simpa using h3
      have := List.any_eq_false.1 hf (c, d) (aget_mem hq)
      unfold off0 at this
      simpa using this
  · have hin := esum_in r2 k
    have hacc := h.acc k a e
    cases hq : aget k (chgL x) with
    | none => rw [esum_notin hq]; omega
    | some d =>
      have hd : d = esum k x := by rw [← chg_esum, hq]; rfl
      have f1 : (chgL x).any (over s.A) = false := by simpa using h4
      have f2 : (chgL x).any (lackA s.A) = false := by simpa using h5
      have f1 := List.any_eq_false.1 f1 (k, d) (aget_mem hq)
      have f2 := List.any_eq_false.1 f2 (k, d) (aget_mem hq)
      unfold over balA at f1
      unfold lackA frA at f2
      rw [e] at f1 f2
      simp only [Option.getD_some, decide_eq_true_eq] at f1 f2
      rw [wrp_fit (by omega)] at f1
      rw [acc_fr hacc] at f2
      omega
theorem hsum_del {k : K2} {i : ByteArray} {d : Hld} : ∀ {H : List (ByteArray × Hld)}, aget i H = some d → hsum k (adel i H) = hsum k H - (if d.key = k then d.amt else 0)
  | [], h => by cases h
  | (j, p) :: H, h => by
    unfold aget at h
    unfold adel
    by_cases e : j = i
    · rw [if_pos e] at h ⊢
      cases h
      simp only [hsum_cons]
      omega
    · rw [if_neg e] at h ⊢
      rw [hsum_cons, hsum_cons, hsum_del h]
      omega
theorem hsum_put {k : K2} {i : ByteArray} {d d' : Hld} : ∀ {H : List (ByteArray × Hld)}, aget i H = some d → hsum k (aput i d' H) = hsum k H - (if d.key = k then d.amt else 0) + (if d'.key = k then d'.amt else 0)
  | [], h => by cases h
  | (j, p) :: H, h => by
    unfold aget at h
    unfold aput
    by_cases e : j = i
    · rw [if_pos e] at h ⊢
      cases h
      simp only [hsum_cons]
      omega
    · rw [if_neg e] at h ⊢
      rw [hsum_cons, hsum_cons, hsum_put h]
      omega
theorem hsum_nn {k : K2} : ∀ {H : List (ByteArray × Hld)}, (∀ p ∈ H, 0 ≤ p.2.amt) → 0 ≤ hsum k H
  | [], _ => Int.le_refl _
  | p :: H, h => by
    have h1 := hsum_nn (k := k) (H := H) (fun q hq => h q (List.mem_cons_of_mem _ hq))
    have h2 := h p List.mem_cons_self
    rw [hsum_cons]
    split <;> omega
theorem hsum_ge {i : ByteArray} {d : Hld} : ∀ {H : List (ByteArray × Hld)}, (∀ p ∈ H, 0 ≤ p.2.amt) → aget i H = some d → d.amt ≤ hsum d.key H
  | [], _, h => by cases h
  | (j, p) :: H, ha, h => by
    unfold aget at h
    have h1 := hsum_nn (k := d.key) (H := H) (fun q hq => ha q (List.mem_cons_of_mem _ hq))
    have h2 : 0 ≤ p.amt := ha (j, p) List.mem_cons_self
    simp only [hsum_cons]
    by_cases e : j = i
    · rw [if_pos e] at h
      cases h
      rw [if_pos rfl]
      omega
    · rw [if_neg e] at h
      have := hsum_ge (fun q hq => ha q (List.mem_cons_of_mem _ hq)) h
      split <;> omega
theorem ok_amts {s : Led} (hs : s.Ok) : ∀ p ∈ s.H, 0 ≤ p.2.amt := fun p hp => by
  have := (hs.hold p.1 p.2 (aget_of_mem hs.nH hp)).2.2.1
  omega
theorem curSum_put {c : ByteArray} {k : K2} {a a' : Acc} (hb : a'.bal = a.bal) : ∀ {A : List (K2 × Acc)}, aget k A = some a → curSum c (aput k a' A) = curSum c A
  | [], h => by cases h
  | (j, p) :: A, h => by
    unfold aget at h
    unfold aput
    have hc : ∀ (q : K2 × Acc) (B : List (K2 × Acc)), curSum c (q :: B) = (if q.1.2 = c then q.2.bal else 0) + curSum c B := fun q B => by simp [curSum]
    by_cases e : j = k
    · rw [if_pos e] at h ⊢
      cases h
      rw [hc, hc, ← e]
      dsimp only
      rw [hb]
    · rw [if_neg e] at h ⊢
      rw [hc, hc, curSum_put hb h]
theorem lessS_inv {s : Led} (hs : s.Ok) (h : s.Inv) {i : ByteArray} {d : Hld} (he : aget i s.H = some d) {m : Int} (h1 : 1 ≤ m) (h2 : m ≤ d.amt) : (lessS s d m).Inv := by
  obtain ⟨q1, q2, q3, q4⟩ := hs.hold i d he
  obtain ⟨a, ha⟩ : ∃ a, aget d.key s.A = some a := by
    cases hq : aget d.key s.A with
    | none => exact absurd hq q2
    | some a => exact ⟨a, rfl⟩
  have hacc := h.acc _ a ha
  have hge := hsum_ge (ok_amts hs) he
  have hh := h.held _ a ha
  have hw : wrp .i64 (a.held - m) = a.held - m := wrp_fit (by omega)
  have hH : ∀ k, hsum k (lessS s d m).H = hsum k s.H - (if d.key = k then m else 0) := by
    intro k
    show hsum k (if d.amt - m = 0 then adel d.id s.H else aput d.id ⟨d.id, d.acct, d.cur, d.amt - m⟩ s.H) = _
    rw [q1]
    split
    · rw [hsum_del he]
      split <;> omega
    · rw [hsum_put he]
      show _ + (if d.key = k then d.amt - m else 0) = _
      split <;> omega
  have hA : (lessS s d m).A = aput d.key ⟨a.floor, a.bal, a.held - m⟩ s.A := by
    unfold lessS
    rw [ha]
    dsimp only [Option.getD_some]
    rw [hw]
  have get : ∀ k a', aget k (lessS s d m).A = some a' → ∃ b, aget k s.A = some b ∧ a' = ⟨b.floor, b.bal, b.held - (if d.key = k then m else 0)⟩ := by
    intro k a' e
    rw [hA, aget_put] at e
    split at e
    · rename_i hk
      cases e
      exact ⟨a, by rw [← hk]; exact ha, by rw [if_pos hk]⟩
    · rename_i hk
      exact ⟨a', e, by rw [if_neg hk, Int.sub_zero]⟩
  refine ⟨fun k a' e => ?_, fun k a' e => ?_, fun k a' e => ?_, fun c => ?_, fun k e => ?_⟩
  · obtain ⟨b, e1, rfl⟩ := get k a' e
    have hb := h.acc k b e1
    by_cases hk : d.key = k
    · subst hk
      rw [ha] at e1
      cases e1
      simp only [if_true]
      omega
    · simp only [hk, if_false]
      omega
  · obtain ⟨b, e1, rfl⟩ := get k a' e
    rw [hH, ← h.held k b e1]
  · obtain ⟨b, e1, rfl⟩ := get k a' e
    exact h.bal k b e1
  · rw [hA, curSum_put (by rfl) ha]
    exact h.tot c
  · rw [hA, aget_put] at e
    split at e
    · cases e
    · rename_i hk
      rw [hH, if_neg hk]
      obtain ⟨w1, w2⟩ := h.new k e
      exact ⟨w1, by omega⟩
theorem holdS_inv {s : Led} (hs : s.Ok) (h : s.Inv) (id n c : ByteArray) (m : Int) : (holdS s id n c m).Inv := by
  by_cases he : holdE s id n c m = 0
  · obtain ⟨g1, g2, g3, g4, g5, g6, g7⟩ := holdE_ok he
    obtain ⟨a, ha⟩ : ∃ a, aget (n, c) s.A = some a := by
      cases hq : aget (n, c) s.A with
      | none => exact absurd hq g3
      | some a => exact ⟨a, rfl⟩
    have hacc := h.acc _ a ha
    unfold frA at g6
    rw [ha] at g6
    simp only [Option.getD_some] at g6
    rw [acc_fr hacc] at g6
    have hw : wrp .i64 (a.held + m) = a.held + m := wrp_fit (by omega)
    have hS : holdS s id n c m = ⟨aput (n, c) ⟨a.floor, a.bal, a.held + m⟩ s.A, s.P, s.H ++ [(id, ⟨id, n, c, m⟩)]⟩ := by
      unfold holdS
      rw [if_pos he, ha, aput_new g2]
      dsimp only [Option.getD_some]
      rw [hw]
    have hH : ∀ k, hsum k (s.H ++ [(id, (⟨id, n, c, m⟩ : Hld))]) = hsum k s.H + (if (n, c) = k then m else 0) := fun k => hsum_snoc _ _ _
    rw [hS]
    have get : ∀ k a', aget k (aput (n, c) (⟨a.floor, a.bal, a.held + m⟩ : Acc) s.A) = some a' → ∃ b, aget k s.A = some b ∧ a' = ⟨b.floor, b.bal, b.held + (if (n, c) = k then m else 0)⟩ := by
      intro k a' e
      rw [aget_put] at e
      split at e
      · rename_i hk
        cases e
        exact ⟨a, by rw [← hk]; exact ha, by rw [if_pos hk]⟩
      · rename_i hk
        exact ⟨a', e, by rw [if_neg hk, Int.add_zero]⟩
    refine ⟨fun k a' e => ?_, fun k a' e => ?_, fun k a' e => ?_, fun c' => ?_, fun k e => ?_⟩
    · obtain ⟨b, e1, rfl⟩ := get k a' e
      have hb := h.acc k b e1
      by_cases hk : (n, c) = k
      · subst hk
        rw [ha] at e1
        cases e1
        simp only [if_true]
        omega
      · simp only [hk, if_false]
        omega
    · obtain ⟨b, e1, rfl⟩ := get k a' e
      rw [hH, ← h.held k b e1]
    · obtain ⟨b, e1, rfl⟩ := get k a' e
      exact h.bal k b e1
    · show curSum c' (aput _ _ s.A) = 0
      rw [curSum_put (by rfl) ha]
      exact h.tot c'
    · have e : aget k (aput (n, c) (⟨a.floor, a.bal, a.held + m⟩ : Acc) s.A) = none := e
      rw [aget_put] at e
      split at e
      · cases e
      · rename_i hk
        show psum k s.P = 0 ∧ hsum k (s.H ++ _) = 0
        rw [hH, if_neg hk]
        obtain ⟨w1, w2⟩ := h.new k e
        exact ⟨w1, by omega⟩
  · unfold holdS
    rw [if_neg he]
    exact h
theorem openS_inv {s : Led} (h : s.Inv) (n c : ByteArray) (f : Int) : (openS s n c f).1.Inv := by
  unfold openS
  split
  · exact h
  split
  · exact h
  split
  · exact h
  split
  · exact h
  rename_i g1 g2 g3 g4
  have hn : aget (n, c) s.A = none := by
    cases hq : aget (n, c) s.A with
    | none => rfl
    | some a => rw [hq] at g3; simp at g3
  refine ⟨fun k a e => ?_, fun k a e => ?_, fun k a e => ?_, fun c' => ?_, fun k e => ?_⟩
  · rw [aget_put] at e
    split at e
    · cases e
      simp only
      omega
    · exact h.acc k a e
  · rw [aget_put] at e
    split at e
    · rename_i hk
      cases e
      rw [← hk]
      exact (h.new _ hn).2.symm
    · exact h.held k a e
  · rw [aget_put] at e
    split at e
    · rename_i hk
      cases e
      rw [← hk]
      exact (h.new _ hn).1.symm
    · exact h.bal k a e
  · show curSum c' (aput _ _ s.A) = 0
    rw [aput_new hn, curSum_snoc, h.tot]
    dsimp only
    split <;> rfl
  · rw [aget_put] at e
    split at e
    · cases e
    · exact h.new k e
theorem takeX_sums (d : Hld) (to : ByteArray) (m : Int) (hne : to ≠ d.acct) : (∀ c, csum c (takeX d to m) = 0) ∧ ∀ k, esum k (takeX d to m) = (if d.key = k then -m else 0) + (if (to, d.cur) = k then m else 0) := by
  refine ⟨fun c => ?_, fun k => ?_⟩
  · simp only [takeX, csum, List.map_cons, List.map_nil, List.sum_cons, List.sum_nil]
    split <;> omega
  · simp only [takeX, esum, Ent.key, Hld.key, List.map_cons, List.map_nil, List.sum_cons, List.sum_nil]
    rw [Int.add_zero]
    by_cases h1 : (d.acct, d.cur) = k <;> by_cases h2 : (to, d.cur) = k <;> simp only [h1, h2, if_true, if_false]
theorem takeS_inv {s : Led} (hs : s.Ok) (h : s.Inv) {id to : ByteArray} {m : Int} (he : takeE s id to m = 0) : (takeS s id to m).Inv := by
  obtain ⟨d, b, q1, q2, q3, q4, q5, q6, q7⟩ := takeE_ok he
  obtain ⟨g1, g2, g3, g4⟩ := hs.hold _ _ q1
  obtain ⟨a, ha⟩ : ∃ a, aget d.key s.A = some a := by
    cases hq : aget d.key s.A with
    | none => exact absurd hq g2
    | some a => exact ⟨a, rfl⟩
  unfold takeS
  rw [q1]
  have hL := lessS_inv hs h q1 q4 q5
  have hLo := lessS_ok hs q1 q4 q5
  obtain ⟨x1, x2⟩ := takeX_sums d to m q3
  have hne : d.key ≠ (to, d.cur) := fun e => q3 (congrArg Prod.fst e).symm
  have hgd : aget d.key (lessS s d m).A = some ⟨a.floor, a.bal, wrp .i64 (a.held - m)⟩ := by
    show aget d.key (aput d.key _ s.A) = _
    rw [aget_put, if_pos rfl, ha]
    rfl
  have hgt : aget (to, d.cur) (lessS s d m).A = some b := by
    show aget (to, d.cur) (aput d.key _ s.A) = _
    rw [aget_put, if_neg hne]
    exact q2
  refine enterS_inv hLo hL _ (by simp [takeX]) (fun e hm => ?_) (fun e hm => ?_) x1 (fun k c e => ?_)
  · simp only [takeX, List.mem_cons, List.not_mem_nil, or_false] at hm
    rcases hm with rfl | rfl
    · show aget d.key _ ≠ none
      rw [hgd]; simp
    · show aget (to, d.cur) _ ≠ none
      rw [hgt]; simp
  · simp only [takeX, List.mem_cons, List.not_mem_nil, or_false] at hm
    rcases hm with rfl | rfl <;> exact ⟨by simp only; omega, by simp only; omega⟩
  · have hc := hL.acc k c e
    rw [x2]
    by_cases hk : d.key = k
    · subst hk
      rw [if_pos rfl, if_neg (fun e => hne e.symm)]
      have hge := hsum_ge (ok_amts hs) q1
      have hacc := h.acc _ a ha
      have hh := h.held _ a ha
      rw [hgd] at e
      cases e
      rw [wrp_fit (by omega)] at hc ⊢
      simp only at hc ⊢
      omega
    · rw [if_neg hk]
      by_cases hk2 : (to, d.cur) = k
      · subst hk2
        rw [if_pos rfl]
        rw [hgt] at e
        cases e
        rw [wrp_fit (by omega)] at q7
        omega
      · rw [if_neg hk2]
        omega
theorem letS_inv {s : Led} (hs : s.Ok) (h : s.Inv) (id : ByteArray) : (letS s id).Inv := by
  unfold letS
  cases hq : aget id s.H with
  | none => exact h
  | some d => exact lessS_inv hs h hq (hs.hold id d hq).2.2.1 (Int.le_refl _)
theorem doS_inv {s : Led} (hs : s.Ok) (h : s.Inv) (x : Act) : (doS s x).Inv := by
  unfold doS
  split
  · exact openS_inv h _ _ _
  split
  · split
    · rename_i he
      exact post_inv hs h he
    · exact h
  split
  · exact holdS_inv hs h _ _ _ _
  split
  · split
    · rename_i he
      exact takeS_inv hs h he
    · exact h
  exact letS_inv hs h _
theorem playS_inv {s : Led} (hs : s.Ok) (h : s.Inv) (l : List Act) : (playS s l).Inv := by
  unfold playS
  induction l generalizing s with
  | nil => exact h
  | cons x l ih => exact ih (doS_ok hs x) (doS_inv hs h x)
end Go.Proofs.Ytbekoielblcbmaa
