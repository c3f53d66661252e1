import Derived.Test.YtodgjgkoaahhmaaGreatDoorDE
import Derived.Test.YtodgjgkoaahhmaaGreatDoorAE
import Derived.Test.YtodgjgkoaahhmaaGreatDoorDN
namespace Go.Proofs.YtodgjgkoaahhmaaGreatDoor
open Go.SL
/-! ### the document: layer 14 -/







end Go.Proofs.YtodgjgkoaahhmaaGreatDoor
namespace Go.Proofs.YtodgjgkoaahhmaaGreatDoor
open Go.SL
/-! ### Fit -/
end Go.Proofs.YtodgjgkoaahhmaaGreatDoor
namespace Go.Proofs.YtodgjgkoaahhmaaGreatDoor
open Go.SL
/-! ### the document's plan: plain -/
/-! #### texts that rise -/
end Go.Proofs.YtodgjgkoaahhmaaGreatDoor
namespace Go.Proofs.YtodgjgkoaahhmaaGreatDoor
open Go.SL
/-! ### what stays behind a port: plain -/
def keepB (port : Int) (x : Load) : Bool := decide (port < x.p)
def lowB (port : Int) (x y : Load) : Bool := inSt x.sl.b x.sl.r y && (decide (y.sl.t < x.sl.t) && keepB port y)
/-- how many of those that stay stand below -/
def newT (L : List Load) (port : Int) (x : Load) : Int := ((L.filter (lowB port x)).length : Nat)
def sink (L : List Load) (port : Int) (x : Load) : Load := atL x ⟨x.sl.b, x.sl.r, newT L port x⟩
def leftL (L : List Load) (port : Int) : List Load := ((lsort L).filter (keepB port)).map (sink L port)
theorem lowB_t {port : Int} {x y : Load} : lowB port x y = true ↔ (y.sl.b = x.sl.b ∧ y.sl.r = x.sl.r) ∧ y.sl.t < x.sl.t ∧ port < y.p := by
  unfold lowB keepB
  rw [Bool.and_eq_true, Bool.and_eq_true, inSt_iff, decide_eq_true_eq, decide_eq_true_eq]
theorem filter_perm_len {α : Type} {l m : List α} (h : l.Perm m) (f : α → Bool) : (l.filter f).length = (m.filter f).length := (h.filter f).length_eq
theorem newT_perm {L M : List Load} (h : L.Perm M) (port : Int) (x : Load) : newT L port x = newT M port x := by unfold newT; rw [filter_perm_len h]
theorem filter_len_le {α : Type} {f g : α → Bool} : ∀ {l : List α}, (∀ x ∈ l, f x = true → g x = true) → (l.filter f).length ≤ (l.filter g).length
  | [], _ => Nat.le_refl _
  | a :: l, h => by
    have ih := filter_len_le (l := l) (fun x hx => h x (List.mem_cons_of_mem _ hx))
    rw [List.filter_cons, List.filter_cons]
    by_cases e : f a = true
    · rw [if_pos e, if_pos (h a List.mem_cons_self e)]
      simp only [List.length_cons]
      omega
    · rw [if_neg e]
      split
      · simp only [List.length_cons]; omega
      · exact ih
theorem filter_len_lt {α : Type} {f g : α → Bool} : ∀ {l : List α} {a : α}, a ∈ l → f a = false → g a = true → (∀ x ∈ l, f x = true → g x = true) → (l.filter f).length < (l.filter g).length
  | [], _, h, _, _, _ => by cases h
  | b :: l, a, h, h1, h2, h3 => by
    have hl := filter_len_le (l := l) (fun x hx => h3 x (List.mem_cons_of_mem _ hx))
    rw [List.filter_cons, List.filter_cons]
    rcases List.mem_cons.1 h with e | e
    · subst e
      rw [if_neg (by rw [h1]; decide), if_pos h2]
      simp only [List.length_cons]
      omega
    · have ih := filter_len_lt (l := l) e h1 h2 (fun x hx => h3 x (List.mem_cons_of_mem _ hx))
      by_cases e2 : f b = true
      · rw [if_pos e2, if_pos (h3 b List.mem_cons_self e2)]
        simp only [List.length_cons]
        omega
      · rw [if_neg e2]
        split
        · simp only [List.length_cons]; omega
        · exact ih
theorem mem_left {S : Ship} {L : List Load} (hv : Inv S L) {port : Int} {y : Load} : y ∈ leftL L port ↔ ∃ x ∈ L, port < x.p ∧ y = sink L port x := by
  unfold leftL
  rw [List.mem_map]
  constructor
  · rintro ⟨x, hx, rfl⟩
    obtain ⟨h1, h2⟩ := List.mem_filter.1 hx
    exact ⟨x, (lsort_perm hv.nS).mem_iff.1 h1, by simpa [keepB] using h2, rfl⟩
  · rintro ⟨x, hx, hp, rfl⟩
    exact ⟨x, List.mem_filter.2 ⟨(lsort_perm hv.nS).mem_iff.2 hx, by simpa [keepB] using hp⟩, rfl⟩
theorem newT_nn (L : List Load) (port : Int) (x : Load) : 0 ≤ newT L port x := Int.natCast_nonneg _
/-- of one stack those below stay below -/
theorem newT_lt {L : List Load} {port : Int} {x y : Load} (hy : y ∈ L) (hp : port < y.p) (hb : y.sl.b = x.sl.b) (hr : y.sl.r = x.sl.r) (ht : y.sl.t < x.sl.t) : newT L port y < newT L port x := by
  unfold newT
  have := filter_len_lt (f := lowB port y) (g := lowB port x) hy (by
    cases h : lowB port y y with
    | false => rfl
    | true => have := (lowB_t.1 h).2.1; omega) (lowB_t.2 ⟨⟨hb, hr⟩, ht, hp⟩) (fun z _ h => by
    obtain ⟨⟨h1, h2⟩, h3, h4⟩ := lowB_t.1 h
    exact lowB_t.2 ⟨⟨by omega, by omega⟩, by omega, h4⟩)
  omega
/-- a stack's weights fall -/
theorem stack_falls {S : Ship} {L : List Load} (hv : Inv S L) : ∀ (n : Nat) {x y : Load}, x ∈ L → y ∈ L → y.sl.b = x.sl.b → y.sl.r = x.sl.r → x.sl.t = y.sl.t + (n : Nat) → x.w ≤ y.w
  | 0, x, y, hx, hy, h1, h2, h3 => by
    have : x = y := by
      have e1 := (atS_some hv.nS).2 ⟨hx, rfl⟩
      have e2 := (atS_some hv.nS (s := x.sl)).2 ⟨hy, by rw [Sl_eq]; omega⟩
      rw [e1] at e2
      exact Option.some.inj e2
    rw [this]
    exact Int.le_refl _
  | n + 1, x, y, hx, hy, h1, h2, h3 => by
    have ho := (hv.on y hy).2.2
    obtain ⟨z, hz, e1, e2⟩ := hv.sup x hx (by omega)
    have := stack_falls hv n hz hy (by rw [e1]; exact h1) (by rw [e1]; exact h2) (by rw [e1]; simp only; omega)
    omega
theorem newT_le {S : Ship} {L : List Load} (hv : Inv S L) (port : Int) {x : Load} (hx : x ∈ L) : newT L port x ≤ x.sl.t := by
  have ho := (hv.on x hx).2.2
  obtain ⟨n, hn⟩ := Int.eq_ofNat_of_zero_le ho.1
  have hnd : ((L.filter (lowB port x)).map fun y => y.sl.t).Nodup := by
    have h0 : ((L.filter (lowB port x)).map (·.sl)).Nodup := hv.nS.sublist (List.Sublist.map _ List.filter_sublist)
    rw [List.nodup_iff_pairwise_ne] at h0 ⊢
    rw [List.pairwise_map] at h0 ⊢
    refine h0.imp_of_mem (fun {a b} ha hb hne e => hne ?_)
    have q1 := lowB_t.1 (List.mem_filter.1 ha).2
    have q2 := lowB_t.1 (List.mem_filter.1 hb).2
    rw [Sl_eq]
    omega
  have hsub : ∀ a ∈ (L.filter (lowB port x)).map fun y => y.sl.t, a ∈ (List.range n).map fun j : Nat => (j : Int) := fun a ha => by
    obtain ⟨y, hy, rfl⟩ := List.mem_map.1 ha
    obtain ⟨h1, h2⟩ := List.mem_filter.1 hy
    have q := lowB_t.1 h2
    have h3 := (hv.on y h1).2.2.1
    obtain ⟨j, hj⟩ := Int.eq_ofNat_of_zero_le h3
    exact List.mem_map.2 ⟨j, List.mem_range.2 (by omega), hj.symm⟩
  have hlen : ∀ {l m : List Int}, l.Nodup → (∀ a ∈ l, a ∈ m) → l.length ≤ m.length := by
    intro l
    induction l with
    | nil => intro m _ _; exact Nat.zero_le _
    | cons a l ih =>
      intro m hl hm
      rw [List.nodup_cons] at hl
      obtain ⟨m1, m2, rfl⟩ := List.append_of_mem (hm a List.mem_cons_self)
      have := ih (m := m1 ++ m2) hl.2 (fun b hb => by
        have := hm b (List.mem_cons_of_mem _ hb)
        have hne : b ≠ a := fun e => hl.1 (e ▸ hb)
        rcases List.mem_append.1 this with q | q
        · exact List.mem_append_left _ q
        · rcases List.mem_cons.1 q with q | q
          · exact absurd q hne
          · exact List.mem_append_right _ q)
      simp only [List.length_append, List.length_cons] at this ⊢
      omega
  have := hlen hnd hsub
  rw [List.length_map, List.length_map, List.length_range] at this
  unfold newT
  omega
/-- all the places below are taken -/
theorem newT_all {S : Ship} {L : List Load} (hv : Inv S L) (port : Int) : ∀ (n : Nat) {x : Load}, x ∈ L → newT L port x = (n : Nat) + 1 → ∃ y ∈ L, port < y.p ∧ y.sl.b = x.sl.b ∧ y.sl.r = x.sl.r ∧ y.sl.t < x.sl.t ∧ newT L port y = (n : Nat) := by
  intro n x hx h
  -- the highest one below that stays
  have hne : (L.filter (lowB port x)) ≠ [] := fun e => by unfold newT at h; rw [e] at h; simp only [List.length_nil] at h; omega
  have hmax : ∀ l : List Load, l ≠ [] → ∃ y ∈ l, ∀ z ∈ l, z.sl.t ≤ y.sl.t := by
    intro l
    induction l with
    | nil => intro h; exact absurd rfl h
    | cons a l ih =>
      intro _
      by_cases e : l = []
      · subst e
        exact ⟨a, List.mem_cons_self, fun z hz => by rw [List.mem_singleton.1 hz]; exact Int.le_refl _⟩
      · obtain ⟨y, hy, hm⟩ := ih e
        by_cases c : a.sl.t ≤ y.sl.t
        · refine ⟨y, List.mem_cons_of_mem _ hy, fun z hz => ?_⟩
          rcases List.mem_cons.1 hz with q | q
          · rw [q]; exact c
          · exact hm z q
        · refine ⟨a, List.mem_cons_self, fun z hz => ?_⟩
          rcases List.mem_cons.1 hz with q | q
          · rw [q]; exact Int.le_refl _
          · have := hm z q; omega
  obtain ⟨y, hy, hm⟩ := hmax _ hne
  obtain ⟨hyL, hyb⟩ := List.mem_filter.1 hy
  obtain ⟨⟨q1, q2⟩, q3, q4⟩ := lowB_t.1 hyb
  refine ⟨y, hyL, q4, q1, q2, q3, ?_⟩
  have hp : (L.filter (lowB port x)).Perm (y :: L.filter (lowB port y)) := by
    have hnL := nodup_of_map hv.nS
    refine perm_mem (hnL.filter _) (List.nodup_cons.2 ⟨fun hc => ?_, hnL.filter _⟩) (fun z => ?_)
    · have := (lowB_t.1 (List.mem_filter.1 hc).2).2.1; omega
    · rw [List.mem_cons, List.mem_filter, List.mem_filter]
      constructor
      · rintro ⟨h1, h2⟩
        obtain ⟨⟨r1, r2⟩, r3, r4⟩ := lowB_t.1 h2
        have := hm z (List.mem_filter.2 ⟨h1, h2⟩)
        by_cases e : z.sl.t = y.sl.t
        · left
          have e1 := (atS_some hv.nS).2 ⟨h1, rfl⟩
          have e2 := (atS_some hv.nS (s := z.sl)).2 ⟨hyL, by rw [Sl_eq]; omega⟩
          rw [e1] at e2
          exact Option.some.inj e2
        · right
          exact ⟨h1, lowB_t.2 ⟨⟨by omega, by omega⟩, by omega, r4⟩⟩
      · rintro (rfl | ⟨h1, h2⟩)
        · exact ⟨hyL, hyb⟩
        · obtain ⟨⟨r1, r2⟩, r3, r4⟩ := lowB_t.1 h2
          exact ⟨h1, lowB_t.2 ⟨⟨by omega, by omega⟩, by omega, r4⟩⟩
  have := hp.length_eq
  rw [List.length_cons] at this
  unfold newT at h ⊢
  omega
theorem stW_map {L : List Load} {f : Load → Load} (hb : ∀ x, (f x).sl.b = x.sl.b) (hr : ∀ x, (f x).sl.r = x.sl.r) (hw : ∀ x, (f x).w = x.w) (b r : Int) : stW (L.map f) b r = stW L b r := by
  unfold stW
  rw [List.map_map]
  refine congrArg List.sum (List.map_congr_left (fun x _ => ?_))
  show (if inSt b r (f x) = true then (f x).w else 0) = _
  have : inSt b r (f x) = inSt b r x := by unfold inSt; rw [hb, hr]
  rw [this, hw]
theorem wsum_map {L : List Load} {f : Load → Load} (hw : ∀ x, (f x).w = x.w) : wsum (L.map f) = wsum L := by
  unfold wsum
  rw [List.map_map]
  exact congrArg List.sum (List.map_congr_left (fun x _ => hw x))
theorem stW_filter_le {S : Ship} {L : List Load} (hv : Inv S L) (f : Load → Bool) (b r : Int) : stW (L.filter f) b r ≤ stW L b r := by
  have h := fun x hx => (hv.ok x hx).1
  clear hv
  induction L with
  | nil => exact Int.le_refl _
  | cons x L ih =>
    have h1 := ih (fun y hy => h y (List.mem_cons_of_mem _ hy))
    have h2 := h x List.mem_cons_self
    rw [List.filter_cons, stW_cons]
    split
    · rw [stW_cons]; omega
    · split <;> omega
theorem wsum_filter_le {S : Ship} {L : List Load} (hv : Inv S L) (f : Load → Bool) : wsum (L.filter f) ≤ wsum L := by
  have h := fun x hx => (hv.ok x hx).1
  clear hv
  induction L with
  | nil => exact Int.le_refl _
  | cons x L ih =>
    have h1 := ih (fun y hy => h y (List.mem_cons_of_mem _ hy))
    have h2 := h x List.mem_cons_self
    rw [List.filter_cons, wsum_cons]
    split
    · rw [wsum_cons]; omega
    · omega
theorem left_sort {S : Ship} {L : List Load} (hv : Inv S L) (port : Int) : DSort (leftL L port) := by
  have hd := lsort_doc hv.nS
  unfold leftL DSort
  rw [List.pairwise_map]
  have h0 : ((lsort L).filter (keepB port)).Pairwise fun a b => dless a.sl b.sl = true := List.Pairwise.sublist List.filter_sublist hd.sort
  refine h0.imp_of_mem (fun {a b} ha hb h => ?_)
  obtain ⟨a1, a2⟩ := List.mem_filter.1 ha
  obtain ⟨b1, b2⟩ := List.mem_filter.1 hb
  have a1 := hd.perm.mem_iff.1 a1
  have a2 : port < a.p := by simpa [keepB] using a2
  rw [dless_t] at h
  show dless ⟨a.sl.b, a.sl.r, newT L port a⟩ ⟨b.sl.b, b.sl.r, newT L port b⟩ = true
  rw [dless_t]
  dsimp only
  rcases h with h | ⟨h1, h | ⟨h2, h⟩⟩
  · exact .inl h
  · exact .inr ⟨h1, .inl h⟩
  · exact .inr ⟨h1, .inr ⟨h2, newT_lt a1 a2 h1 h2 h⟩⟩
theorem dsort_nodup {D : List Load} (h : DSort D) : (D.map (·.sl)).Nodup := by
  rw [List.nodup_iff_pairwise_ne, List.pairwise_map]
  exact h.imp (fun {a b} h e => by rw [e, dless_irr] at h; cases h)
theorem left_inv {S : Ship} {L : List Load} (hv : Inv2 S L) (port : Int) : Inv2 S (leftL L port) := by
  have hd := lsort_doc hv.nS
  have hvD := hv.perm hd.perm.symm
  refine ⟨⟨dsort_nodup (left_sort hv.toInv port), ?_, ?_, ?_, ?_⟩, ?_, ?_, ?_, ?_⟩
  · unfold leftL
    rw [List.map_map]
    exact (hvD.nB.sublist (List.Sublist.map _ List.filter_sublist))
  · intro y hy
    obtain ⟨x, hx, _, rfl⟩ := (mem_left hv.toInv).1 hy
    have h1 := hv.on x hx
    have h2 := newT_le hv.toInv port hx
    have h3 := newT_nn L port x
    exact ⟨h1.1, h1.2.1, h3, by show newT L port x < _; omega⟩
  · intro y hy
    obtain ⟨x, hx, _, rfl⟩ := (mem_left hv.toInv).1 hy
    exact hv.ok x hx
  · intro y hy ht
    obtain ⟨x, hx, hp, rfl⟩ := (mem_left hv.toInv).1 hy
    have h3 := newT_nn L port x
    have ht : newT L port x ≠ 0 := ht
    obtain ⟨n, hn⟩ := Int.eq_ofNat_of_zero_le h3
    obtain ⟨z, hz, z1, z2, z3, z4, z5⟩ := newT_all hv.toInv port (n - 1) hx (by omega)
    refine ⟨sink L port z, (mem_left hv.toInv).2 ⟨z, hz, z1, rfl⟩, ?_, ?_⟩
    · show (⟨z.sl.b, z.sl.r, newT L port z⟩ : Sl) = ⟨x.sl.b, x.sl.r, newT L port x - 1⟩
      rw [Sl_eq]
      dsimp only
      omega
    · show x.w ≤ z.w
      exact stack_falls hv.toInv (x.sl.t - z.sl.t).toNat hx hz z2 z3 (by omega)
  · intro b r
    unfold leftL
    rw [stW_map (f := sink L port) (fun _ => rfl) (fun _ => rfl) (fun _ => rfl)]
    have := stW_filter_le hvD.toInv (keepB port) b r
    have := hvD.stk b r
    omega
  · unfold leftL
    rw [wsum_map (f := sink L port) (fun _ => rfl)]
    have := wsum_filter_le hvD.toInv (keepB port)
    have := hvD.tot
    omega
  · intro x hx y hy hn
    obtain ⟨x', hx', _, rfl⟩ := (mem_left hv.toInv).1 hx
    obtain ⟨y', hy', _, rfl⟩ := (mem_left hv.toInv).1 hy
    exact hv.apt x' hx' y' hy' hn
  · intro y hy
    obtain ⟨x, hx, _, rfl⟩ := (mem_left hv.toInv).1 hy
    exact hv.nms x hx
theorem lsort_eq {L M : List Load} (h : L.Perm M) (hn : (L.map (·.sl)).Nodup) : lsort L = lsort M := by
  have hm : (M.map (·.sl)).Nodup := (h.map _).nodup_iff.1 hn
  have d1 := lsort_doc hn
  have d2 := lsort_doc hm
  exact dsort_eq (d1.perm.trans (h.trans d2.perm.symm)) d1.sort d2.sort
theorem leftL_perm {L M : List Load} (h : L.Perm M) (hn : (L.map (·.sl)).Nodup) (port : Int) : leftL L port = leftL M port := by
  unfold leftL
  rw [lsort_eq h hn]
  refine List.map_congr_left (fun x _ => ?_)
  unfold sink
  rw [newT_perm h]
def leftN (L : List Load) : Nat → List Load
  | 0 => L
  | n + 1 => leftL (leftN L n) (n : Nat)
theorem leftN_inv {S : Ship} {L : List Load} (hv : Inv2 S L) : ∀ n, Inv2 S (leftN L n)
  | 0 => hv
  | n + 1 => left_inv (leftN_inv hv n) _
def movesS (L : List Load) : Nat → Int
  | 0 => 0
  | n + 1 => movesS L n + overD (leftN L n) (n : Nat)
theorem leftL_len {L : List Load} (hn : (L.map (·.sl)).Nodup) (port : Int) : (leftL L port).length ≤ L.length := by
  unfold leftL
  rw [List.length_map, ← (lsort_perm hn).length_eq]
  exact List.length_filter_le _ _
theorem leftN_len {S : Ship} {L : List Load} (hv : Inv2 S L) : ∀ n, (leftN L n).length ≤ L.length
  | 0 => Nat.le_refl _
  | n + 1 => Nat.le_trans (leftL_len (leftN_inv hv n).nS _) (leftN_len hv n)
theorem overD_in (L : List Load) (port : Int) : 0 ≤ overD L port ∧ overD L port ≤ (L.length : Nat) := by
  have : ∀ (M : List Load), 0 ≤ (M.map fun x => if liftD L port x = true ∧ x.p > port then (1 : Int) else 0).sum ∧ (M.map fun x => if liftD L port x = true ∧ x.p > port then (1 : Int) else 0).sum ≤ (M.length : Nat) := by
    intro M
    induction M with
    | nil => simp
    | cons a M ih =>
      rw [List.map_cons, List.sum_cons, List.length_cons]
      split <;> omega
  exact this L
theorem movesS_in {S : Ship} {L : List Load} (hv : Inv2 S L) : ∀ n : Nat, 0 ≤ movesS L n ∧ movesS L n ≤ (L.length : Int) * (n : Nat)
  | 0 => by show (0 : Int) ≤ 0 ∧ (0 : Int) ≤ (L.length : Int) * ((0 : Nat) : Int); omega
  | n + 1 => by
    have h1 := movesS_in hv n
    have h2 := overD_in (leftN L n) (n : Nat)
    have h3 := leftN_len hv n
    rw [movesS]
    have e : (L.length : Int) * ((n + 1 : Nat) : Int) = (L.length : Int) * (n : Nat) + (L.length : Nat) := by rw [Int.natCast_succ, Int.mul_add, Int.mul_one]
    rw [e]
    omega
end Go.Proofs.YtodgjgkoaahhmaaGreatDoor
namespace Go.Proofs.YtodgjgkoaahhmaaGreatDoor
open Go.SL
/-! ### what is planned comes off without a lift: plain -/
/-- in each stack ports fall -/
def Falls (L : List Load) : Prop := ∀ x ∈ L, ∀ y ∈ L, y.sl.b = x.sl.b → y.sl.r = x.sl.r → y.sl.t < x.sl.t → x.p ≤ y.p
theorem falls_over {L : List Load} (h : Falls L) (port : Int) : overD L port = 0 := by
  unfold overD
  have : (L.map fun x => if liftD L port x = true ∧ x.p > port then (1 : Int) else 0) = L.map fun _ => (0 : Int) := List.map_congr_left (fun x hx => if_neg (fun hc => by
    obtain ⟨y, hy, e⟩ := List.any_eq_true.1 hc.1
    rw [decide_eq_true_eq] at e
    have := h x hx y hy e.1.symm e.2.1.symm e.2.2.1
    omega))
  rw [this]
  clear this h
  induction L with
  | nil => rfl
  | cons x L ih => rw [List.map_cons, List.sum_cons, ih]; rfl
theorem falls_perm {L M : List Load} (h : Falls L) (hp : L.Perm M) : Falls M := fun x hx y hy => h x (hp.mem_iff.2 hx) y (hp.mem_iff.2 hy)
theorem falls_left {S : Ship} {L : List Load} (hv : Inv S L) (h : Falls L) (port : Int) : Falls (leftL L port) := by
  intro x hx y hy e1 e2 e3
  obtain ⟨x', hx', px, rfl⟩ := (mem_left hv).1 hx
  obtain ⟨y', hy', py, rfl⟩ := (mem_left hv).1 hy
  have e1 : y'.sl.b = x'.sl.b := e1
  have e2 : y'.sl.r = x'.sl.r := e2
  have e3 : newT L port y' < newT L port x' := e3
  show x'.p ≤ y'.p
  refine h x' hx' y' hy' e1 e2 ?_
  apply Classical.byContradiction
  intro hn
  by_cases he : x'.sl.t = y'.sl.t
  · have q1 := (atS_some hv.nS).2 ⟨hx', rfl⟩
    have q2 := (atS_some hv.nS (s := x'.sl)).2 ⟨hy', by rw [Sl_eq]; omega⟩
    rw [q1] at q2
    rw [Option.some.inj q2] at e3
    omega
  · have := newT_lt (x := y') (y := x') (port := port) hx' px e1.symm e2.symm (by omega)
    omega
theorem falls_moves {S : Ship} {L : List Load} (hv : Inv2 S L) (h : Falls L) : ∀ n : Nat, movesS L n = 0 ∧ Falls (leftN L n)
  | 0 => ⟨rfl, h⟩
  | n + 1 => by
    obtain ⟨h1, h2⟩ := falls_moves hv h n
    refine ⟨?_, falls_left (leftN_inv hv n).toInv h2 _⟩
    rw [movesS, h1, falls_over h2]
    rfl
/-- what is put where it was tried stands above all of its stack -/
theorem put_top {S : Ship} {L : List Load} {x : Load} (hv : Inv S L) (h : putE S L x = 0) {y : Load} (hy : y ∈ L) (h1 : y.sl.b = x.sl.b) (h2 : y.sl.r = x.sl.r) : y.sl.t < x.sl.t := by
  apply Classical.byContradiction
  intro hn
  obtain ⟨_, _, h3, h4, _⟩ := putE_ok h
  have ho := (onB_t.1 h3).2.2
  have hoy := (hv.on y hy).2.2
  obtain ⟨n, hn2⟩ := Int.eq_ofNat_of_zero_le hoy.1
  obtain ⟨t, ht⟩ := Int.eq_ofNat_of_zero_le ho.1
  obtain ⟨z, hz, he⟩ := tiers_all hv n hy hn2 t (by omega)
  refine atS_none.1 h4 z hz ?_
  rw [he, Sl_eq]
  exact ⟨h1, h2, ht.symm⟩
theorem fill_mem {S : Ship} {B R : Nat} (l : List Load) : ∀ y ∈ (fillP S B R l).1, ∃ x ∈ l, ∃ s, y = atL x s := by
  induction l using lsnoc with
  | h0 => intro y hy; cases hy
  | h1 l x ih =>
    intro y hy
    rw [fillP_snoc] at hy
    unfold stepP at hy
    cases hb : bestP S B R (fillP S B R l).1 x with
    | none =>
      rw [hb] at hy
      obtain ⟨z, hz, s, e⟩ := ih y hy
      exact ⟨z, List.mem_append_left _ hz, s, e⟩
    | some s =>
      rw [hb] at hy
      rcases List.mem_append.1 hy with q | q
      · obtain ⟨z, hz, s', e⟩ := ih y q
        exact ⟨z, List.mem_append_left _ hz, s', e⟩
      · exact ⟨x, by simp, s, List.mem_singleton.1 q⟩
theorem fill_falls {S : Ship} {B R : Nat} (hS : shipOk S = true) (l : List Load) (hl : l.Pairwise fun a b => b.p ≤ a.p) : Falls (fillP S B R l).1 := by
  induction l using lsnoc with
  | h0 => intro x hx; cases hx
  | h1 l x ih =>
    rw [List.pairwise_append] at hl
    have ih := ih hl.1
    rw [fillP_snoc]
    unfold stepP
    cases hb : bestP S B R (fillP S B R l).1 x with
    | none => exact ih
    | some s =>
      dsimp only
      have hp := (bestP_some hb).1
      have hv := (fillP_inv (S := S) (B := B) (R := R) hS l).1
      intro a ha c hc e1 e2 e3
      rcases List.mem_append.1 ha with qa | qa <;> rcases List.mem_append.1 hc with qc | qc
      · exact ih a qa c qc e1 e2 e3
      · rw [List.mem_singleton.1 qc] at e1 e2 e3
        have := put_top hv.toInv hp qa e1.symm e2.symm
        omega
      · rw [List.mem_singleton.1 qa]
        obtain ⟨z, hz, s', rfl⟩ := fill_mem l c qc
        exact hl.2.2 z hz x (by simp)
      · rw [List.mem_singleton.1 qa, List.mem_singleton.1 qc] at e3
        omega
theorem order_falls (l : List Load) : (isL ltO l).Pairwise fun a b => b.p ≤ a.p := (isL_sorted swoO l).imp (fun {a b} h => by
  have h2 : ¬ (ltO b a = true) := by rw [h]; decide
  rw [ltO_t] at h2
  omega)
theorem plan_falls {S : Ship} {B R : Nat} (hS : shipOk S = true) (l : List Load) : Falls (planL S B R l) := by
  have h := fill_falls (B := B) (R := R) hS (isL ltO l) (order_falls l)
  intro x hx y hy
  exact h x (List.mem_of_mem_take hx) y (List.mem_of_mem_take hy)
/-- each load is planned, or left out -/
theorem fill_all {S : Ship} {B R : Nat} (l : List Load) : ((fillP S B R l).1.map (·.box) ++ (fillP S B R l).2).Perm (l.map (·.box)) := by
  induction l using lsnoc with
  | h0 => exact List.Perm.refl _
  | h1 l x ih =>
    rw [fillP_snoc]
    unfold stepP
    cases hb : bestP S B R (fillP S B R l).1 x with
    | none =>
      dsimp only
      rw [← List.append_assoc, List.map_append]
      exact ih.append_right _
    | some s =>
      dsimp only
      rw [List.map_append, List.map_append, List.append_assoc]
      refine (List.perm_append_comm.append_left _).trans ?_
      rw [← List.append_assoc]
      exact ih.append_right _
theorem plan_all {S : Ship} {B R : Nat} (l : List Load) : ((planL S B R l).map (·.box) ++ planO S B R l).Perm (l.map (·.box)) := by
  have h := (fill_all (S := S) (B := B) (R := R) (isL ltO l)).trans ((isL_perm l).map _)
  refine List.Perm.trans ?_ h
  unfold planL planO keepL goneL
  generalize (fillP S B R (isL ltO l)).1 = L
  generalize (fillP S B R (isL ltO l)).2 = out
  generalize keepN S L L.length = n
  have e : L.map (·.box) = (L.take n).map (·.box) ++ (L.drop n).map (·.box) := by rw [← List.map_append, List.take_append_drop]
  rw [e, List.append_assoc]
  refine List.Perm.append_left _ (List.perm_append_comm.trans ?_)
  exact List.Perm.append_right _ ((List.reverse_perm _).map _)
theorem plan_mem {S : Ship} {B R : Nat} {l : List Load} {y : Load} (h : y ∈ planL S B R l) : ∃ x ∈ l, ∃ s, y = atL x s := by
  obtain ⟨x, hx, s, e⟩ := fill_mem _ y (List.mem_of_mem_take h)
  exact ⟨x, (isL_perm l).mem_iff.1 hx, s, e⟩
/-- what stays at the end lies safe -/
theorem plan_safe {S : Ship} {B R : Nat} (hS : shipOk S = true) (l : List Load) : safeE S (planL S B R l) = 0 := keepN_safe hS _ _
/-! #### a plan hangs on no order, no slots -/
theorem inj_of_nodup {l : List Load} (hn : (l.map (·.box)).Nodup) : ∀ x ∈ l, ∀ y ∈ l, x.box = y.box → x = y := by
  intro x hx y hy e
  have h1 := (byB_some hn).2 ⟨hx, rfl⟩
  have h2 := (byB_some hn (n := x.box)).2 ⟨hy, e.symm⟩
  rw [h1] at h2
  exact Option.some.inj h2
end Go.Proofs.YtodgjgkoaahhmaaGreatDoor
namespace Go.Proofs.YtodgjgkoaahhmaaGreatDoor
open Go.SL
/-! ### a ship that is turned round: plain -/
section
variable {S : Ship} {e s : Bool}
theorem rightE_iff {l : List Load} : rightE S l = 0 ↔ (shipOk S = true ∧ Inv2 S l) ∧ safeE S l = 0 := by
  unfold rightE
  rw [← standE_iff]
  split
  · rename_i h; simp [h]
  · rename_i h; simp [h]
end
end Go.Proofs.YtodgjgkoaahhmaaGreatDoor
namespace Go.Proofs.YtodgjgkoaahhmaaGreatDoor
open Go.SL
/-! ### the checker's order: plain -/
end Go.Proofs.YtodgjgkoaahhmaaGreatDoor
namespace Go.Proofs.YtodgjgkoaahhmaaGreatDoor
open Go.SL
/-! ### the document's layer 14: Moments, Margins; layer 15: Lean, Safe, ahead, less -/
end Go.Proofs.YtodgjgkoaahhmaaGreatDoor
namespace Go.Proofs.YtodgjgkoaahhmaaGreatDoor
open Go.SL
/-! ### the document's Order, Sorted, put -/
theorem lsort_snoc (L : List Load) (x : Load) : lsort (L ++ [x]) = insD x (lsort L) := by unfold lsort; rw [List.foldl_append]; rfl
theorem lsort_len (L : List Load) : (lsort L).length = L.length := by
  induction L using lsnoc with
  | h0 => rfl
  | h1 L x ih => rw [lsort_snoc, (insD_perm x _).length_eq, List.length_cons, ih, List.length_append]; rfl



end Go.Proofs.YtodgjgkoaahhmaaGreatDoor
