import Derived.Test.YtjlblnplofgpnaaGreatDoorDN
namespace Go.Proofs.YtjlblnplofgpnaaGreatDoor
open Go.SL
/-! ### the document's plan: plain -/
/-! #### texts that rise -/
end Go.Proofs.YtjlblnplofgpnaaGreatDoor
namespace Go.Proofs.YtjlblnplofgpnaaGreatDoor
open Go.SL
/-! ### what stays behind a port: plain -/
def keepB (port : Int) (x : Load) : Bool := decide (port < x.p)
def lowB (port : Int) (x y : Load) : Bool := inSt x.sl.b x.sl.r y && (decide (y.sl.t < x.sl.t) && keepB port y)
/-- how many of those that stay stand below -/
def newT (L : List Load) (port : Int) (x : Load) : Int := ((L.filter (lowB port x)).length : Nat)
def sink (L : List Load) (port : Int) (x : Load) : Load := atL x ⟨x.sl.b, x.sl.r, newT L port x⟩
def leftL (L : List Load) (port : Int) : List Load := ((lsort L).filter (keepB port)).map (sink L port)
theorem lowB_t {port : Int} {x y : Load} : lowB port x y = true ↔ (y.sl.b = x.sl.b ∧ y.sl.r = x.sl.r) ∧ y.sl.t < x.sl.t ∧ port < y.p := by
  unfold lowB keepB
  rw [Bool.and_eq_true, Bool.and_eq_true, inSt_iff, decide_eq_true_eq, decide_eq_true_eq]
theorem filter_perm_len {α : Type} {l m : List α} (h : l.Perm m) (f : α → Bool) : (l.filter f).length = (m.filter f).length := (h.filter f).length_eq
theorem newT_perm {L M : List Load} (h : L.Perm M) (port : Int) (x : Load) : newT L port x = newT M port x := by unfold newT; rw [filter_perm_len h]
theorem filter_len_le {α : Type} {f g : α → Bool} : ∀ {l : List α}, (∀ x ∈ l, f x = true → g x = true) → (l.filter f).length ≤ (l.filter g).length
  | [], _ => Nat.le_refl _
  | a :: l, h => by
    have ih := filter_len_le (l := l) (fun x hx => h x (List.mem_cons_of_mem _ hx))
    rw [List.filter_cons, List.filter_cons]
    by_cases e : f a = true
    · rw [if_pos e, if_pos (h a List.mem_cons_self e)]
      simp only [List.length_cons]
      omega
    · rw [if_neg e]
      split
      · simp only [List.length_cons]; omega
      · exact ih
theorem filter_len_lt {α : Type} {f g : α → Bool} : ∀ {l : List α} {a : α}, a ∈ l → f a = false → g a = true → (∀ x ∈ l, f x = true → g x = true) → (l.filter f).length < (l.filter g).length
  | [], _, h, _, _, _ => by cases h
  | b :: l, a, h, h1, h2, h3 => by
    have hl := filter_len_le (l := l) (fun x hx => h3 x (List.mem_cons_of_mem _ hx))
    rw [List.filter_cons, List.filter_cons]
    rcases List.mem_cons.1 h with e | e
    · subst e
      rw [if_neg (by rw [h1]; decide), if_pos h2]
      simp only [List.length_cons]
      omega
    · have ih := filter_len_lt (l := l) e h1 h2 (fun x hx => h3 x (List.mem_cons_of_mem _ hx))
      by_cases e2 : f b = true
      · rw [if_pos e2, if_pos (h3 b List.mem_cons_self e2)]
        simp only [List.length_cons]
        omega
      · rw [if_neg e2]
        split
        · simp only [List.length_cons]; omega
        · exact ih
theorem mem_left {S : Ship} {L : List Load} (hv : Inv S L) {port : Int} {y : Load} : y ∈ leftL L port ↔ ∃ x ∈ L, port < x.p ∧ y = sink L port x := by
  unfold leftL
  rw [List.mem_map]
  constructor
  · rintro ⟨x, hx, rfl⟩
    obtain ⟨h1, h2⟩ := List.mem_filter.1 hx
    exact ⟨x, (lsort_perm hv.nS).mem_iff.1 h1, by simpa [keepB] using h2, rfl⟩
  · rintro ⟨x, hx, hp, rfl⟩
    exact ⟨x, List.mem_filter.2 ⟨(lsort_perm hv.nS).mem_iff.2 hx, by simpa [keepB] using hp⟩, rfl⟩
theorem newT_nn (L : List Load) (port : Int) (x : Load) : 0 ≤ newT L port x := Int.natCast_nonneg _
/-- of one stack those below stay below -/
theorem newT_lt {L : List Load} {port : Int} {x y : Load} (hy : y ∈ L) (hp : port < y.p) (hb : y.sl.b = x.sl.b) (hr : y.sl.r = x.sl.r) (ht : y.sl.t < x.sl.t) : newT L port y < newT L port x := by
  unfold newT
  have := filter_len_lt (f := lowB port y) (g := lowB port x) hy (by
    cases h : lowB port y y with
    | false => rfl
    | true => have := (lowB_t.1 h).2.1; omega) (lowB_t.2 ⟨⟨hb, hr⟩, ht, hp⟩) (fun z _ h => by
    obtain ⟨⟨h1, h2⟩, h3, h4⟩ := lowB_t.1 h
    exact lowB_t.2 ⟨⟨by omega, by omega⟩, by omega, h4⟩)
  omega
/-- a stack's weights fall -/
theorem stack_falls {S : Ship} {L : List Load} (hv : Inv S L) : ∀ (n : Nat) {x y : Load}, x ∈ L → y ∈ L → y.sl.b = x.sl.b → y.sl.r = x.sl.r → x.sl.t = y.sl.t + (n : Nat) → x.w ≤ y.w
  | 0, x, y, hx, hy, h1, h2, h3 => by
    have : x = y := by
      have e1 := (atS_some hv.nS).2 ⟨hx, rfl⟩
      have e2 := (atS_some hv.nS (s := x.sl)).2 ⟨hy, by rw [Sl_eq]; omega⟩
      rw [e1] at e2
      exact Option.some.inj e2
    rw [this]
    exact Int.le_refl _
  | n + 1, x, y, hx, hy, h1, h2, h3 => by
    have ho := (hv.on y hy).2.2
    obtain ⟨z, hz, e1, e2⟩ := hv.sup x hx (by omega)
    have := stack_falls hv n hz hy (by rw [e1]; exact h1) (by rw [e1]; exact h2) (by rw [e1]; simp only; omega)
    omega
theorem newT_le {S : Ship} {L : List Load} (hv : Inv S L) (port : Int) {x : Load} (hx : x ∈ L) : newT L port x ≤ x.sl.t := by
  have ho := (hv.on x hx).2.2
  obtain ⟨n, hn⟩ := Int.eq_ofNat_of_zero_le ho.1
  have hnd : ((L.filter (lowB port x)).map fun y => y.sl.t).Nodup := by
    have h0 : ((L.filter (lowB port x)).map (·.sl)).Nodup := hv.nS.sublist (List.Sublist.map _ List.filter_sublist)
    rw [List.nodup_iff_pairwise_ne] at h0 ⊢
    rw [List.pairwise_map] at h0 ⊢
    refine h0.imp_of_mem (fun {a b} ha hb hne e => hne ?_)
    have q1 := lowB_t.1 (List.mem_filter.1 ha).2
    have q2 := lowB_t.1 (List.mem_filter.1 hb).2
    rw [Sl_eq]
    omega
  have hsub : ∀ a ∈ (L.filter (lowB port x)).map fun y => y.sl.t, a ∈ (List.range n).map fun j : Nat => (j : Int) := fun a ha => by
    obtain ⟨y, hy, rfl⟩ := List.mem_map.1 ha
    obtain ⟨h1, h2⟩ := List.mem_filter.1 hy
    have q := lowB_t.1 h2
    have h3 := (hv.on y h1).2.2.1
    obtain ⟨j, hj⟩ := Int.eq_ofNat_of_zero_le h3
    exact List.mem_map.2 ⟨j, List.mem_range.2 (by omega), hj.symm⟩
  have hlen : ∀ {l m : List Int}, l.Nodup → (∀ a ∈ l, a ∈ m) → l.length ≤ m.length := by
    intro l
    induction l with
    | nil => intro m _ _; exact Nat.zero_le _
    | cons a l ih =>
      intro m hl hm
      rw [List.nodup_cons] at hl
      obtain ⟨m1, m2, rfl⟩ := List.append_of_mem (hm a List.mem_cons_self)
      have := ih (m := m1 ++ m2) hl.2 (fun b hb => by
        have := hm b (List.mem_cons_of_mem _ hb)
        have hne : b ≠ a := fun e => hl.1 (e ▸ hb)
        rcases List.mem_append.1 this with q | q
        · exact List.mem_append_left _ q
        · rcases List.mem_cons.1 q with q | q
          · exact absurd q hne
          · exact List.mem_append_right _ q)
      simp only [List.length_append, List.length_cons] at this ⊢
      omega
  have := hlen hnd hsub
  rw [List.length_map, List.length_map, List.length_range] at this
  unfold newT
  omega
/-- all the places below are taken -/
theorem newT_all {S : Ship} {L : List Load} (hv : Inv S L) (port : Int) : ∀ (n : Nat) {x : Load}, x ∈ L → newT L port x = (n : Nat) + 1 → ∃ y ∈ L, port < y.p ∧ y.sl.b = x.sl.b ∧ y.sl.r = x.sl.r ∧ y.sl.t < x.sl.t ∧ newT L port y = (n : Nat) := by
  intro n x hx h
  -- the highest one below that stays
  have hne : (L.filter (lowB port x)) ≠ [] := fun e => by unfold newT at h; rw [e] at h; simp only [List.length_nil] at h; omega
  have hmax : ∀ l : List Load, l ≠ [] → ∃ y ∈ l, ∀ z ∈ l, z.sl.t ≤ y.sl.t := by
    intro l
    induction l with
    | nil => intro h; exact absurd rfl h
    | cons a l ih =>
      intro _
      by_cases e : l = []
      · subst e
        exact ⟨a, List.mem_cons_self, fun z hz => by rw [List.mem_singleton.1 hz]; exact Int.le_refl _⟩
      · obtain ⟨y, hy, hm⟩ := ih e
        by_cases c : a.sl.t ≤ y.sl.t
        · refine ⟨y, List.mem_cons_of_mem _ hy, fun z hz => ?_⟩
          rcases List.mem_cons.1 hz with q | q
          · rw [q]; exact c
          · exact hm z q
        · refine ⟨a, List.mem_cons_self, fun z hz => ?_⟩
          rcases List.mem_cons.1 hz with q | q
          · rw [q]; exact Int.le_refl _
          · have := hm z q; omega
  obtain ⟨y, hy, hm⟩ := hmax _ hne
  obtain ⟨hyL, hyb⟩ := List.mem_filter.1 hy
  obtain ⟨⟨q1, q2⟩, q3, q4⟩ := lowB_t.1 hyb
  refine ⟨y, hyL, q4, q1, q2, q3, ?_⟩
  have hp : (L.filter (lowB port x)).Perm (y :: L.filter (lowB port y)) := by
    have hnL := nodup_of_map hv.nS
    refine perm_mem (hnL.filter _) (List.nodup_cons.2 ⟨fun hc => ?_, hnL.filter _⟩) (fun z => ?_)
    · have := (lowB_t.1 (List.mem_filter.1 hc).2).2.1; omega
    · rw [List.mem_cons, List.mem_filter, List.mem_filter]
      constructor
      · rintro ⟨h1, h2⟩
        obtain ⟨⟨r1, r2⟩, r3, r4⟩ := lowB_t.1 h2
        have := hm z (List.mem_filter.2 ⟨h1, h2⟩)
        by_cases e : z.sl.t = y.sl.t
        · left
          have e1 := (atS_some hv.nS).2 ⟨h1, rfl⟩
          have e2 := (atS_some hv.nS (s := z.sl)).2 ⟨hyL, by rw [Sl_eq]; omega⟩
          rw [e1] at e2
          exact Option.some.inj e2
        · right
          exact ⟨h1, lowB_t.2 ⟨⟨by omega, by omega⟩, by omega, r4⟩⟩
      · rintro (rfl | ⟨h1, h2⟩)
        · exact ⟨hyL, hyb⟩
        · obtain ⟨⟨r1, r2⟩, r3, r4⟩ := lowB_t.1 h2
          exact ⟨h1, lowB_t.2 ⟨⟨by omega, by omega⟩, by omega, r4⟩⟩
  have := hp.length_eq
  rw [List.length_cons] at this
  unfold newT at h ⊢
  omega
theorem stW_map {L : List Load} {f : Load → Load} (hb : ∀ x, (f x).sl.b = x.sl.b) (hr : ∀ x, (f x).sl.r = x.sl.r) (hw : ∀ x, (f x).w = x.w) (b r : Int) : stW (L.map f) b r = stW L b r := by
  unfold stW
  rw [List.map_map]
  refine congrArg List.sum (List.map_congr_left (fun x _ => ?_))
  show (if inSt b r (f x) = true then (f x).w else 0) = _
  have : inSt b r (f x) = inSt b r x := by unfold inSt; rw [hb, hr]
  rw [this, hw]
theorem wsum_map {L : List Load} {f : Load → Load} (hw : ∀ x, (f x).w = x.w) : wsum (L.map f) = wsum L := by
  unfold wsum
  rw [List.map_map]
  exact congrArg List.sum (List.map_congr_left (fun x _ => hw x))
theorem stW_filter_le {S : Ship} {L : List Load} (hv : Inv S L) (f : Load → Bool) (b r : Int) : stW (L.filter f) b r ≤ stW L b r := by
  have h := fun x hx => (hv.ok x hx).1
  clear hv
  induction L with
  | nil => exact Int.le_refl _
  | cons x L ih =>
    have h1 := ih (fun y hy => h y (List.mem_cons_of_mem _ hy))
    have h2 := h x List.mem_cons_self
    rw [List.filter_cons, stW_cons]
    split
    · rw [stW_cons]; omega
    · split <;> omega
theorem wsum_filter_le {S : Ship} {L : List Load} (hv : Inv S L) (f : Load → Bool) : wsum (L.filter f) ≤ wsum L := by
  have h := fun x hx => (hv.ok x hx).1
  clear hv
  induction L with
  | nil => exact Int.le_refl _
  | cons x L ih =>
    have h1 := ih (fun y hy => h y (List.mem_cons_of_mem _ hy))
    have h2 := h x List.mem_cons_self
    rw [List.filter_cons, wsum_cons]
    split
    · rw [wsum_cons]; omega
    · omega
theorem left_sort {S : Ship} {L : List Load} (hv : Inv S L) (port : Int) : DSort (leftL L port) := by
  have hd := lsort_doc hv.nS
  unfold leftL DSort
  rw [List.pairwise_map]
  have h0 : ((lsort L).filter (keepB port)).Pairwise fun a b => dless a.sl b.sl = true := List.Pairwise.sublist List.filter_sublist hd.sort
  refine h0.imp_of_mem (fun {a b} ha hb h => ?_)
  obtain ⟨a1, a2⟩ := List.mem_filter.1 ha
  obtain ⟨b1, b2⟩ := List.mem_filter.1 hb
  have a1 := hd.perm.mem_iff.1 a1
  have a2 : port < a.p := by simpa [keepB] using a2
  rw [dless_t] at h
  show dless ⟨a.sl.b, a.sl.r, newT L port a⟩ ⟨b.sl.b, b.sl.r, newT L port b⟩ = true
  rw [dless_t]
  dsimp only
  rcases h with h | ⟨h1, h | ⟨h2, h⟩⟩
  · exact .inl h
  · exact .inr ⟨h1, .inl h⟩
  · exact .inr ⟨h1, .inr ⟨h2, newT_lt a1 a2 h1 h2 h⟩⟩
theorem dsort_nodup {D : List Load} (h : DSort D) : (D.map (·.sl)).Nodup := by
  rw [List.nodup_iff_pairwise_ne, List.pairwise_map]
  exact h.imp (fun {a b} h e => by rw [e, dless_irr] at h; cases h)
theorem left_inv {S : Ship} {L : List Load} (hv : Inv2 S L) (port : Int) : Inv2 S (leftL L port) := by
  have hd := lsort_doc hv.nS
  have hvD := hv.perm hd.perm.symm
  refine ⟨⟨dsort_nodup (left_sort hv.toInv port), ?_, ?_, ?_, ?_⟩, ?_, ?_, ?_, ?_⟩
  · unfold leftL
    rw [List.map_map]
    exact (hvD.nB.sublist (List.Sublist.map _ List.filter_sublist))
  · intro y hy
    obtain ⟨x, hx, _, rfl⟩ := (mem_left hv.toInv).1 hy
    have h1 := hv.on x hx
    have h2 := newT_le hv.toInv port hx
    have h3 := newT_nn L port x
    exact ⟨h1.1, h1.2.1, h3, by show newT L port x < _; omega⟩
  · intro y hy
    obtain ⟨x, hx, _, rfl⟩ := (mem_left hv.toInv).1 hy
    exact hv.ok x hx
  · intro y hy ht
    obtain ⟨x, hx, hp, rfl⟩ := (mem_left hv.toInv).1 hy
    have h3 := newT_nn L port x
    have ht : newT L port x ≠ 0 := ht
    obtain ⟨n, hn⟩ := Int.eq_ofNat_of_zero_le h3
    obtain ⟨z, hz, z1, z2, z3, z4, z5⟩ := newT_all hv.toInv port (n - 1) hx (by omega)
    refine ⟨sink L port z, (mem_left hv.toInv).2 ⟨z, hz, z1, rfl⟩, ?_, ?_⟩
    · show (⟨z.sl.b, z.sl.r, newT L port z⟩ : Sl) = ⟨x.sl.b, x.sl.r, newT L port x - 1⟩
      rw [Sl_eq]
      dsimp only
      omega
    · show x.w ≤ z.w
      exact stack_falls hv.toInv (x.sl.t - z.sl.t).toNat hx hz z2 z3 (by omega)
  · intro b r
    unfold leftL
    rw [stW_map (f := sink L port) (fun _ => rfl) (fun _ => rfl) (fun _ => rfl)]
    have := stW_filter_le hvD.toInv (keepB port) b r
    have := hvD.stk b r
    omega
  · unfold leftL
    rw [wsum_map (f := sink L port) (fun _ => rfl)]
    have := wsum_filter_le hvD.toInv (keepB port)
    have := hvD.tot
    omega
  · intro x hx y hy hn
    obtain ⟨x', hx', _, rfl⟩ := (mem_left hv.toInv).1 hx
    obtain ⟨y', hy', _, rfl⟩ := (mem_left hv.toInv).1 hy
    exact hv.apt x' hx' y' hy' hn
  · intro y hy
    obtain ⟨x, hx, _, rfl⟩ := (mem_left hv.toInv).1 hy
    exact hv.nms x hx
theorem lsort_eq {L M : List Load} (h : L.Perm M) (hn : (L.map (·.sl)).Nodup) : lsort L = lsort M := by
  have hm : (M.map (·.sl)).Nodup := (h.map _).nodup_iff.1 hn
  have d1 := lsort_doc hn
  have d2 := lsort_doc hm
  exact dsort_eq (d1.perm.trans (h.trans d2.perm.symm)) d1.sort d2.sort
theorem leftL_perm {L M : List Load} (h : L.Perm M) (hn : (L.map (·.sl)).Nodup) (port : Int) : leftL L port = leftL M port := by
  unfold leftL
  rw [lsort_eq h hn]
  refine List.map_congr_left (fun x _ => ?_)
  unfold sink
  rw [newT_perm h]
def leftN (L : List Load) : Nat → List Load
  | 0 => L
  | n + 1 => leftL (leftN L n) (n : Nat)
theorem leftN_inv {S : Ship} {L : List Load} (hv : Inv2 S L) : ∀ n, Inv2 S (leftN L n)
  | 0 => hv
  | n + 1 => left_inv (leftN_inv hv n) _
def movesS (L : List Load) : Nat → Int
  | 0 => 0
  | n + 1 => movesS L n + overD (leftN L n) (n : Nat)
theorem leftL_len {L : List Load} (hn : (L.map (·.sl)).Nodup) (port : Int) : (leftL L port).length ≤ L.length := by
  unfold leftL
  rw [List.length_map, ← (lsort_perm hn).length_eq]
  exact List.length_filter_le _ _
theorem leftN_len {S : Ship} {L : List Load} (hv : Inv2 S L) : ∀ n, (leftN L n).length ≤ L.length
  | 0 => Nat.le_refl _
  | n + 1 => Nat.le_trans (leftL_len (leftN_inv hv n).nS _) (leftN_len hv n)
theorem overD_in (L : List Load) (port : Int) : 0 ≤ overD L port ∧ overD L port ≤ (L.length : Nat) := by
  have : ∀ (M : List Load), 0 ≤ (M.map fun x => if liftD L port x = true ∧ x.p > port then (1 : Int) else 0).sum ∧ (M.map fun x => if liftD L port x = true ∧ x.p > port then (1 : Int) else 0).sum ≤ (M.length : Nat) := by
    intro M
    induction M with
    | nil => simp
    | cons a M ih =>
      rw [List.map_cons, List.sum_cons, List.length_cons]
      split <;> omega
  exact this L
theorem movesS_in {S : Ship} {L : List Load} (hv : Inv2 S L) : ∀ n : Nat, 0 ≤ movesS L n ∧ movesS L n ≤ (L.length : Int) * (n : Nat)
  | 0 => by show (0 : Int) ≤ 0 ∧ (0 : Int) ≤ (L.length : Int) * ((0 : Nat) : Int); omega
  | n + 1 => by
    have h1 := movesS_in hv n
    have h2 := overD_in (leftN L n) (n : Nat)
    have h3 := leftN_len hv n
    rw [movesS]
    have e : (L.length : Int) * ((n + 1 : Nat) : Int) = (L.length : Int) * (n : Nat) + (L.length : Nat) := by rw [Int.natCast_succ, Int.mul_add, Int.mul_one]
    rw [e]
    omega
end Go.Proofs.YtjlblnplofgpnaaGreatDoor
namespace Go.Proofs.YtjlblnplofgpnaaGreatDoor
open Go.SL
/-! ### what is planned comes off without a lift: plain -/
/-- in each stack ports fall -/
def Falls (L : List Load) : Prop := ∀ x ∈ L, ∀ y ∈ L, y.sl.b = x.sl.b → y.sl.r = x.sl.r → y.sl.t < x.sl.t → x.p ≤ y.p
/-! #### a plan hangs on no order, no slots -/
theorem inj_of_nodup {l : List Load} (hn : (l.map (·.box)).Nodup) : ∀ x ∈ l, ∀ y ∈ l, x.box = y.box → x = y := by
  intro x hx y hy e
  have h1 := (byB_some hn).2 ⟨hx, rfl⟩
  have h2 := (byB_some hn (n := x.box)).2 ⟨hy, e.symm⟩
  rw [h1] at h2
  exact Option.some.inj h2
end Go.Proofs.YtjlblnplofgpnaaGreatDoor
namespace Go.Proofs.YtjlblnplofgpnaaGreatDoor
open Go.SL
/-! ### a ship that is turned round: plain -/
def mirI (n : Int) (f : Bool) (i : Int) : Int := if f = true then n - 1 - i else i
def mir (S : Ship) (e s : Bool) (x : Load) : Load := atL x ⟨mirI S.bays e x.sl.b, mirI S.rows s x.sl.r, x.sl.t⟩
theorem mirI_inj {n : Int} {f : Bool} {i j : Int} : mirI n f i = mirI n f j ↔ i = j := by
  unfold mirI
  split <;> omega
theorem mirI_two (n : Int) (f : Bool) (i : Int) : mirI n f (mirI n f i) = i := by
  unfold mirI
  split <;> omega
theorem mirI_in {n : Int} {f : Bool} {i : Int} (h : 0 ≤ i ∧ i < n) : 0 ≤ mirI n f i ∧ mirI n f i < n := by
  unfold mirI
  split <;> omega
section
variable {S : Ship} {e s : Bool}
theorem mir_near (x y : Load) : nearB (mir S e s x).sl (mir S e s y).sl = nearB x.sl y.sl := by
  have h : ∀ (n : Int) (f : Bool) (i j : Int), (mirI n f i - mirI n f j) * (mirI n f i - mirI n f j) = (i - j) * (i - j) := by
    intro n f i j
    unfold mirI
    split
    · rw [show n - 1 - i - (n - 1 - j) = -(i - j) by omega, Int.neg_mul_neg]
    · rfl
  unfold nearB
  show decide ((mirI S.bays e x.sl.b - mirI S.bays e y.sl.b) * (mirI S.bays e x.sl.b - mirI S.bays e y.sl.b) + (mirI S.rows s x.sl.r - mirI S.rows s y.sl.r) * (mirI S.rows s x.sl.r - mirI S.rows s y.sl.r) ≤ 1) = _
  rw [h, h]
theorem mir_inSt (x y : Load) : inSt (mir S e s x).sl.b (mir S e s x).sl.r (mir S e s y) = inSt x.sl.b x.sl.r y := by
  rw [Bool.eq_iff_iff, inSt_iff, inSt_iff]
  exact ⟨fun h => ⟨mirI_inj.1 h.1, mirI_inj.1 h.2⟩, fun h => ⟨mirI_inj.2 h.1, mirI_inj.2 h.2⟩⟩
theorem mir_stW (L : List Load) (b r : Int) : stW (L.map (mir S e s)) b r = stW L (mirI S.bays e b) (mirI S.rows s r) := by
  unfold stW
  rw [List.map_map]
  refine congrArg List.sum (List.map_congr_left (fun x _ => ?_))
  show (if inSt b r (mir S e s x) = true then x.w else 0) = _
  have : inSt b r (mir S e s x) = inSt (mirI S.bays e b) (mirI S.rows s r) x := by
    rw [Bool.eq_iff_iff, inSt_iff, inSt_iff]
    constructor
    · rintro ⟨h1, h2⟩
      have h1 : mirI S.bays e x.sl.b = b := h1
      have h2 : mirI S.rows s x.sl.r = r := h2
      rw [← h1, ← h2, mirI_two, mirI_two]
      exact ⟨rfl, rfl⟩
    · rintro ⟨h1, h2⟩
      show mirI S.bays e x.sl.b = b ∧ mirI S.rows s x.sl.r = r
      rw [h1, h2, mirI_two, mirI_two]
      exact ⟨rfl, rfl⟩
  rw [this]
theorem mir_inv {L : List Load} (hv : Inv2 S L) : Inv2 S (L.map (mir S e s)) := by
  refine ⟨⟨?_, ?_, ?_, ?_, ?_⟩, ?_, ?_, ?_, ?_⟩
  · have h0 := hv.nS
    rw [List.nodup_iff_pairwise_ne] at h0 ⊢
    rw [List.map_map]
    rw [List.pairwise_map] at h0 ⊢
    refine h0.imp (fun {x y} h q => h ?_)
    have q : (⟨mirI S.bays e x.sl.b, mirI S.rows s x.sl.r, x.sl.t⟩ : Sl) = ⟨mirI S.bays e y.sl.b, mirI S.rows s y.sl.r, y.sl.t⟩ := q
    rw [Sl_eq] at q ⊢
    dsimp only at q
    exact ⟨mirI_inj.1 q.1, mirI_inj.1 q.2.1, q.2.2⟩
  · rw [List.map_map]; exact hv.nB
  · intro y hy
    obtain ⟨x, hx, rfl⟩ := List.mem_map.1 hy
    have h := hv.on x hx
    exact ⟨mirI_in h.1, mirI_in h.2.1, h.2.2⟩
  · intro y hy
    obtain ⟨x, hx, rfl⟩ := List.mem_map.1 hy
    exact hv.ok x hx
  · intro y hy ht
    obtain ⟨x, hx, rfl⟩ := List.mem_map.1 hy
    obtain ⟨z, hz, e1, e2⟩ := hv.sup x hx ht
    refine ⟨mir S e s z, List.mem_map.2 ⟨z, hz, rfl⟩, ?_, e2⟩
    show (⟨mirI S.bays e z.sl.b, mirI S.rows s z.sl.r, z.sl.t⟩ : Sl) = ⟨mirI S.bays e x.sl.b, mirI S.rows s x.sl.r, x.sl.t - 1⟩
    rw [e1]
  · intro b r
    rw [mir_stW]
    exact hv.stk _ _
  · rw [wsum_map (f := mir S e s) (fun _ => rfl)]
    exact hv.tot
  · intro x hx y hy hn
    obtain ⟨x', hx', rfl⟩ := List.mem_map.1 hx
    obtain ⟨y', hy', rfl⟩ := List.mem_map.1 hy
    rw [mir_near] at hn
    exact hv.apt x' hx' y' hy' hn
  · intro y hy
    obtain ⟨x, hx, rfl⟩ := List.mem_map.1 hy
    exact hv.nms x hx
theorem mir_two (x : Load) : mir S e s (mir S e s x) = x := by
  unfold mir atL
  cases x with
  | mk sl box w c p =>
    cases sl with
    | mk b r t =>
      simp only [mirI_two]
theorem mir_map_two (L : List Load) : (L.map (mir S e s)).map (mir S e s) = L := by
  rw [List.map_map]
  have : (mir S e s ∘ mir S e s) = id := funext fun x => mir_two x
  rw [this, List.map_id]
theorem mir_inv_iff {L : List Load} : Inv2 S (L.map (mir S e s)) ↔ Inv2 S L :=
  ⟨fun h => by have := mir_inv (e := e) (s := s) h; rwa [mir_map_two] at this, mir_inv⟩
theorem sum_neg {f : Load → Int} : ∀ L : List Load, (L.map fun x => -(f x)).sum = -((L.map f).sum)
  | [] => rfl
  | x :: L => by
    rw [List.map_cons, List.map_cons, List.sum_cons, List.sum_cons, sum_neg L]
    omega
theorem maxI_neg (a : Int) : maxI (-a) (-(-a)) = maxI a (-a) := by unfold maxI; split <;> split <;> omega
theorem mir_sLong (L : List Load) : maxI (sLong S (L.map (mir S e s))) (-(sLong S (L.map (mir S e s)))) = maxI (sLong S L) (-(sLong S L)) := by
  have : sLong S (L.map (mir S e s)) = if e = true then -(sLong S L) else sLong S L := by
    unfold sLong
    rw [List.map_map]
    cases e with
    | true =>
      rw [if_pos rfl, ← sum_neg]
      refine congrArg List.sum (List.map_congr_left (fun x _ => ?_))
      show x.w * (2 * (S.bays - 1 - x.sl.b) - S.bays + 1) = -(x.w * (2 * x.sl.b - S.bays + 1))
      rw [← Int.mul_neg]
      congr 1
      omega
    | false => rfl
  rw [this]
  split
  · exact maxI_neg _
  · rfl
theorem mir_sCross (L : List Load) : maxI (sCross S (L.map (mir S e s))) (-(sCross S (L.map (mir S e s)))) = maxI (sCross S L) (-(sCross S L)) := by
  have : sCross S (L.map (mir S e s)) = if s = true then -(sCross S L) else sCross S L := by
    unfold sCross
    rw [List.map_map]
    cases s with
    | true =>
      rw [if_pos rfl, ← sum_neg]
      refine congrArg List.sum (List.map_congr_left (fun x _ => ?_))
      show x.w * (2 * (S.rows - 1 - x.sl.r) - S.rows + 1) = -(x.w * (2 * x.sl.r - S.rows + 1))
      rw [← Int.mul_neg]
      congr 1
      omega
    | false => rfl
  rw [this]
  split
  · exact maxI_neg _
  · rfl
theorem mir_sUp (L : List Load) : sUp (L.map (mir S e s)) = sUp L := by
  unfold sUp
  rw [List.map_map]
  rfl
theorem mir_safe {L : List Load} (hv : Inv2 S L) (hS : shipOk S = true) (hl : L.length ≤ 4096) : safeE S (L.map (mir S e s)) = safeE S L := by
  unfold safeE
  rw [fit_inv hv hS hl, fit_inv (mir_inv hv) hS (by rw [List.length_map]; exact hl), if_neg (by decide), if_neg (by decide)]
  unfold sfE
  rw [mir_sLong, mir_sCross, mir_sUp, wsum_map (f := mir S e s) (fun _ => rfl)]
theorem rightE_iff {l : List Load} : rightE S l = 0 ↔ (shipOk S = true ∧ Inv2 S l) ∧ safeE S l = 0 := by
  unfold rightE
  rw [← standE_iff]
  split
  · rename_i h; simp [h]
  · rename_i h; simp [h]
theorem mir_right {l : List Load} (hl : l.length ≤ 4096) : rightE S (l.map (mir S e s)) = 0 ↔ rightE S l = 0 := by
  rw [rightE_iff, rightE_iff, mir_inv_iff]
  constructor
  · rintro ⟨⟨h1, h2⟩, h3⟩
    rw [mir_safe h2 h1 hl] at h3
    exact ⟨⟨h1, h2⟩, h3⟩
  · rintro ⟨⟨h1, h2⟩, h3⟩
    rw [mir_safe h2 h1 hl]
    exact ⟨⟨h1, h2⟩, h3⟩
theorem mir_lift (L : List Load) (port : Int) (x : Load) : liftD (L.map (mir S e s)) port (mir S e s x) = liftD L port x := by
  unfold liftD
  rw [List.any_map]
  refine congrArg (fun f => L.any f) (funext fun y => ?_)
  show decide (mirI S.bays e x.sl.b = mirI S.bays e y.sl.b ∧ mirI S.rows s x.sl.r = mirI S.rows s y.sl.r ∧ y.sl.t < x.sl.t ∧ y.p ≤ port) = _
  rw [decide_eq_decide, mirI_inj, mirI_inj]
theorem mir_over (L : List Load) (port : Int) : overD (L.map (mir S e s)) port = overD L port := by
  unfold overD
  rw [List.map_map]
  refine congrArg List.sum (List.map_congr_left (fun x _ => ?_))
  show (if liftD (L.map (mir S e s)) port (mir S e s x) = true ∧ x.p > port then (1 : Int) else 0) = _
  rw [mir_lift]
theorem mir_newT (L : List Load) (port : Int) (x : Load) : newT (L.map (mir S e s)) port (mir S e s x) = newT L port x := by
  unfold newT
  rw [List.filter_map, List.length_map]
  refine congrArg (fun f => (((L.filter f).length : Nat) : Int)) (funext fun y => ?_)
  show (inSt (mir S e s x).sl.b (mir S e s x).sl.r (mir S e s y) && _) = _
  rw [mir_inSt]
  rfl
theorem left_permG {L : List Load} (hn : (L.map (·.sl)).Nodup) (port : Int) : (leftL L port).Perm ((L.filter (keepB port)).map (sink L port)) := ((lsort_perm hn).filter _).map _
theorem mir_left {L : List Load} (hv : Inv2 S L) (port : Int) : (leftL (L.map (mir S e s)) port).Perm ((leftL L port).map (mir S e s)) := by
  refine (left_permG (mir_inv hv).nS port).trans (List.Perm.trans ?_ ((left_permG hv.nS port).map _).symm)
  rw [List.filter_map, List.map_map, List.map_map]
  have : (keepB port ∘ mir S e s) = keepB port := rfl
  rw [this]
  have : (sink (L.map (mir S e s)) port ∘ mir S e s) = (mir S e s ∘ sink L port) := funext fun x => by
    show atL (mir S e s x) ⟨_, _, newT (L.map (mir S e s)) port (mir S e s x)⟩ = _
    rw [mir_newT]
    rfl
  rw [this]
theorem mir_leftN {L : List Load} (hv : Inv2 S L) : ∀ n : Nat, (leftN (L.map (mir S e s)) n).Perm ((leftN L n).map (mir S e s))
  | 0 => List.Perm.refl _
  | n + 1 => by
    have ih := mir_leftN hv n
    have h1 := (leftN_inv (mir_inv (e := e) (s := s) hv) n).nS
    rw [leftN, leftN, leftL_perm ih h1]
    exact mir_left (leftN_inv hv n) _
theorem mir_moves {L : List Load} (hv : Inv2 S L) : ∀ n : Nat, movesS (L.map (mir S e s)) n = movesS L n
  | 0 => rfl
  | n + 1 => by
    rw [movesS, movesS, mir_moves hv n, overD_perm (mir_leftN hv n), mir_over]
end
end Go.Proofs.YtjlblnplofgpnaaGreatDoor
namespace Go.Proofs.YtjlblnplofgpnaaGreatDoor
open Go.SL
/-! ### the checker's order: plain -/
end Go.Proofs.YtjlblnplofgpnaaGreatDoor
