import Derived.Test.YtnalpielhpmnfaaRL
namespace Go.Proofs.Ytnalpielhpmnfaa
open Go.SL
/-! ### the document's codes and rows: plain -/
theorem lts_le_lt {a b c : ByteArray} (h : lts b a = false) (k : lts b c = true) : lts a c = true := by
  cases hq : lts a c with
  | true => rfl
  | false => rw [lts_ntrans h hq] at k; cases k
def SS (l : List ByteArray) : Prop := l.Pairwise fun a b => lts a b = true
theorem SS.weak {l : List ByteArray} (h : SS l) : l.Pairwise fun a b => lts b a = false := List.Pairwise.imp (fun h => lts_asymm h) h
def putF (s : ByteArray) (st : List ByteArray × Bool) (x : ByteArray) : List ByteArray × Bool :=
  match st.2, lts x s with
  | false, false => if x = s then (st.1 ++ [s], true) else (st.1 ++ [s] ++ [x], true)
  | d, _ => if x = s then st else (st.1 ++ [x], d)
theorem putF_done (s : ByteArray) (r : List ByteArray) (x : ByteArray) : putF s (r, true) x = if x = s then (r, true) else (r ++ [x], true) := by unfold putF; cases lts x s <;> rfl
def putG (l : List ByteArray) (s : ByteArray) : List ByteArray × Bool := l.foldl (putF s) ([], false)
theorem putG_snoc (l : List ByteArray) (s x : ByteArray) : putG (l ++ [x]) s = putF s (putG l s) x := by unfold putG; rw [List.foldl_append]; rfl
def putS (l : List ByteArray) (s : ByteArray) : List ByteArray := if (putG l s).2 = true then (putG l s).1 else (putG l s).1 ++ [s]
theorem putG_len (l : List ByteArray) (s : ByteArray) : (putG l s).1.length + (if (putG l s).2 = true then 0 else 1) ≤ l.length + 1 := by
  refine list_snocR (C := fun l => (putG l s).1.length + (if (putG l s).2 = true then 0 else 1) ≤ l.length + 1) l (by simp [putG]) (fun l x ih => ?_)
  rw [putG_snoc, List.length_append]
  unfold putF
  generalize putG l s = r at *
  obtain ⟨r1, r2⟩ := r
  cases r2 <;> cases lts x s <;> by_cases he : x = s <;> simp [he] at ih ⊢ <;> omega
theorem putS_len (l : List ByteArray) (s : ByteArray) : (putS l s).length ≤ l.length + 1 := by
  have := putG_len l s
  unfold putS
  split at this <;> rename_i h
  · rw [if_pos h]; omega
  · rw [if_neg h, List.length_append]; simpa using this
theorem putG_spec (s : ByteArray) (l : List ByteArray) : SS l → ((putG l s).2 = false → (putG l s).1 = l ∧ ∀ x ∈ l, lts x s = true) ∧ ((putG l s).2 = true → SS (putG l s).1 ∧ (∀ x, x ∈ (putG l s).1 ↔ x = s ∨ x ∈ l) ∧ ∃ y ∈ l, lts y s = false) := by
  refine list_snocR (C := fun l => SS l → ((putG l s).2 = false → (putG l s).1 = l ∧ ∀ x ∈ l, lts x s = true) ∧ ((putG l s).2 = true → SS (putG l s).1 ∧ (∀ x, x ∈ (putG l s).1 ↔ x = s ∨ x ∈ l) ∧ ∃ y ∈ l, lts y s = false)) l (fun _ => ⟨fun _ => ⟨rfl, fun x hx => by cases hx⟩, fun h => by cases h⟩) (fun l x ih hs => ?_)
  unfold SS at hs
  rw [List.pairwise_append] at hs
  obtain ⟨hl, _, hx⟩ := hs
  replace hx : ∀ y ∈ l, lts y x = true := fun y hy => hx y hy x (by simp)
  obtain ⟨i1, i2⟩ := ih hl
  rw [putG_snoc]
  generalize putG l s = r at *
  obtain ⟨r1, r2⟩ := r
  dsimp only at i1 i2 ⊢
  cases r2 with
  | false =>
    obtain ⟨rfl, h1⟩ := i1 rfl
    clear i1 i2 ih
    unfold putF
    cases hc : lts x s with
    | false =>
      try dsimp only
      have hsl : SS (r1 ++ [s]) := by
        unfold SS
        rw [List.pairwise_append]
        exact ⟨hl, by simp, fun a ha b hb => by rw [List.mem_singleton.1 hb]; exact h1 a ha⟩
      by_cases he : x = s
      · subst he
        rw [if_pos rfl]
        refine ⟨fun h => (by cases h), fun _ => ⟨hsl, fun z => ?_, x, by simp, hc⟩⟩
        simp only [List.mem_append, List.mem_singleton]
        constructor
        · rintro (h | h)
          · exact .inr (.inl h)
          · exact .inl h
        · rintro (h | h | h)
          · exact .inr h
          · exact .inl h
          · exact .inr h
      · rw [if_neg he]
        refine ⟨fun h => (by cases h), fun _ => ⟨?_, fun z => ?_, x, by simp, hc⟩⟩
        · have hsx : lts s x = true := by
            cases hq : lts s x with
            | true => rfl
            | false => exact absurd (lts_tri hc hq) he
          unfold SS at hsl ⊢
          try dsimp only
          rw [List.pairwise_append]
          refine ⟨hsl, by simp, fun a ha b hb => ?_⟩
          rw [List.mem_singleton.1 hb]
          rcases List.mem_append.1 ha with q | q
          · exact hx a q
          · rw [List.mem_singleton.1 q]; exact hsx
        · simp only [List.mem_append, List.mem_singleton]
          constructor
          · rintro ((h | h) | h)
            · exact .inr (.inl h)
            · exact .inl h
            · exact .inr (.inr h)
          · rintro (h | h | h)
            · exact .inl (.inr h)
            · exact .inl (.inl h)
            · exact .inr h
    | true =>
      have hne : x ≠ s := fun e => by rw [e, lts_irrefl] at hc; cases hc
      try dsimp only
      rw [if_neg hne]
      refine ⟨fun _ => ⟨rfl, fun z hz => ?_⟩, fun h => by cases h⟩
      rcases List.mem_append.1 hz with q | q
      · exact h1 z q
      · rw [List.mem_singleton.1 q]; exact hc
  | true =>
    obtain ⟨h1, h2, y, hy, h3⟩ := i2 rfl
    clear i1 i2 ih
    rw [putF_done]
    by_cases he : x = s
    · subst he
      rw [if_pos rfl]
      refine ⟨fun h => (by cases h), fun _ => ⟨h1, fun z => ?_, y, List.mem_append_left _ hy, h3⟩⟩
      rw [h2 z]
      simp only [List.mem_append, List.mem_singleton]
      constructor
      · rintro (h | h)
        · exact .inl h
        · exact .inr (.inl h)
      · rintro (h | h | h)
        · exact .inl h
        · exact .inr h
        · exact .inl h
    · rw [if_neg he]
      refine ⟨fun h => (by cases h), fun _ => ⟨?_, fun z => ?_, y, List.mem_append_left _ hy, h3⟩⟩
      · unfold SS at h1 ⊢
        try dsimp only
        rw [List.pairwise_append]
        refine ⟨h1, by simp, fun a ha b hb => ?_⟩
        rw [List.mem_singleton.1 hb]
        rcases (h2 a).1 ha with q | q
        · rw [q]; exact lts_le_lt h3 (hx y hy)
        · exact hx a q
      · simp only [List.mem_append, List.mem_singleton]
        rw [h2 z]
        constructor
        · rintro ((h | h) | h)
          · exact .inl h
          · exact .inr (.inl h)
          · exact .inr (.inr h)
        · rintro (h | h | h)
          · exact .inl (.inl h)
          · exact .inl (.inr h)
          · exact .inr h
theorem putS_spec {l : List ByteArray} (h : SS l) (s : ByteArray) : SS (putS l s) ∧ ∀ x, x ∈ putS l s ↔ x = s ∨ x ∈ l := by
  obtain ⟨h1, h2⟩ := putG_spec s l h
  unfold putS
  by_cases hd : (putG l s).2 = true
  · rw [if_pos hd]
    obtain ⟨a, b, _⟩ := h2 hd
    exact ⟨a, b⟩
  · rw [if_neg hd]
    obtain ⟨a, b⟩ := h1 (by simpa using hd)
    rw [a]
    refine ⟨?_, fun x => ?_⟩
    · unfold SS at h ⊢
      rw [List.pairwise_append]
      exact ⟨h, by simp, fun x hx y hy => by rw [List.mem_singleton.1 hy]; exact b x hx⟩
    · rw [List.mem_append, List.mem_singleton]
      exact Or.comm
def codesR (l : List RP) : List ByteArray := l.foldl (fun c x => putS (putS c x.1.1) x.1.2.1) []
theorem codesR_snoc (l : List RP) (x : RP) : codesR (l ++ [x]) = putS (putS (codesR l) x.1.1) x.1.2.1 := by unfold codesR; rw [List.foldl_append]; rfl
theorem codesR_spec (l : List RP) : SS (codesR l) ∧ ∀ a, a ∈ codesR l ↔ ∃ x ∈ l, x.1.1 = a ∨ x.1.2.1 = a := by
  refine list_snocR (C := fun l => SS (codesR l) ∧ ∀ a, a ∈ codesR l ↔ ∃ x ∈ l, x.1.1 = a ∨ x.1.2.1 = a) l ⟨List.Pairwise.nil, fun a => ⟨fun h => (by cases h), fun ⟨x, hx, _⟩ => (by cases hx)⟩⟩ (fun l x ih => ?_)
  obtain ⟨i1, i2⟩ := ih
  rw [codesR_snoc]
  obtain ⟨j1, j2⟩ := putS_spec i1 x.1.1
  obtain ⟨k1, k2⟩ := putS_spec j1 x.1.2.1
  refine ⟨k1, fun a => ?_⟩
  rw [k2, j2, i2]
  constructor
  · rintro (h | h | ⟨y, hy, h⟩)
    · exact ⟨x, by simp, .inr h.symm⟩
    · exact ⟨x, by simp, .inl h.symm⟩
    · exact ⟨y, List.mem_append_left _ hy, h⟩
  · rintro ⟨y, hy, h⟩
    rcases List.mem_append.1 hy with q | q
    · exact .inr (.inr ⟨y, q, h⟩)
    · rw [List.mem_singleton.1 q] at h
      rcases h with h | h
      · exact .inr (.inl h.symm)
      · exact .inl h.symm
theorem codesR_len (l : List RP) : (codesR l).length ≤ 2 * l.length := by
  refine list_snocR (C := fun l => (codesR l).length ≤ 2 * l.length) l (by simp [codesR]) (fun l x ih => ?_)
  rw [codesR_snoc, List.length_append]
  have h1 := putS_len (codesR l) x.1.1
  have h2 := putS_len (putS (codesR l) x.1.1) x.1.2.1
  simp only [List.length_cons, List.length_nil]
  omega
/-- the first of rising rows -/
theorem findS_least {β : Type} {L : List ByteArray} (hL : L.Pairwise fun a b => lts b a = false) {g : ByteArray → Option β} {b : β} (h : L.findSome? g = some b) : ∃ x ∈ L, g x = some b ∧ ∀ y ∈ L, ∀ c, g y = some c → lts y x = false := by
  obtain ⟨l1, x, l2, rfl, h1, h2⟩ := List.findSome?_eq_some_iff.1 h
  refine ⟨x, by simp, h1, fun y hy c hc => ?_⟩
  rw [List.pairwise_append, List.pairwise_cons] at hL
  rcases List.mem_append.1 hy with q | q
  · rw [h2 y q] at hc; cases hc
  · rcases List.mem_cons.1 q with q | q
    · rw [q]; exact lts_irrefl x
    · exact hL.2.1.1 y q
theorem findS_same {β : Type} {L M : List ByteArray} (hL : L.Pairwise fun a b => lts b a = false) (hM : M.Pairwise fun a b => lts b a = false) {g h : ByteArray → Option β} (h1 : ∀ x b, x ∈ L → g x = some b → x ∈ M ∧ h x = some b) (h2 : ∀ x b, x ∈ M → h x = some b → x ∈ L ∧ g x = some b) : L.findSome? g = M.findSome? h := by
  cases ha : L.findSome? g with
  | none =>
    cases hb : M.findSome? h with
    | none => rfl
    | some b =>
      obtain ⟨x, hx, hg⟩ := List.exists_of_findSome?_eq_some hb
      obtain ⟨hx', hg'⟩ := h2 x b hx hg
      rw [List.findSome?_eq_none_iff.1 ha x hx'] at hg'
      cases hg'
  | some a =>
    obtain ⟨x, hx, hg, hm⟩ := findS_least hL ha
    obtain ⟨hx', hg'⟩ := h1 x a hx hg
    cases hb : M.findSome? h with
    | none =>
      rw [List.findSome?_eq_none_iff.1 hb x hx'] at hg'
      cases hg'
    | some b =>
      obtain ⟨y, hy, hh, hn⟩ := findS_least hM hb
      obtain ⟨hy', hh'⟩ := h2 y b hy hh
      have e : x = y := lts_tri (hn x hx' a hg') (hm y hy' b hh')
      rw [e, hh'] at hg
      exact hg.symm
theorem findS_find {α β : Type} {p : α → Bool} {f : α → β} : ∀ L : List α, (L.find? p).map f = L.findSome? fun a => if p a = true then some (f a) else none
  | [] => rfl
  | a :: L => by
    rw [List.find?_cons, List.findSome?_cons]
    cases h : p a with
    | true => simp
    | false => simpa using findS_find L
def okB (l : List RP) (day : Int) : List ByteArray → Bool
  | a :: b :: r => hasL l day a b && okB l day (b :: r)
  | _ => true
theorem okB_t {l : List RP} {day : Int} : ∀ {row : List ByteArray}, okB l day row = true ↔ okRow l day row
  | [] => ⟨fun _ k x y hx _ => (by cases hx), fun _ => rfl⟩
  | [a] => ⟨fun _ k x y _ hy => (by cases hy), fun _ => rfl⟩
  | a :: b :: r => by
    rw [okB, Bool.and_eq_true, okB_t]
    constructor
    · rintro ⟨h1, h2⟩
      exact okRow_cons h1 h2
    · intro h
      exact ⟨h 0 a b rfl rfl, fun k x y hx hy => h (k + 1) x y hx hy⟩
def r2 (f t a : ByteArray) : List (List ByteArray) := if a ≠ f ∧ a ≠ t then [[f, a, t]] else []
def r3 (f t a b : ByteArray) : List (List ByteArray) := if a ≠ f ∧ a ≠ t ∧ b ≠ f ∧ b ≠ t ∧ a ≠ b then [[f, a, b, t]] else []
def rowsC (C : List ByteArray) (f t : ByteArray) : List (List ByteArray) := [[f, t]] ++ C.flatMap (r2 f t) ++ C.flatMap fun a => C.flatMap (r3 f t a)
theorem hasL_code {l : List RP} {day : Int} {a b : ByteArray} (h : hasL l day a b = true) : a ∈ codesR l ∧ b ∈ codesR l := by
  obtain ⟨_, hm⟩ := codesR_spec l
  rw [hm, hm]
  unfold hasL linkR at h
  split at h
  · rename_i x hx
    obtain ⟨h1, h2, _⟩ := (lat_spec _ _ _).2 x hx
    obtain ⟨h3, h4, _⟩ := fitR_t.1 h2
    exact ⟨⟨x, h1, .inl h3⟩, ⟨x, h1, .inr h4⟩⟩
  · split at h
    · rename_i x hx
      obtain ⟨h1, h2, _⟩ := (lat_spec _ _ _).2 x hx
      obtain ⟨h3, h4, _⟩ := fitR_t.1 h2
      exact ⟨⟨x, h1, .inr h4⟩, ⟨x, h1, .inl h3⟩⟩
    · cases h
theorem hasL_ne {l : List RP} (hi : RInv l) {day : Int} {a b : ByteArray} (h : hasL l day a b = true) : a ≠ b := fun e => by rw [e, hasL_irr hi] at h; cases h
theorem nb_has {l : List RP} {day : Int} {a b : ByteArray} : b ∈ nb l day a ↔ hasL l day a b = true := mem_nb
theorem nb_sorted (l : List RP) (day : Int) (a : ByteArray) : (nb l day a).Pairwise fun x y => lts y x = false := sortS_sorted _
theorem f2 {l : List RP} {day : Int} {f t a : ByteArray} : (r2 f t a).find? (okB l day) = if a ≠ f ∧ a ≠ t ∧ hasL l day f a = true ∧ hasL l day a t = true then some [f, a, t] else none := by
  unfold r2
  by_cases h : a ≠ f ∧ a ≠ t
  · rw [if_pos h]
    by_cases h2 : hasL l day f a = true ∧ hasL l day a t = true
    · rw [if_pos ⟨h.1, h.2, h2⟩]
      simp [okB, h2]
    · rw [if_neg (fun q => h2 q.2.2)]
      simp only [List.find?_cons, List.find?_nil, okB, Bool.and_true]
      cases h3 : hasL l day f a <;> cases h4 : hasL l day a t <;> simp_all
  · rw [if_neg h, if_neg (fun q => h ⟨q.1, q.2.1⟩)]
    rfl
theorem f3 {l : List RP} {day : Int} {f t a b : ByteArray} : (r3 f t a b).find? (okB l day) = if (a ≠ f ∧ a ≠ t ∧ b ≠ f ∧ b ≠ t ∧ a ≠ b) ∧ hasL l day f a = true ∧ hasL l day a b = true ∧ hasL l day b t = true then some [f, a, b, t] else none := by
  unfold r3
  by_cases h : a ≠ f ∧ a ≠ t ∧ b ≠ f ∧ b ≠ t ∧ a ≠ b
  · rw [if_pos h]
    by_cases h2 : hasL l day f a = true ∧ hasL l day a b = true ∧ hasL l day b t = true
    · rw [if_pos ⟨h, h2⟩]
      simp [okB, h2]
    · rw [if_neg (fun q => h2 q.2)]
      simp only [List.find?_cons, List.find?_nil, okB, Bool.and_true]
      cases h3 : hasL l day f a <;> cases h4 : hasL l day a b <;> cases h5 : hasL l day b t <;> simp_all
  · rw [if_neg h, if_neg (fun q => h q.1)]
    rfl
theorem ite_some {α : Type} {p : Prop} [Decidable p] {x b : α} (h : (if p then some x else none) = some b) : p ∧ x = b := by
  split at h
  · rename_i hp; cases h; exact ⟨hp, rfl⟩
  · cases h
/-- the first of the shortest rows is the document's -/
theorem rowP_doc {l : List RP} (hi : RInv l) (day : Int) {f t : ByteArray} (hne : f ≠ t) : rowP l day f t = ((rowsC (codesR l) f t).find? (okB l day)).getD [] := by
  obtain ⟨hs, _⟩ := codesR_spec l
  unfold rowP rowsC
  rw [if_neg hne, List.find?_append, List.find?_append, List.find?_flatMap, List.find?_flatMap]
  cases hd : hasL l day f t with
  | true =>
    have e : [[f, t]].find? (okB l day) = some [f, t] := by simp [okB, hd]
    rw [e]
    rfl
  | false =>
    have e : [[f, t]].find? (okB l day) = none := by simp [okB, hd]
    rw [e, Option.none_or]
    simp only [Bool.false_eq_true, if_false]
    have e2 : (codesR l).findSome? (fun a => (r2 f t a).find? (okB l day)) = ((nb l day f).find? (fun a => hasL l day a t)).map fun a => [f, a, t] := by
      rw [findS_find]
      refine findS_same hs.weak (nb_sorted l day f) (fun x b _ h => ?_) (fun x b hx h => ?_)
      · try dsimp only at h
        rw [f2] at h
        obtain ⟨⟨_, _, h3, h4⟩, rfl⟩ := ite_some h
        exact ⟨nb_has.2 h3, if_pos h4⟩
      · obtain ⟨h4, rfl⟩ := ite_some h
        have h3 := nb_has.1 hx
        refine ⟨(hasL_code h3).2, ?_⟩
        try dsimp only
        rw [f2]
        exact if_pos ⟨(hasL_ne hi h3).symm, hasL_ne hi h4, h3, h4⟩
    rw [e2]
    cases hq : (nb l day f).find? (fun a => hasL l day a t) with
    | some a => rfl
    | none =>
      rw [Option.map_none, Option.none_or]
      try dsimp only
      have e3 : (codesR l).findSome? (fun a => ((codesR l).flatMap (r3 f t a)).find? (okB l day)) = (nb l day f).findSome? fun a => ((nb l day a).find? fun b => !(decide (b = f)) && hasL l day b t).map fun b => [f, a, b, t] := by
        have hin : ∀ a, hasL l day f a = true → ((codesR l).flatMap (r3 f t a)).find? (okB l day) = ((nb l day a).find? fun b => !(decide (b = f)) && hasL l day b t).map fun b => [f, a, b, t] := fun a ha => by
          have hat : a ≠ t := fun e => by rw [e, hd] at ha; cases ha
          rw [List.find?_flatMap, findS_find]
          refine findS_same hs.weak (nb_sorted l day a) (fun x b _ h => ?_) (fun x b hx h => ?_)
          · try dsimp only at h
            rw [f3] at h
            obtain ⟨⟨⟨_, _, g1, _, _⟩, _, h3, h4⟩, rfl⟩ := ite_some h
            exact ⟨nb_has.2 h3, if_pos (by simp [g1, h4])⟩
          · obtain ⟨h4, rfl⟩ := ite_some h
            simp only [Bool.and_eq_true, Bool.not_eq_true', decide_eq_false_iff_not] at h4
            have h3 := nb_has.1 hx
            refine ⟨(hasL_code h3).2, ?_⟩
            try dsimp only
            rw [f3]
            exact if_pos ⟨⟨(hasL_ne hi ha).symm, hat, h4.1, hasL_ne hi h4.2, hasL_ne hi h3⟩, ha, h3, h4.2⟩
        refine findS_same hs.weak (nb_sorted l day f) (fun x b _ h => ?_) (fun x b hx h => ?_)
        · try dsimp only at h
          have hx : hasL l day f x = true := by
            rw [List.find?_flatMap] at h
            obtain ⟨y, _, hy⟩ := List.exists_of_findSome?_eq_some h
            rw [f3] at hy
            exact (ite_some hy).1.2.1
          rw [hin x hx] at h
          exact ⟨nb_has.2 hx, h⟩
        · try dsimp only at h ⊢
          have hx' := nb_has.1 hx
          exact ⟨(hasL_code hx').2, by rw [hin x hx']; exact h⟩
      rw [e3]
      cases (nb l day f).findSome? (fun a => ((nb l day a).find? fun b => !(decide (b = f)) && hasL l day b t).map fun b => [f, a, b, t]) <;> rfl
theorem gcd_prod {n1 d1 n2 d2 : Nat} (c1 : Nat.gcd n1 d1 = 1) (c2 : Nat.gcd n2 d2 = 1) (h1 : 0 < d1) (h2 : 0 < d2) :
    rdc (n1 * n2) (d1 * d2) = (((n1 / Nat.gcd n1 d2 * (n2 / Nat.gcd n2 d1) : Nat) : Int), ((d2 / Nat.gcd n1 d2 * (d1 / Nat.gcd n2 d1) : Nat) : Int)) := by
  have p1 : 0 < Nat.gcd n1 d2 := Nat.gcd_pos_of_pos_right _ h2
  have p2 : 0 < Nat.gcd n2 d1 := Nat.gcd_pos_of_pos_right _ h1
  have q1 : Nat.Coprime (n1 / Nat.gcd n1 d2) (d2 / Nat.gcd n1 d2) := Nat.coprime_div_gcd_div_gcd p1
  have q2 : Nat.Coprime (n2 / Nat.gcd n2 d1) (d1 / Nat.gcd n2 d1) := Nat.coprime_div_gcd_div_gcd p2
  obtain ⟨a, ha⟩ := Nat.gcd_dvd_left n1 d2
  obtain ⟨b, hb⟩ := Nat.gcd_dvd_right n1 d2
  obtain ⟨c, hc⟩ := Nat.gcd_dvd_left n2 d1
  obtain ⟨e, he⟩ := Nat.gcd_dvd_right n2 d1
  have c1' : Nat.Coprime n1 d1 := c1
  have c2' : Nat.Coprime n2 d2 := c2
  generalize Nat.gcd n1 d2 = g at *
  generalize Nat.gcd n2 d1 = k at *
  subst ha hb hc he
  rw [Nat.mul_div_cancel_left _ p1] at q1
  rw [Nat.mul_div_cancel_left _ p1] at q1
  rw [Nat.mul_div_cancel_left _ p2] at q2
  rw [Nat.mul_div_cancel_left _ p2] at q2
  have q3 : Nat.Coprime a e := (c1'.coprime_dvd_left (Nat.dvd_mul_left a g)).coprime_dvd_right (Nat.dvd_mul_left e k)
  have q4 : Nat.Coprime c b := (c2'.coprime_dvd_left (Nat.dvd_mul_left c k)).coprime_dvd_right (Nat.dvd_mul_left b g)
  have q5 : Nat.Coprime (a * c) (b * e) := Nat.Coprime.mul_left (Nat.Coprime.mul_right q1 q3) (Nat.Coprime.mul_right q4 q2)
  have e1 : g * a * (k * c) = (g * k) * (a * c) := by simp only [Nat.mul_comm, Nat.mul_left_comm]
  have e2 : k * e * (g * b) = (g * k) * (b * e) := by simp only [Nat.mul_comm, Nat.mul_left_comm]
  unfold rdc
  rw [e1, e2, Nat.gcd_mul_left, q5, Nat.mul_one, Nat.mul_div_cancel_left _ (Nat.mul_pos p1 p2), Nat.mul_div_cancel_left _ (Nat.mul_pos p1 p2),
    Nat.mul_div_cancel_left _ p1, Nat.mul_div_cancel_left _ p1, Nat.mul_div_cancel_left _ p2, Nat.mul_div_cancel_left _ p2]
end Go.Proofs.Ytnalpielhpmnfaa
