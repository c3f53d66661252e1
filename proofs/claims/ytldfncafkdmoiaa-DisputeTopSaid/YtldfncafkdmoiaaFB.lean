import Derived.Test.YtldfncafkdmoiaaSq
import Derived.Test.YtldfncafkdmoiaaTk
import Derived.Test.YtldfncafkdmoiaaPl
namespace Go.Proofs.Ytldfncafkdmoiaa
open Go.SL
/-! ### claimants: plain -/
structure Cl where
  nm : ByteArray
  th : ByteArray
  rt : Int
  dy : Int
  am : Int
  deriving DecidableEq
def Cl.enc (x : Cl) : List D := [.sc (.string x.nm), .sc (.string x.th), .sc (.int .i64 x.rt), .sc (.int .i64 x.dy), .sc (.int .i64 x.am)]
def Cl.cs (x : Cl) : List AV := [.d (.sc (.string x.nm)), .d (.sc (.string x.th)), .d (.sc (.int .i64 x.rt)), .d (.sc (.int .i64 x.dy)), .d (.sc (.int .i64 x.am))]
theorem Cl_eq {a b : Cl} : a = b ↔ a.nm = b.nm ∧ a.th = b.th ∧ a.rt = b.rt ∧ a.dy = b.dy ∧ a.am = b.am := by
  cases a; cases b
  simp
def cI (a b : Int) : Int := if a < b then -1 else if b < a then 1 else 0
def cS (a b : ByteArray) : Int := if lts a b = true then -1 else if lts b a = true then 1 else 0
theorem cI_lt {a b : Int} : cI a b < 0 ↔ a < b := by unfold cI; split <;> (try split) <;> omega
theorem cI_eq {a b : Int} : cI a b = 0 ↔ a = b := by unfold cI; split <;> (try split) <;> omega
theorem cI_neg (a b : Int) : cI b a = -(cI a b) := by unfold cI; split <;> (try split) <;> (try split) <;> omega
theorem cI_in (a b : Int) : -1 ≤ cI a b ∧ cI a b ≤ 1 := by unfold cI; split <;> (try split) <;> omega
theorem cS_lt {a b : ByteArray} : cS a b < 0 ↔ lts a b = true := by
  unfold cS
  cases h : lts a b with
  | true => simp
  | false => rw [if_neg (by decide)]; split <;> simp
theorem cS_eq {a b : ByteArray} : cS a b = 0 ↔ a = b := by
  unfold cS
  cases h : lts a b with
  | true =>
    rw [if_pos rfl]
    refine ⟨fun h => (by cases h), ?_⟩
    rintro rfl
    rw [lts_irrefl] at h
    cases h
  | false =>
    rw [if_neg (by decide)]
    cases k : lts b a with
    | true =>
      rw [if_pos rfl]
      refine ⟨fun h => (by cases h), ?_⟩
      rintro rfl
      rw [lts_irrefl] at k
      cases k
    | false =>
      rw [if_neg (by decide)]
      exact ⟨fun _ => lts_tri h k, fun _ => rfl⟩
theorem cS_neg (a b : ByteArray) : cS b a = -(cS a b) := by
  unfold cS
  cases h : lts a b with
  | true => rw [if_pos rfl, lts_asymm h]; rfl
  | false =>
    rw [if_neg (show ¬ false = true by decide)]
    cases k : lts b a with
    | true => rfl
    | false => rfl
theorem cS_in (a b : ByteArray) : -1 ≤ cS a b ∧ cS a b ≤ 1 := by
  unfold cS
  split
  · omega
  · split <;> omega
/-- which is better: below 0, if it is a -/
def jdg (a b : Cl) : Int := if cI a.rt b.rt ≠ 0 then cI a.rt b.rt else if cI a.dy b.dy ≠ 0 then cI a.dy b.dy else if cS a.nm b.nm ≠ 0 then cS a.nm b.nm else if cI b.am a.am ≠ 0 then cI b.am a.am else cS a.th b.th
theorem jdg_neg (a b : Cl) : jdg b a = -(jdg a b) := by
  unfold jdg
  rw [cI_neg a.rt b.rt, cI_neg a.dy b.dy, cS_neg a.nm b.nm, cI_neg b.am a.am, cS_neg a.th b.th]
  simp only [ne_eq, Int.neg_eq_zero]
  repeat' split
  all_goals first
    | rfl
    | (exfalso; omega)
theorem jdg_in (a b : Cl) : -1 ≤ jdg a b ∧ jdg a b ≤ 1 := by
  unfold jdg
  have h1 := cI_in a.rt b.rt
  have h2 := cI_in a.dy b.dy
  have h3 := cS_in a.nm b.nm
  have h4 := cI_in b.am a.am
  have h5 := cS_in a.th b.th
  repeat' split
  all_goals omega
theorem jdg_zero {a b : Cl} : jdg a b = 0 ↔ a = b := by
  rw [Cl_eq]
  unfold jdg
  constructor
  · intro h
    by_cases h1 : cI a.rt b.rt = 0
    · rw [if_neg (by simp [h1])] at h
      by_cases h2 : cI a.dy b.dy = 0
      · rw [if_neg (by simp [h2])] at h
        by_cases h3 : cS a.nm b.nm = 0
        · rw [if_neg (by simp [h3])] at h
          by_cases h4 : cI b.am a.am = 0
          · rw [if_neg (by simp [h4])] at h
            exact ⟨cS_eq.1 h3, cS_eq.1 h, cI_eq.1 h1, cI_eq.1 h2, (cI_eq.1 h4).symm⟩
          · rw [if_pos h4] at h; exact absurd h h4
        · rw [if_pos h3] at h; exact absurd h h3
      · rw [if_pos h2] at h; exact absurd h h2
    · rw [if_pos h1] at h; exact absurd h h1
  · rintro ⟨h1, h2, h3, h4, h5⟩
    rw [if_neg (by simp [cI_eq, h3]), if_neg (by simp [cI_eq, h4]), if_neg (by simp [cS_eq, h1]), if_neg (by simp [cI_eq, h5])]
    exact cS_eq.2 h2
def ltJ (a b : Cl) : Bool := decide (jdg a b < 0)
theorem ltJ_t {a b : Cl} : ltJ a b = true ↔ a.rt < b.rt ∨ (a.rt = b.rt ∧ (a.dy < b.dy ∨ (a.dy = b.dy ∧ (lts a.nm b.nm = true ∨ (a.nm = b.nm ∧ (b.am < a.am ∨ (a.am = b.am ∧ lts a.th b.th = true))))))) := by
  unfold ltJ
  rw [decide_eq_true_eq]
  unfold jdg
  by_cases h1 : a.rt = b.rt
  · rw [if_neg (by simp [cI_eq, h1])]
    by_cases h2 : a.dy = b.dy
    · rw [if_neg (by simp [cI_eq, h2])]
      by_cases h3 : a.nm = b.nm
      · rw [if_neg (by simp [cS_eq, h3])]
        by_cases h4 : a.am = b.am
        · rw [if_neg (by simp [cI_eq, h4]), cS_lt]
          constructor
          · intro h; exact .inr ⟨h1, .inr ⟨h2, .inr ⟨h3, .inr ⟨h4, h⟩⟩⟩⟩
          · rintro (h | ⟨_, h | ⟨_, h | ⟨_, h | ⟨_, h⟩⟩⟩⟩)
            · omega
            · omega
            · rw [h3, lts_irrefl] at h; cases h
            · omega
            · exact h
        · rw [if_pos (by rw [ne_eq, cI_eq]; omega), cI_lt]
          constructor
          · intro h; exact .inr ⟨h1, .inr ⟨h2, .inr ⟨h3, .inl h⟩⟩⟩
          · rintro (h | ⟨_, h | ⟨_, h | ⟨_, h | ⟨h, _⟩⟩⟩⟩)
            · omega
            · omega
            · rw [h3, lts_irrefl] at h; cases h
            · exact h
            · omega
      · rw [if_pos (by rw [ne_eq, cS_eq]; exact h3), cS_lt]
        constructor
        · intro h; exact .inr ⟨h1, .inr ⟨h2, .inl h⟩⟩
        · rintro (h | ⟨_, h | ⟨_, h | ⟨h, _⟩⟩⟩)
          · omega
          · omega
          · exact h
          · exact absurd h h3
    · rw [if_pos (by rw [ne_eq, cI_eq]; exact h2), cI_lt]
      constructor
      · intro h; exact .inr ⟨h1, .inl h⟩
      · rintro (h | ⟨_, h | ⟨h, _⟩⟩) <;> omega
  · rw [if_pos (by rw [ne_eq, cI_eq]; exact h1), cI_lt]
    constructor
    · intro h; exact .inl h
    · rintro (h | ⟨h, _⟩) <;> omega
theorem ltJ_irr (a : Cl) : ltJ a a = false := by
  unfold ltJ
  rw [jdg_zero.2 rfl]
  rfl
theorem ltJ_tri {a b : Cl} (h : ltJ a b = false) (k : ltJ b a = false) : a = b := by
  unfold ltJ at *
  rw [decide_eq_false_iff_not] at h k
  rw [jdg_neg] at k
  exact jdg_zero.1 (by omega)
theorem ltJ_trans {a b c : Cl} (h : ltJ a b = true) (k : ltJ b c = true) : ltJ a c = true := by
  rw [ltJ_t] at *
  rcases h with h | ⟨a1, h | ⟨a2, h | ⟨a3, h | ⟨a4, h⟩⟩⟩⟩ <;> rcases k with k | ⟨b1, k | ⟨b2, k | ⟨b3, k | ⟨b4, k⟩⟩⟩⟩
  all_goals first
    | exact .inl (by omega)
    | exact .inr ⟨by omega, .inl (by omega)⟩
    | exact .inr ⟨by omega, .inr ⟨by omega, .inl (lts_trans h k)⟩⟩
    | exact .inr ⟨by omega, .inr ⟨by omega, .inl (by rw [← b3]; exact h)⟩⟩
    | exact .inr ⟨by omega, .inr ⟨by omega, .inl (by rw [a3]; exact k)⟩⟩
    | exact .inr ⟨by omega, .inr ⟨by omega, .inr ⟨a3.trans b3, .inl (by omega)⟩⟩⟩
    | exact .inr ⟨by omega, .inr ⟨by omega, .inr ⟨a3.trans b3, .inr ⟨by omega, lts_trans h k⟩⟩⟩⟩
theorem swoJ : Sort.SWO ltJ := by
  refine ⟨ltJ_irr, fun x y z => ltJ_trans, fun x y z h k => ?_⟩
  cases hq : ltJ x z with
  | false => rfl
  | true =>
    exfalso
    cases h1 : ltJ y x with
    | true =>
      have := ltJ_trans h1 hq
      rw [k] at this
      cases this
    | false =>
      have := ltJ_tri h h1
      subst this
      rw [k] at hq
      cases hq
/-! #### the best claim of a thing -/
def better (a b : Cl) : Int := -(jdg a b)
/-- the better one of two -/
def bst (o : Option Cl) (c : Cl) : Option Cl := match o with
  | none => some c
  | some b => if ltJ c b = true then some c else some b
def bestC (l : List Cl) : Option Cl := l.foldl bst none
theorem bestC_snoc (l : List Cl) (c : Cl) : bestC (l ++ [c]) = bst (bestC l) c := by unfold bestC; rw [List.foldl_append]; rfl
theorem list_snocC {p : List Cl → Prop} (h0 : p []) (h1 : ∀ l x, p l → p (l ++ [x])) (l : List Cl) : p l := by
  have : p l.reverse.reverse := by
    induction l.reverse with
    | nil => exact h0
    | cons a l ih => rw [List.reverse_cons]; exact h1 _ _ ih
  rwa [List.reverse_reverse] at this
theorem bestC_spec (l : List Cl) : (bestC l = none ↔ l = []) ∧ ∀ b, bestC l = some b ↔ b ∈ l ∧ ∀ c ∈ l, ltJ c b = false := by
  have key : (bestC l = none ↔ l = []) ∧ ∀ b, bestC l = some b → b ∈ l ∧ ∀ c ∈ l, ltJ c b = false := by
    induction l using list_snocC with
    | h0 => exact ⟨⟨fun _ => rfl, fun _ => rfl⟩, fun b h => (by cases h)⟩
    | h1 l x ih =>
      rw [bestC_snoc]
      cases hb : bestC l with
      | none =>
        have := ih.1.1 hb
        subst this
        refine ⟨⟨fun h => (by cases h), fun h => (by simp at h)⟩, fun b h => ?_⟩
        obtain rfl := Option.some.inj h
        exact ⟨by simp, fun c hc => by rw [List.nil_append, List.mem_singleton] at hc; rw [hc]; exact ltJ_irr _⟩
      | some b0 =>
        obtain ⟨h1, h2⟩ := ih.2 b0 hb
        have hne : l ++ [x] ≠ [] := by simp
        show ((if ltJ x b0 = true then some x else some b0) = none ↔ _) ∧ ∀ b, (if ltJ x b0 = true then some x else some b0) = some b → _
        split
        · rename_i hx
          refine ⟨⟨fun h => (by cases h), fun h => absurd h hne⟩, fun b h => ?_⟩
          obtain rfl := Option.some.inj h
          refine ⟨by simp, fun c hc => ?_⟩
          rcases List.mem_append.1 hc with q | q
          · cases hq : ltJ c x with
            | false => rfl
            | true =>
              have := ltJ_trans hq hx
              rw [h2 c q] at this
              cases this
          · rw [List.mem_singleton.1 q]; exact ltJ_irr _
        · rename_i hx
          refine ⟨⟨fun h => (by cases h), fun h => absurd h hne⟩, fun b h => ?_⟩
          obtain rfl := Option.some.inj h
          refine ⟨by simp [h1], fun c hc => ?_⟩
          rcases List.mem_append.1 hc with q | q
          · exact h2 c q
          · rw [List.mem_singleton.1 q]; simpa using hx
  refine ⟨key.1, fun b => ⟨key.2 b, fun ⟨h1, h2⟩ => ?_⟩⟩
  cases hb : bestC l with
  | none => rw [key.1.1 hb] at h1; cases h1
  | some b0 =>
    obtain ⟨k1, k2⟩ := key.2 b0 hb
    rw [ltJ_tri (h2 b0 k1) (k2 b h1)]
end Go.Proofs.Ytldfncafkdmoiaa
