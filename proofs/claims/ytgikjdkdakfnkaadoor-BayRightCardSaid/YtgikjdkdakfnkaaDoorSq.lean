/- The layer 'SL': a nil slice within a structure that is handed in; sorted rows, compacted. -/
import Derived.Test.YtgikjdkdakfnkaaDoorSl
import Derived.Test.YtgikjdkdakfnkaaDoorSm
import Derived.Lib.SlicesCompact
namespace Go.SL

theorem AC.nilAgg {P : Program} {f : FuncId} {pre post rest : List AV} {sz : Nat} {h : Hp} {ids : List Nat} {R : AV → Hp → Prop} (H : AC P f (.agg (pre ++ .d (.sl sz []) :: post) :: rest) h ids R) :
    AC P f (.agg (pre ++ .d (.sc (.slice none 0 0)) :: post) :: rest) h ids R := by
  refine ⟨H.1, fun w X G vs r hl hv => H.2 w X G vs r hl (fun i x v hx hi => ?_)⟩
  cases i with
  | succ i => exact hv (i + 1) x v hx hi
  | zero =>
    cases hx
    have h0 := hv 0 _ v rfl hi
    cases h0 with
    | agg cs vs hs hc h1 =>
      refine .agg _ vs (by simpa using hs) (fun i c v hc' hv' => ?_) h1
      rcases Nat.lt_trichotomy i pre.length with hlt | rfl | hgt
      · exact hc i c v (by rw [List.getElem?_append_left hlt] at hc' ⊢; exact hc') hv'
      · rw [List.getElem?_append_right (Nat.le_refl _), Nat.sub_self] at hc'
        cases hc'
        have := hc pre.length (.d (.sc (.slice none 0 0))) v (by rw [List.getElem?_append_right (Nat.le_refl _), Nat.sub_self]; rfl) hv'
        exact (CoeA.nil sz).rep this
      · refine hc i c v ?_ hv'
        rw [List.getElem?_append_right (by omega)] at hc' ⊢
        obtain ⟨m, hm⟩ : ∃ m, i - pre.length = m + 1 := ⟨i - pre.length - 1, by omega⟩
        rw [hm] at hc' ⊢
        exact hc'

section
open Go.Lib
theorem compactUpTo_sorted {d : Array Int} (hs : ∀ i j : Nat, i ≤ j → j < d.size → d[i]! ≤ d[j]!) : ∀ m, m ≤ d.size → (∀ x, x ∈ compactUpTo d m ↔ ∃ j, j < m ∧ d[j]! = x) ∧ (compactUpTo d m).Pairwise (· < ·)
  | 0, _ => ⟨fun x => by simp [compactUpTo], by simp [compactUpTo]⟩
  | m + 1, hm => by
    obtain ⟨h1, h2⟩ := compactUpTo_sorted hs m (by omega)
    rw [compactUpTo_succ]
    by_cases hk : keeps d m = true
    · rw [if_pos hk]
      refine ⟨fun x => ?_, ?_⟩
      · rw [List.mem_append, h1 x, List.mem_singleton]
        constructor
        · rintro (⟨j, hj, e⟩ | e)
          · exact ⟨j, by omega, e⟩
          · exact ⟨m, by omega, e.symm⟩
        · rintro ⟨j, hj, e⟩
          rcases Nat.lt_or_ge j m with h | h
          · exact .inl ⟨j, h, e⟩
          · obtain rfl : j = m := by omega
            exact .inr e.symm
      · rw [List.pairwise_append]
        refine ⟨h2, by simp, fun x hx y hy => ?_⟩
        obtain ⟨j, hj, rfl⟩ := (h1 x).1 hx
        rw [List.mem_singleton] at hy
        subst hy
        have hne : d[m]! ≠ d[m - 1]! := by
          have := of_decide_eq_true hk
          rcases this with h | h
          · omega
          · exact h
        have a1 := hs j (m - 1) (by omega) (by omega)
        have a2 := hs (m - 1) m (by omega) (by omega)
        omega
    · rw [if_neg hk, List.append_nil]
      refine ⟨fun x => ?_, h2⟩
      rw [h1 x]
      have hne : m ≠ 0 ∧ d[m]! = d[m - 1]! := by
        have : ¬ (m = 0 ∨ d[m]! ≠ d[m - 1]!) := fun h => hk (decide_eq_true h)
        refine ⟨fun h => this (.inl h), ?_⟩
        by_cases h : d[m]! = d[m - 1]!
        · exact h
        · exact absurd (.inr h) this
      constructor
      · rintro ⟨j, hj, e⟩
        exact ⟨j, by omega, e⟩
      · rintro ⟨j, hj, e⟩
        rcases Nat.lt_or_ge j m with h | h
        · exact ⟨j, h, e⟩
        · obtain rfl : j = m := by omega
          exact ⟨j - 1, by omega, by rw [← e, hne.2]⟩
theorem compact_sorted {zs : List Int} (hs : zs.Pairwise (· ≤ ·)) : (∀ x, x ∈ compact zs ↔ x ∈ zs) ∧ (compact zs).Pairwise (· < ·) := by
  have hg : ∀ i : Nat, ∀ hi : i < zs.length, zs.toArray[i]! = zs[i] := fun i hi => by rw [getElem!_pos zs.toArray i (by simpa using hi)]; simp
  have h0 : ∀ i j : Nat, i ≤ j → j < zs.toArray.size → zs.toArray[i]! ≤ zs.toArray[j]! := by
    intro i j hij hj
    have hj' : j < zs.length := by simpa using hj
    rw [hg i (by omega), hg j hj']
    rcases Nat.lt_or_ge i j with h | h
    · exact List.pairwise_iff_getElem.1 hs i j (by omega) hj' h
    · obtain rfl : i = j := by omega
      exact Int.le_refl _
  obtain ⟨h1, h2⟩ := compactUpTo_sorted h0 zs.length (by simp)
  refine ⟨fun x => ?_, h2⟩
  unfold compact
  rw [h1 x]
  constructor
  · rintro ⟨j, hj, e⟩
    rw [hg j hj] at e
    exact e ▸ List.getElem_mem hj
  · intro hx
    obtain ⟨j, hj, e⟩ := List.getElem_of_mem hx
    exact ⟨j, hj, by rw [hg j hj]; exact e⟩
theorem sort_sorted (zs : List Int) : (zs.mergeSort fun x y => decide (x ≤ y)).Pairwise (· ≤ ·) := by
  have := List.pairwise_mergeSort (le := fun x y : Int => decide (x ≤ y)) (fun a b c h1 h2 => by simp at *; omega) (fun a b => by simp; omega) zs
  exact this.imp (fun h => by simpa using h)
end

/-! ### strings in their order -/
theorem bl_irrefl : ∀ x : List UInt8, Op.bytesLess x x = false
  | [] => rfl
  | a :: x => by
    have := bl_irrefl x
    simp [Op.bytesLess, this]
theorem bl_trans : ∀ x y z : List UInt8, Op.bytesLess x y = true → Op.bytesLess y z = true → Op.bytesLess x z = true
  | [], [], _, h, _ => by simp [Op.bytesLess] at h
  | [], _ :: _, [], _, h => by simp [Op.bytesLess] at h
  | [], _ :: _, _ :: _, _, _ => rfl
  | _ :: _, [], _, h, _ => by simp [Op.bytesLess] at h
  | _ :: _, _ :: _, [], _, h => by simp [Op.bytesLess] at h
  | a :: x, b :: y, c :: z, h, k => by
    simp only [Op.bytesLess, Bool.or_eq_true, Bool.and_eq_true, decide_eq_true_eq, beq_iff_eq, UInt8.lt_iff_toNat_lt] at h k ⊢
    rcases h with h | ⟨rfl, h⟩ <;> rcases k with k | ⟨rfl, k⟩
    · exact .inl (by omega)
    · exact .inl h
    · exact .inl k
    · exact .inr ⟨rfl, bl_trans x y z h k⟩
theorem bl_tri : ∀ x y : List UInt8, Op.bytesLess x y = false → Op.bytesLess y x = false → x = y
  | [], [], _, _ => rfl
  | [], _ :: _, h, _ => by simp [Op.bytesLess] at h
  | _ :: _, [], _, h => by simp [Op.bytesLess] at h
  | a :: x, b :: y, h, k => by
    simp only [Op.bytesLess, Bool.or_eq_false_iff, Bool.and_eq_false_iff, decide_eq_false_iff_not, UInt8.lt_iff_toNat_lt] at h k
    have e : a = b := by apply UInt8.toNat_inj.1; omega
    subst e
    have h1 : Op.bytesLess x y = false := by rcases h.2 with h | h <;> simp_all
    have h2 : Op.bytesLess y x = false := by rcases k.2 with h | h <;> simp_all
    rw [bl_tri x y h1 h2]
theorem lts_irrefl (a : ByteArray) : lts a a = false := by rw [lts_d]; exact bl_irrefl _
theorem lts_trans {a b c : ByteArray} (h : lts a b = true) (k : lts b c = true) : lts a c = true := by rw [lts_d] at *; exact bl_trans _ _ _ h k
theorem lts_tri {a b : ByteArray} (h : lts a b = false) (k : lts b a = false) : a = b := by
  rw [lts_d] at *
  have := bl_tri _ _ h k
  rw [ByteArray.toList_eq, ByteArray.toList_eq] at this
  cases a; cases b
  exact congrArg ByteArray.mk (Array.toList_inj.1 this)
theorem lts_asymm {a b : ByteArray} (h : lts a b = true) : lts b a = false := by
  cases hb : lts b a
  · rfl
  · have := lts_trans h hb; rw [lts_irrefl] at this; cases this
theorem lts_ntrans {a b c : ByteArray} (h : lts a b = false) (k : lts b c = false) : lts a c = false := by
  cases hc : lts a c
  · rfl
  · cases hb : lts b a
    · have := lts_tri h hb; subst this; rw [hc] at k; cases k
    · have := lts_trans hb hc; rw [this] at k; cases k
theorem lts_gt (a b : ByteArray) : (!(lts a b || (a.toList == b.toList))) = lts b a := by
  rw [ba_toList_inj]
  cases h : lts a b
  · by_cases e : a = b
    · subst e; simp [lts_irrefl]
    · rw [decide_eq_false e]
      cases k : lts b a
      · exact absurd (lts_tri h k) e
      · rfl
  · simp [lts_asymm h]
def cmpS (a b : ByteArray) : Int := if lts a b = true then -1 else if lts b a = true then 1 else 0
section
variable {P : Program} {O : Org} {T : Tab P} {Q : Exit → Env → Hp → Prop} {env : Env} {h : Hp} {o : Oper}
theorem LStep_gtrS {tt yt : Nat} {x y : Operand} {a b : ByteArray} (ho : o.op = .binOp .gtr tt x y yt) (hx : evalA env x = .d (.sc (.string a))) (hy : evalA env y = .d (.sc (.string b))) (hd : dstOk o.dst O.nt = true) : LStep P O o env h [] [] (.d (.sc (.bool (lts b a)))) [] := by
  refine .quiet hd (fun env' h' he _ ac w G r => ⟨.bool (lts b a), ?_, .d _ _ (.sc _ rfl)⟩)
  have h1 := evalA_rep r.env x
  have h2 := evalA_rep r.env y
  rw [he x (by simp [ho, Op.operands]), hx] at h1
  rw [he y (by simp [ho, Op.operands]), hy] at h2
  have h3 := lts_gt a b
  rw [lts_d a b] at h3
  simp [execOp, ho, h1.sc_inv, h2.sc_inv, eqGuard, binOp, Op.stringOp]
  rw [← h3]
  simp
/-- The loop over a map is over. -/
theorem AW_noIt {c : Code} (m : Nat) {kt et : Nat} {es : List (Value × AV)} {it : Nat × List Value × Option Value} (hh : hget h m = some (.map kt et es (some it))) (H : AW P O c Q env ((m, some (.map kt et es none)) :: h)) : AW P O c Q env h :=
  fun a w G r => H a w G (r.noIt hh)
/-- .. forgotten at the end. -/
theorem AW_noItEnd {c : Code} (m : Nat) (H : AW P O c (fun e env h => ∃ kt et es it, hget h m = some (.map kt et es (some it)) ∧ Q e env ((m, some (.map kt et es none)) :: h)) env h) : AW P O c Q env h :=
  fun a w G r => Code.wp_mono (fun _ _ _ ⟨env, _, G, r, _, _, _, _, hh, q⟩ => ⟨env, _, G, r.noIt hh, q⟩) (H a w G r)
end
end Go.SL
