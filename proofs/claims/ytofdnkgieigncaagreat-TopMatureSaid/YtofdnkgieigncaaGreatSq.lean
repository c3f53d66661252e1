/- The layer 'SL': a nil slice within a structure that is handed in; sorted rows, compacted. -/
import Derived.Test.YtofdnkgieigncaaGreatSl
import Derived.Test.YtofdnkgieigncaaGreatSm
import Derived.Lib.SlicesCompact
namespace Go.SL

section
open Go.Lib
end

/-! ### strings in their order -/
theorem bl_irrefl : ∀ x : List UInt8, Op.bytesLess x x = false
  | [] => rfl
  | a :: x => by
    have := bl_irrefl x
    simp [Op.bytesLess, this]
theorem bl_trans : ∀ x y z : List UInt8, Op.bytesLess x y = true → Op.bytesLess y z = true → Op.bytesLess x z = true
  | [], [], _, h, _ => by simp [Op.bytesLess] at h
  | [], _ :: _, [], _, h => by simp [Op.bytesLess] at h
  | [], _ :: _, _ :: _, _, _ => rfl
  | _ :: _, [], _, h, _ => by simp [Op.bytesLess] at h
  | _ :: _, _ :: _, [], _, h => by simp [Op.bytesLess] at h
  | a :: x, b :: y, c :: z, h, k => by
    simp only [Op.bytesLess, Bool.or_eq_true, Bool.and_eq_true, decide_eq_true_eq, beq_iff_eq, UInt8.lt_iff_toNat_lt] at h k ⊢
    rcases h with h | ⟨rfl, h⟩ <;> rcases k with k | ⟨rfl, k⟩
    · exact .inl (by omega)
    · exact .inl h
    · exact .inl k
    · exact .inr ⟨rfl, bl_trans x y z h k⟩
theorem bl_tri : ∀ x y : List UInt8, Op.bytesLess x y = false → Op.bytesLess y x = false → x = y
  | [], [], _, _ => rfl
  | [], _ :: _, h, _ => by simp [Op.bytesLess] at h
  | _ :: _, [], _, h => by simp [Op.bytesLess] at h
  | a :: x, b :: y, h, k => by
    simp only [Op.bytesLess, Bool.or_eq_false_iff, Bool.and_eq_false_iff, decide_eq_false_iff_not, UInt8.lt_iff_toNat_lt] at h k
    have e : a = b := by apply UInt8.toNat_inj.1; omega
    subst e
    have h1 : Op.bytesLess x y = false := by rcases h.2 with h | h <;> simp_all
    have h2 : Op.bytesLess y x = false := by rcases k.2 with h | h <;> simp_all
    rw [bl_tri x y h1 h2]
theorem lts_irrefl (a : ByteArray) : lts a a = false := by rw [lts_d]; exact bl_irrefl _
theorem lts_trans {a b c : ByteArray} (h : lts a b = true) (k : lts b c = true) : lts a c = true := by rw [lts_d] at *; exact bl_trans _ _ _ h k
theorem lts_tri {a b : ByteArray} (h : lts a b = false) (k : lts b a = false) : a = b := by
  rw [lts_d] at *
  have := bl_tri _ _ h k
  rw [ByteArray.toList_eq, ByteArray.toList_eq] at this
  cases a; cases b
  exact congrArg ByteArray.mk (Array.toList_inj.1 this)
theorem lts_asymm {a b : ByteArray} (h : lts a b = true) : lts b a = false := by
  cases hb : lts b a
  · rfl
  · have := lts_trans h hb; rw [lts_irrefl] at this; cases this
theorem lts_gt (a b : ByteArray) : (!(lts a b || (a.toList == b.toList))) = lts b a := by
  rw [ba_toList_inj]
  cases h : lts a b
  · by_cases e : a = b
    · subst e; simp [lts_irrefl]
    · rw [decide_eq_false e]
      cases k : lts b a
      · exact absurd (lts_tri h k) e
      · rfl
  · simp [lts_asymm h]
def cmpS (a b : ByteArray) : Int := if lts a b = true then -1 else if lts b a = true then 1 else 0
section
variable {P : Program} {O : Org} {T : Tab P} {Q : Exit → Env → Hp → Prop} {env : Env} {h : Hp} {o : Oper}
theorem LStep_gtrS {tt yt : Nat} {x y : Operand} {a b : ByteArray} (ho : o.op = .binOp .gtr tt x y yt) (hx : evalA env x = .d (.sc (.string a))) (hy : evalA env y = .d (.sc (.string b))) (hd : dstOk o.dst O.nt = true) : LStep P O o env h [] [] (.d (.sc (.bool (lts b a)))) [] := by
  refine .quiet hd (fun env' h' he _ ac w G r => ⟨.bool (lts b a), ?_, .d _ _ (.sc _ rfl)⟩)
  have h1 := evalA_rep r.env x
  have h2 := evalA_rep r.env y
  rw [he x (by simp [ho, Op.operands]), hx] at h1
  rw [he y (by simp [ho, Op.operands]), hy] at h2
  have h3 := lts_gt a b
  rw [lts_d a b] at h3
  simp [execOp, ho, h1.sc_inv, h2.sc_inv, eqGuard, binOp, Op.stringOp]
  rw [← h3]
  simp
/-- The loop over a map is over. -/
theorem AW_noIt {c : Code} (m : Nat) {kt et : Nat} {es : List (Value × AV)} {it : Nat × List Value × Option Value} (hh : hget h m = some (.map kt et es (some it))) (H : AW P O c Q env ((m, some (.map kt et es none)) :: h)) : AW P O c Q env h :=
  fun a w G r => H a w G (r.noIt hh)
end
end Go.SL
