import Derived.Test.YtglkilmflohfoaaDoorV0
namespace Go.Proofs.YtglkilmflohfoaaDoor
open Go.SL

/-! ### posts -/
structure Ent where
  acct : ByteArray
  cur : ByteArray
  amt : Int
def Ent.enc (x : Ent) : List D := [.sc (.string x.acct), .sc (.string x.cur), .sc (.int .i64 x.amt)]
structure Post where
  number : Int
  text : ByteArray
  entries : List Ent
def Post.enc (p : Post) : List D := [.sc (.int .i64 p.number), .sc (.string p.text), .sl 3 (p.entries.map Ent.enc)]
def Post.cs (p : Post) : List AV := [.d (.sc (.int .i64 p.number)), .d (.sc (.string p.text)), .d (.sl 3 (p.entries.map Ent.enc))]
def iE (n : Int) : List D := [.sc (.int .i64 n)]
theorem list_snoc {α : Type} {p : List α → Prop} (h0 : p []) (h1 : ∀ l x, p l → p (l ++ [x])) (l : List α) : p l := by
  have : ∀ r : List α, p r.reverse := by
    intro r
    induction r with
    | nil => exact h0
    | cons x r ih => rw [List.reverse_cons]; exact h1 _ _ ih
  have h := this l.reverse
  rwa [List.reverse_reverse] at h
/-! ### entries and posts compared -/
theorem eqS_ent : eqS Tryd.tab 8 46 = some [2, 2, 1] := by kernel_rfl
theorem eqG_ent : Tryd.prog.eqGuardType Tryd.prog.depth 46 = false := by kernel_rfl
def Ent.eqB (x y : Ent) : Bool := eqs x.acct y.acct && (eqs x.cur y.cur && (eqb x.amt y.amt && true))
theorem Ent.eqB_iff {x y : Ent} : x.eqB y = true ↔ x = y := by
  simp only [Ent.eqB, Bool.and_eq_true, Bool.and_true, eqs_t, eqb_t]
  constructor
  · rintro ⟨h1, h2, h3⟩; cases x; cases y; simp_all
  · rintro rfl; exact ⟨rfl, rfl, rfl⟩
def eleq : List Ent → List Ent → Bool
  | [], [] => true
  | x :: xs, y :: ys => x.eqB y && eleq xs ys
  | _, _ => false
theorem eleq_iff : ∀ {a b : List Ent}, eleq a b = true ↔ a = b
  | [], [] => by simp [eleq]
  | [], _ :: _ => by simp [eleq]
  | _ :: _, [] => by simp [eleq]
  | x :: xs, y :: ys => by rw [eleq, Bool.and_eq_true, eleq_iff, Ent.eqB_iff, List.cons.injEq]
theorem eleq_len {a b : List Ent} (h : a.length ≠ b.length) : eleq a b = false := by
  cases hq : eleq a b
  · rfl
  · rw [eleq_iff] at hq; exact absurd (by rw [hq]) h



set_option maxRecDepth 10000 in
theorem cloneE_ac (l : List Ent) (hl : l.length ≤ 1048576) : AC Tryd.prog 48 [.d (.sl 3 (l.map Ent.enc))] [] [] (fun r _ => r = .d (.sl 3 (l.map Ent.enc))) := by
  refine AC_enter Tryd.func48 rfl Tryd.ntmps48 (rv := [.tmp 2]) rfl rfl (by simp) (fun w X G => ?_)
  repeat' (first | ((with_reducible refine gS ?_); refine Es_eqNil (T := Tryd.tab) rfl rfl rfl rfl rfl rfl (fun h0 => ?_) ?_) | ((with_reducible refine gRc ?_); first | refine AW_freeze [2] (id := 5) ⟨rfl, trivial⟩ rfl rfl ?_ | refine AW_nilD 3 2 rfl ?_) | ((with_reducible refine gA ?_); (first | refine AW_seq ?_ | refine AW_region ?_ | refine AW_condT rfl ?_ | refine AW_condF rfl ?_ | refine AW_ret ?_ | refine AW_skip ?_)) | ((with_reducible refine gS ?_); refine Es_s (T := Tryd.tab) rfl rfl rfl rfl ?_) | (((with_reducible refine gS ?_); apply Es_xs); rfl; rfl; (first | (refine LStep_litOwn (T := Tryd.tab) (len := 0) rfl rfl rfl rfl rfl rfl rfl rfl rfl rfl ?_ ?_; (refine Nat.le_of_ble_eq_true ?_; rfl); (unfold maxLen; omega)) | (refine LStep_append (T := Tryd.tab) rfl rfl rfl rfl rfl rfl rfl rfl rfl rfl ?_ ?_ ?_; rfl; (simp only [List.length_map, List.length_nil]; omega); (unfold maxLen; simp only [List.length_map, List.length_nil]; omega))); rfl) | (with_reducible refine Es_nil ?_) | (with_reducible refine then_n ?_) | (with_reducible refine then_r ?_) | ((with_reducible refine gR ?_); first | refine ret1 rfl ?_ | refine ret2 rfl rfl ?_ | refine ret0 ?_ | refine end1 rfl ?_ | refine end0 ?_))
  · rw [h0]
  · rfl
end Go.Proofs.YtglkilmflohfoaaDoor
