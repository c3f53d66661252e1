import Derived.Test.YtofdnkgieigncaaV0
namespace Go.Proofs.Ytofdnkgieigncaa
open Go.SL

/-! ### posts -/
structure Ent where
  acct : ByteArray
  cur : ByteArray
  amt : Int
def Ent.enc (x : Ent) : List D := [.sc (.string x.acct), .sc (.string x.cur), .sc (.int .i64 x.amt)]
structure Post where
  number : Int
  text : ByteArray
  entries : List Ent
def Post.enc (p : Post) : List D := [.sc (.int .i64 p.number), .sc (.string p.text), .sl 3 (p.entries.map Ent.enc)]
def Post.cs (p : Post) : List AV := [.d (.sc (.int .i64 p.number)), .d (.sc (.string p.text)), .d (.sl 3 (p.entries.map Ent.enc))]
theorem list_snoc {α : Type} {p : List α → Prop} (h0 : p []) (h1 : ∀ l x, p l → p (l ++ [x])) (l : List α) : p l := by
  have : ∀ r : List α, p r.reverse := by
    intro r
    induction r with
    | nil => exact h0
    | cons x r ih => rw [List.reverse_cons]; exact h1 _ _ ih
  have h := this l.reverse
  rwa [List.reverse_reverse] at h
/-! ### entries and posts compared -/
set_option maxRecDepth 10000 in
theorem cloneE_ac (l : List Ent) (hl : l.length ≤ 1048576) : AC Try.prog 38 [.d (.sl 3 (l.map Ent.enc))] [] [] (fun r _ => r = .d (.sl 3 (l.map Ent.enc))) := by
  refine AC_enter Try.func38 rfl Try.ntmps38 (rv := [.tmp 2]) rfl rfl (by simp) (fun w X G => ?_)
  repeat' (first | ((with_reducible refine gS ?_); refine Es_eqNil (T := Try.tab) rfl rfl rfl rfl rfl rfl (fun h0 => ?_) ?_) | ((with_reducible refine gRc ?_); first | refine AW_freeze [2] (id := 5) ⟨rfl, trivial⟩ rfl rfl ?_ | refine AW_nilD 3 2 rfl ?_) | ((with_reducible refine gA ?_); (first | refine AW_seq ?_ | refine AW_region ?_ | refine AW_condT rfl ?_ | refine AW_condF rfl ?_ | refine AW_ret ?_ | refine AW_skip ?_)) | ((with_reducible refine gS ?_); refine Es_s (T := Try.tab) rfl rfl rfl rfl ?_) | (((with_reducible refine gS ?_); apply Es_xs); rfl; rfl; (first | (refine LStep_litOwn (T := Try.tab) (len := 0) rfl rfl rfl rfl rfl rfl rfl rfl rfl rfl ?_ ?_; (refine Nat.le_of_ble_eq_true ?_; rfl); (unfold maxLen; omega)) | (refine LStep_append (T := Try.tab) rfl rfl rfl rfl rfl rfl rfl rfl rfl rfl ?_ ?_ ?_; rfl; (simp only [List.length_map, List.length_nil]; omega); (unfold maxLen; simp only [List.length_map, List.length_nil]; omega))); rfl) | (with_reducible refine Es_nil ?_) | (with_reducible refine then_n ?_) | (with_reducible refine then_r ?_) | ((with_reducible refine gR ?_); first | refine ret1 rfl ?_ | refine ret2 rfl rfl ?_ | refine ret0 ?_ | refine end1 rfl ?_ | refine end0 ?_))
  · rw [h0]
  · rfl
end Go.Proofs.Ytofdnkgieigncaa
