import Derived.Test.YtnfgkccocknloaaGreatF1
namespace Go.Proofs.YtnfgkccocknloaaGreat
open Go.SL

theorem eqS_lot : eqS Tryz.tab 8 54 = some [2, 1] := by kernel_rfl
theorem eqG_lot : Tryz.prog.eqGuardType Tryz.prog.depth 54 = false := by kernel_rfl
def Lot.eqB (x y : Lot) : Bool := eqs x.good y.good && (eqb x.count y.count && true)
def lleq : List Lot → List Lot → Bool
  | [], [] => true
  | x :: xs, y :: ys => x.eqB y && lleq xs ys
  | _, _ => false
theorem lleq_refl : ∀ l, lleq l l = true
  | [] => rfl
  | x :: l => by
    have h1 := eqs_t.2 (rfl : x.good = x.good)
    have h2 := eqb_t.2 (rfl : x.count = x.count)
    rw [lleq, Lot.eqB, h1, h2, lleq_refl l]; rfl
theorem lleq_eq : ∀ {a b : List Lot}, lleq a b = true ↔ a = b
  | [], [] => by simp [lleq]
  | [], _ :: _ => by simp [lleq]
  | _ :: _, [] => by simp [lleq]
  | x :: xs, y :: ys => by
    rw [lleq, Bool.and_eq_true, lleq_eq]
    simp only [Lot.eqB, Bool.and_eq_true, Bool.and_true, eqs_t, eqb_t]
    constructor
    · rintro ⟨⟨h1, h2⟩, h3⟩
      cases x; cases y
      simp_all
    · intro h
      simp at h
      simp [h.1, h.2]
theorem lleq_len : ∀ {a b : List Lot}, a.length ≠ b.length → lleq a b = false := by
  intro a b h
  cases hq : lleq a b
  · rfl
  · rw [lleq_eq] at hq; exact absurd (by rw [hq]) h
set_option maxRecDepth 10000 in
theorem sameLots_ac (a b : List Lot) (ha : a.length ≤ 140737488351232) : AC Tryz.prog 8 [.d (.sl 2 (a.map Lot.enc)), .d (.sl 2 (b.map Lot.enc))] [] [] (fun r _ => r = .d (.sc (.bool (lleq a b)))) := by
  refine AC_enter Tryz.func8 rfl Tryz.ntmps8 (rv := [.tmp 4]) rfl rfl (by simp) (fun w X G => ?_)
  repeat' (first | ((with_reducible refine gA ?_); (first | refine AW_seq ?_ | refine AW_region ?_ | (refine AW_cond rfl (fun hc => ?_) (fun hc => ?_) <;> try (exfalso; simp only [cmpL] at hc; omega)) | refine AW_block ?_ | refine AW_ret ?_ | refine AW_skip ?_)) | ((with_reducible refine gS ?_); refine Es_s (T := Tryz.tab) rfl rfl rfl rfl ?_) | (((with_reducible refine gS ?_); apply Es_q); rfl; rfl; refine LStep_lenM (T := Tryz.tab) rfl rfl rfl rfl) | (with_reducible refine Es_nil ?_) | (with_reducible refine then_n ?_) | (with_reducible refine then_r ?_) | ((with_reducible refine gR ?_); first | refine ret1 rfl ?_ | refine ret2 rfl rfl ?_ | refine ret0 ?_ | refine end1 rfl ?_ | refine end0 ?_))
  all_goals simp only [cmps] at *
  · refine congrArg (fun b => AV.d (D.sc (Value.bool b))) ?_; rw [lleq_len (by omega)]
  have hl : a.length = b.length := by omega
  refine AW_forE (S := Nat) (fun k => k ≤ a.length ∧ lleq a b = lleq (a.drop k) (b.drop k)) (fun k => [(5, .d (.sc (.int .i64 (k : Nat))))]) (fun _ => []) (fun k => a.length - k) 0 ⟨by omega, rfl⟩ (by (repeat' (first | exact trivial | exact rfl | (refine ⟨Or.inl rfl, ?_⟩) | (refine ⟨Or.inr rfl, ?_⟩) | (refine ⟨rfl, ?_⟩) | (refine ⟨?_, ?_⟩)))) (by (repeat' (first | exact trivial | exact rfl | (refine ⟨Or.inl rfl, ?_⟩) | (refine ⟨Or.inr rfl, ?_⟩) | (refine ⟨rfl, ?_⟩) | (refine ⟨?_, ?_⟩)))) ?_
  intro k ⟨hk, hf⟩
  by_cases hlt : k < a.length
  · obtain ⟨x, hx, hd⟩ := drop_at hlt
    obtain ⟨y, hy, hd'⟩ := drop_at (show k < b.length by omega)
    rw [hd, hd', lleq] at hf
    repeat' (first | ((with_reducible refine gA ?_); (first | refine AW_seq ?_ | refine AW_region ?_ | refine AW_regionD Tryz.mixed ?_ | (refine AW_cond rfl (fun hc => ?_) (fun hc => ?_) <;> try (exfalso; simp only [cmpL] at hc; omega)) | refine AW_block ?_ | refine AW_ret ?_ | refine AW_skip ?_)) | (first | ((with_reducible refine gS ?_); refine Es_s (T := Tryz.tab) rfl rfl rfl rfl ?_) | ((with_reducible refine gD ?_); refine Ed_s (T := Tryz.tab) rfl rfl rfl rfl ?_)) | ((first | ((with_reducible refine gS ?_); apply Es_q) | ((with_reducible refine gD ?_); apply Ed_q)); rfl; rfl; refine LStep_neqAgg (T := Tryz.tab) eqS_lot eqG_lot (by omega) rfl rfl rfl rfl rfl rfl) | ((first | ((with_reducible refine gS ?_); apply Es_q) | ((with_reducible refine gD ?_); apply Ed_q)); rfl; rfl; (first | refine LStep_lenM (T := Tryz.tab) rfl rfl rfl rfl | (refine LStep_add rfl rfl rfl rfl ?_; (refine IntWalk.i64_in _ ?_; first | omega | (simp only [cmps] at *; omega))) | (refine LStep_indexM (T := Tryz.tab) (c := ?_) rfl rfl rfl rfl rfl rfl ?_; rotate_left; assumption))) | (with_reducible refine Es_nil ?_) | ((with_reducible refine Ed_nil ?_ ?_); kernel_rfl) | (with_reducible refine then_n ?_) | (with_reducible refine then_r ?_) | (with_reducible refine block_n ?_) | (with_reducible refine block_r ?_) | ((with_reducible refine gR ?_); first | refine ret1 rfl ?_ | refine ret2 rfl rfl ?_ | refine ret0 ?_ | refine end1 rfl ?_ | refine end0 ?_))
    all_goals simp only [not_t, not_f] at *
    · have h : x.eqB y = false := by assumption
      refine congrArg (fun b => AV.d (D.sc (Value.bool b))) ?_; rw [hf, h]; rfl
    · have h : x.eqB y = true := by assumption
      refine ⟨k + 1, ?_, by omega, by (repeat' (first | exact trivial | exact rfl | (refine ⟨Or.inl rfl, ?_⟩) | (refine ⟨Or.inr rfl, ?_⟩) | (refine ⟨rfl, ?_⟩) | (refine ⟨?_, ?_⟩))), by (repeat' (first | exact trivial | exact rfl | (refine ⟨Or.inl rfl, ?_⟩) | (refine ⟨Or.inr rfl, ?_⟩) | (refine ⟨rfl, ?_⟩) | (refine ⟨?_, ?_⟩))), by (repeat' (first | exact trivial | exact rfl | (refine ⟨Or.inl rfl, ?_⟩) | (refine ⟨Or.inr rfl, ?_⟩) | (refine ⟨rfl, ?_⟩) | (refine ⟨?_, ?_⟩))), by (repeat' (first | exact trivial | exact rfl | (refine ⟨Or.inl rfl, ?_⟩) | (refine ⟨Or.inr rfl, ?_⟩) | (refine ⟨rfl, ?_⟩) | (refine ⟨?_, ?_⟩)))⟩; exact ⟨by omega, by rw [hf, h, Bool.true_and]⟩
  · have : k = a.length := by omega
    subst this
    have h2 : b.drop a.length = [] := by rw [hl]; exact drop_end
    rw [drop_end, h2, lleq] at hf
    repeat' (first | ((with_reducible refine gA ?_); (first | refine AW_seq ?_ | refine AW_region ?_ | (refine AW_cond rfl (fun hc => ?_) (fun hc => ?_) <;> try (exfalso; simp only [cmpL] at hc; omega)) | refine AW_ret ?_ | refine AW_exit ?_)) | ((with_reducible refine gS ?_); refine Es_s (T := Tryz.tab) rfl rfl rfl rfl ?_) | (((with_reducible refine gS ?_); apply Es_q); rfl; rfl; refine LStep_lenM (T := Tryz.tab) rfl rfl rfl rfl) | (with_reducible refine Es_nil ?_) | (with_reducible refine then_n ?_) | (with_reducible refine then_e ?_) | ((with_reducible refine block_e ?_ ?_); rfl) | ((with_reducible refine gR ?_); first | refine ret1 rfl ?_ | refine ret2 rfl rfl ?_ | refine ret0 ?_ | refine end1 rfl ?_ | refine end0 ?_))
    refine congrArg (fun b => AV.d (D.sc (Value.bool b))) ?_; rw [hf]
theorem lotsOf_len : ∀ (xs : List Line) (ns : List Int), (lotsOf xs ns).length ≤ xs.length
  | [], _ => by simp [lotsOf]
  | _ :: _, [] => by simp [lotsOf]
  | x :: xs, n :: ns => by
    rw [lotsOf]
    have := lotsOf_len xs ns
    split <;> simp <;> omega
theorem cutAll_len (o : Ord) : ∀ (ds : List Int) (ps : List (List Int)) (i : Nat), (cutAll o ds ps i).length ≤ ps.length ∧ ∀ c ∈ cutAll o ds ps i, c.lots.length ≤ o.lines.length
  | [], _, _ => by simp [cutAll]
  | _ :: _, [], _ => by simp [cutAll]
  | d :: ds, p :: ps, i => by
    obtain ⟨h1, h2⟩ := cutAll_len o ds ps (i + 1)
    rw [cutAll]
    refine ⟨by simp; omega, fun c hc => ?_⟩
    rcases List.mem_cons.1 hc with e | e
    · subst e; exact lotsOf_len _ _
    · exact h2 c e
end Go.Proofs.YtnfgkccocknloaaGreat
