import Derived.Test.YtofdnkgieigncaaGreatQ0
import Derived.Test.YtofdnkgieigncaaGreatSq
namespace Go.Proofs.YtofdnkgieigncaaGreat
open Go.SL

def Post.small (p : Post) : Bool := decide (p.entries.length ≤ 20) && decide (p.text.size ≤ 300)
set_option maxRecDepth 10000 in
theorem equalE_ac (a b : List Ent) (ha : a.length ≤ 140737488351232) : AC Tryz.prog 58 [.d (.sl 3 (a.map Ent.enc)), .d (.sl 3 (b.map Ent.enc))] [] [] (fun r _ => r = .d (.sc (.bool (eleq a b)))) := by
  refine AC_enter Tryz.func58 rfl Tryz.ntmps58 (rv := [.tmp 4]) rfl rfl (by simp) (fun w X G => ?_)
  repeat' (first | ((with_reducible refine gA ?_); (first | refine AW_seq ?_ | refine AW_region ?_ | (refine AW_cond rfl (fun hc => ?_) (fun hc => ?_) <;> try (exfalso; simp only [cmpL] at hc; omega)) | refine AW_block ?_ | refine AW_ret ?_ | refine AW_skip ?_)) | ((with_reducible refine gS ?_); refine Es_s (T := Tryz.tab) rfl rfl rfl rfl ?_) | (((with_reducible refine gS ?_); apply Es_q); rfl; rfl; refine LStep_lenM (T := Tryz.tab) rfl rfl rfl rfl) | (with_reducible refine Es_nil ?_) | (with_reducible refine then_n ?_) | (with_reducible refine then_r ?_) | ((with_reducible refine gR ?_); first | refine ret1 rfl ?_ | refine ret2 rfl rfl ?_ | refine ret0 ?_ | refine end1 rfl ?_ | refine end0 ?_))
  all_goals simp only [cmps] at *
  · refine congrArg (fun b => AV.d (D.sc (Value.bool b))) ?_; rw [eleq_len (by omega)]
  have hl : a.length = b.length := by omega
  refine AW_forE (S := Nat) (fun k => k ≤ a.length ∧ eleq a b = eleq (a.drop k) (b.drop k)) (fun k => [(13, .d (.sc (.int .i64 (k : Nat))))]) (fun _ => []) (fun k => a.length - k) 0 ⟨by omega, rfl⟩ (by (repeat' (first | exact trivial | exact rfl | (refine ⟨Or.inl rfl, ?_⟩) | (refine ⟨Or.inr rfl, ?_⟩) | (refine ⟨Or.inr trivial, ?_⟩) | (refine ⟨rfl, ?_⟩) | (refine ⟨?_, ?_⟩)))) (by (repeat' (first | exact trivial | exact rfl | (refine ⟨Or.inl rfl, ?_⟩) | (refine ⟨Or.inr rfl, ?_⟩) | (refine ⟨Or.inr trivial, ?_⟩) | (refine ⟨rfl, ?_⟩) | (refine ⟨?_, ?_⟩)))) ?_
  intro k ⟨hk, hf⟩
  by_cases hlt : k < a.length
  · obtain ⟨x, hx, hd⟩ := drop_at hlt
    obtain ⟨y, hy, hd'⟩ := drop_at (show k < b.length by omega)
    rw [hd, hd', eleq] at hf
    repeat' (first | ((with_reducible refine gA ?_); (first | refine AW_seq ?_ | refine AW_region ?_ | refine AW_regionD Tryz.mixed ?_ | (refine AW_cond rfl (fun hc => ?_) (fun hc => ?_) <;> try (exfalso; simp only [cmpL] at hc; omega)) | refine AW_block ?_ | refine AW_ret ?_ | refine AW_skip ?_)) | (first | ((with_reducible refine gS ?_); refine Es_s (T := Tryz.tab) rfl rfl rfl rfl ?_) | ((with_reducible refine gD ?_); refine Ed_s (T := Tryz.tab) rfl rfl rfl rfl ?_)) | ((first | ((with_reducible refine gS ?_); apply Es_q) | ((with_reducible refine gD ?_); apply Ed_q)); rfl; rfl; refine LStep_neqAgg (T := Tryz.tab) eqS_ent eqG_ent (by omega) rfl rfl rfl rfl rfl rfl) | ((first | ((with_reducible refine gS ?_); apply Es_q) | ((with_reducible refine gD ?_); apply Ed_q)); rfl; rfl; (first | (refine LStep_add rfl rfl rfl rfl ?_; (refine IntWalk.i64_in _ ?_; first | omega | (simp only [cmps] at *; omega))) | (refine LStep_indexM (T := Tryz.tab) (c := ?_) rfl rfl rfl rfl rfl rfl ?_; rotate_left; assumption))) | (with_reducible refine Es_nil ?_) | ((with_reducible refine Ed_nil ?_ ?_); kernel_rfl) | (with_reducible refine then_n ?_) | (with_reducible refine then_r ?_) | (with_reducible refine block_n ?_) | (with_reducible refine block_r ?_) | ((with_reducible refine gR ?_); first | refine ret1 rfl ?_ | refine ret2 rfl rfl ?_ | refine ret0 ?_ | refine end1 rfl ?_ | refine end0 ?_))
    all_goals simp only [not_t, not_f] at *
    · have h : x.eqB y = false := by assumption
      refine congrArg (fun b => AV.d (D.sc (Value.bool b))) ?_; rw [hf, h]; rfl
    · have h : x.eqB y = true := by assumption
      refine ⟨k + 1, ?_, by omega, by (repeat' (first | exact trivial | exact rfl | (refine ⟨Or.inl rfl, ?_⟩) | (refine ⟨Or.inr rfl, ?_⟩) | (refine ⟨Or.inr trivial, ?_⟩) | (refine ⟨rfl, ?_⟩) | (refine ⟨?_, ?_⟩))), by (repeat' (first | exact trivial | exact rfl | (refine ⟨Or.inl rfl, ?_⟩) | (refine ⟨Or.inr rfl, ?_⟩) | (refine ⟨Or.inr trivial, ?_⟩) | (refine ⟨rfl, ?_⟩) | (refine ⟨?_, ?_⟩))), by (repeat' (first | exact trivial | exact rfl | (refine ⟨Or.inl rfl, ?_⟩) | (refine ⟨Or.inr rfl, ?_⟩) | (refine ⟨Or.inr trivial, ?_⟩) | (refine ⟨rfl, ?_⟩) | (refine ⟨?_, ?_⟩))), by (repeat' (first | exact trivial | exact rfl | (refine ⟨Or.inl rfl, ?_⟩) | (refine ⟨Or.inr rfl, ?_⟩) | (refine ⟨Or.inr trivial, ?_⟩) | (refine ⟨rfl, ?_⟩) | (refine ⟨?_, ?_⟩)))⟩; exact ⟨by omega, by rw [hf, h, Bool.true_and]⟩
  · have : k = a.length := by omega
    subst this
    have h2 : b.drop a.length = [] := by rw [hl]; exact drop_end
    rw [drop_end, h2, eleq] at hf
    repeat' (first | ((with_reducible refine gA ?_); (first | refine AW_seq ?_ | refine AW_region ?_ | (refine AW_cond rfl (fun hc => ?_) (fun hc => ?_) <;> try (exfalso; simp only [cmpL] at hc; omega)) | refine AW_ret ?_ | refine AW_exit ?_)) | ((with_reducible refine gS ?_); refine Es_s (T := Tryz.tab) rfl rfl rfl rfl ?_) | (with_reducible refine Es_nil ?_) | (with_reducible refine then_n ?_) | (with_reducible refine then_e ?_) | ((with_reducible refine block_e ?_ ?_); rfl) | ((with_reducible refine gR ?_); first | refine ret1 rfl ?_ | refine ret2 rfl rfl ?_ | refine ret0 ?_ | refine end1 rfl ?_ | refine end0 ?_))
    refine congrArg (fun b => AV.d (D.sc (Value.bool b))) ?_; rw [hf]
def likeB (p q : Post) : Bool := eqb p.number q.number && eqs p.text q.text && eleq p.entries q.entries
theorem likeB_iff {p q : Post} : likeB p q = true ↔ p = q := by
  simp only [likeB, Bool.and_eq_true, eqs_t, eqb_t, eleq_iff]
  constructor
  · rintro ⟨⟨h1, h2⟩, h3⟩; cases p; cases q; simp_all
  · rintro rfl; exact ⟨⟨rfl, rfl⟩, rfl⟩

set_option maxRecDepth 10000 in
theorem like_ac (p q : Post) (hp : p.entries.length ≤ 140737488351232) : AC Tryz.prog 91 [.agg p.cs, .agg q.cs] [] [] (fun r _ => r = .d (.sc (.bool (likeB p q)))) := by
  refine AC_enter Tryz.func91 rfl Tryz.ntmps91 (rv := [.tmp 4]) rfl rfl (by simp) (fun w X G => ?_)
  repeat' (first | ((with_reducible refine gA ?_); (first | refine AW_seq ?_ | refine AW_region ?_ | refine AW_ret ?_)) | ((with_reducible refine gS ?_); refine Es_s (T := Tryz.tab) rfl rfl rfl rfl ?_) | (((with_reducible refine gS ?_); apply Es_q); rfl; (first | rfl | (refine w_tt ?_; assumption)); refine LStep_call (equalE_ac _ _ hp) rfl rfl rfl rfl) | (((with_reducible refine gS ?_); apply Es_q); rfl; (first | rfl | (refine w_tt ?_; assumption)); (first | refine LStep_simp (T := Tryz.tab) rfl rfl | (refine LStep_pickT rfl rfl ?_ rfl rfl; assumption) | (refine LStep_pickF rfl rfl ?_ rfl rfl; assumption))) | (refine Es_skip rfl ?_ rfl ?_; (first | rfl | (refine w_tf ?_; assumption) | (refine w_ft ?_; assumption))) | (((with_reducible refine gS ?_); apply Es_xs); rfl; rfl; refine LStep_boxN rfl rfl rfl rfl rfl rfl; rfl) | (refine Es_split rfl ?_ (fun _ => ?_) (fun _ => ?_); ((fail_if_success (refine und_t ?_; assumption)); (fail_if_success (refine und_f ?_; assumption)); exact trivial)) | (with_reducible refine Es_nil ?_) | (with_reducible refine then_n ?_) | ((with_reducible refine gR ?_); first | refine ret1 rfl ?_ | refine ret2 rfl rfl ?_ | refine ret0 ?_ | refine end1 rfl ?_ | refine end0 ?_))
  all_goals (simp_all [likeB])



/-! ### ref48.Find -/
def nums (l : List Post) : List Int := l.map (·.number)
def firstP (n : Int) (l : List Post) : Option Post := l.find? fun p => n == p.number
theorem firstP_none {n : Int} {l : List Post} : firstP n l = none ↔ n ∉ nums l := by
  unfold firstP nums
  rw [List.find?_eq_none]
  simp only [List.mem_map, not_exists, not_and, beq_iff_eq]
  exact ⟨fun h p hp e => h p hp e.symm, fun h p hp e => h p hp e.symm⟩
theorem firstP_some {n : Int} {l : List Post} {q : Post} (h : firstP n l = some q) : q ∈ l ∧ q.number = n := by
  unfold firstP at h
  exact ⟨List.mem_of_find?_eq_some h, by have := List.find?_some h; simpa using (by simpa using this : n = q.number).symm⟩
end Go.Proofs.YtofdnkgieigncaaGreat
