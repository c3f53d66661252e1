import Derived.Test.YtjlblnplofgpnaaGreatDoorA6
namespace Go.Proofs.YtjlblnplofgpnaaGreatDoor
open Go.SL
/-! ### the document's rows of loads -/
theorem eqS_load : eqS Tryz.tab 8 43 = some [1, 1, 1, 2, 1, 1, 1] := by kernel_rfl
theorem eqG_load : Tryz.prog.eqGuardType Tryz.prog.depth 43 = false := by kernel_rfl
def Sl.eqB (a b : Sl) : Bool := eqb a.b b.b && (eqb a.r b.r && (eqb a.t b.t && true))
def Load.eqB (a b : Load) : Bool := eqb a.sl.b b.sl.b && (eqb a.sl.r b.sl.r && (eqb a.sl.t b.sl.t && (eqs a.box b.box && (eqb a.w b.w && (eqb a.c b.c && (eqb a.p b.p && true))))))
theorem load_eqB {a b : Load} : a.eqB b = decide (a = b) := by
  rw [Bool.eq_iff_iff, decide_eq_true_eq]
  simp only [Load.eqB, Bool.and_eq_true, Bool.and_true, eqb_t, eqs_t]
  constructor
  · rintro ⟨h1, h2, h3, h4, h5, h6, h7⟩
    cases a; cases b
    simp only [Load.mk.injEq]
    exact ⟨Sl_eq.2 ⟨h1, h2, h3⟩, h4, h5, h6, h7⟩
  · rintro rfl
    exact ⟨rfl, rfl, rfl, rfl, rfl, rfl, rfl⟩
/-- the place of the first that is so, from one on -/
def fI (p : Load → Bool) : List Load → Int → Int
  | [], _ => -1
  | x :: l, i => if p x = true then i else fI p l (i + 1)
end Go.Proofs.YtjlblnplofgpnaaGreatDoor
namespace Go.Proofs.YtjlblnplofgpnaaGreatDoor
open Go.SL
/-! ### the document's sums, clashes, rows alike -/
def llE : List Load → List Load → Bool
  | [], [] => true
  | x :: xs, y :: ys => x.eqB y && llE xs ys
  | _, _ => false
theorem llE_eq : ∀ {a b : List Load}, llE a b = decide (a = b)
  | [], [] => by simp [llE]
  | [], y :: b => by simp [llE]
  | x :: a, [] => by simp [llE]
  | x :: a, y :: b => by
    rw [llE, llE_eq, load_eqB, Bool.eq_iff_iff]
    simp
theorem llE_len {a b : List Load} (h : a.length ≠ b.length) : llE a b = false := by
  rw [llE_eq, decide_eq_false_iff_not]
  rintro rfl
  exact h rfl
set_option maxRecDepth 10000 in
set_option maxHeartbeats 2000000 in
theorem rSame_ac (a b : List Load) (ha : a.length ≤ 140737488351232) : AC Tryz.prog 14 [.d (.sl 7 (a.map Load.enc)), .d (.sl 7 (b.map Load.enc))] [] [] (fun r _ => r = .d (.sc (.bool (llE a b)))) := by
  refine AC_enter Tryz.func14 rfl Tryz.ntmps14 (rv := [.tmp 4]) rfl rfl (by simp) (fun w X G => ?_)
  repeat' (first | ((with_reducible refine gA ?_); (first | refine AW_seq ?_ | refine AW_region ?_ | (refine AW_cond rfl (fun hc => ?_) (fun hc => ?_) <;> try (exfalso; simp only [cmpL] at hc; omega)) | refine AW_block ?_ | refine AW_ret ?_ | refine AW_skip ?_)) | ((with_reducible refine gS ?_); refine Es_s (T := Tryz.tab) rfl rfl rfl rfl ?_) | (((with_reducible refine gS ?_); apply Es_q); rfl; rfl; refine LStep_lenM (T := Tryz.tab) rfl rfl rfl rfl) | (with_reducible refine Es_nil ?_) | (with_reducible refine then_n ?_) | (with_reducible refine then_r ?_) | ((with_reducible refine gR ?_); first | refine ret1 rfl ?_ | refine ret2 rfl rfl ?_ | refine ret0 ?_ | refine end1 rfl ?_ | refine end0 ?_))
  all_goals simp only [cmps] at *
  · refine congrArg (fun b => AV.d (D.sc (Value.bool b))) ?_; rw [llE_len (by omega)]
  have hl : a.length = b.length := by omega
  refine AW_forE (S := Nat) (fun k => k ≤ a.length ∧ llE a b = llE (a.drop k) (b.drop k)) (fun k => [(5, .d (.sc (.int .i64 (k : Nat))))]) (fun _ => []) (fun k => a.length - k) 0 ⟨by omega, rfl⟩ (by (repeat' (first | exact trivial | exact rfl | (refine ⟨Or.inl rfl, ?_⟩) | (refine ⟨Or.inr rfl, ?_⟩) | (refine ⟨Or.inr trivial, ?_⟩) | (refine ⟨rfl, ?_⟩) | (refine ⟨?_, ?_⟩)))) (by (repeat' (first | exact trivial | exact rfl | (refine ⟨Or.inl rfl, ?_⟩) | (refine ⟨Or.inr rfl, ?_⟩) | (refine ⟨Or.inr trivial, ?_⟩) | (refine ⟨rfl, ?_⟩) | (refine ⟨?_, ?_⟩)))) ?_
  intro k ⟨hk, hf⟩
  by_cases hlt : k < a.length
  · obtain ⟨x, hx, hd⟩ := drop_at hlt
    obtain ⟨y, hy, hd'⟩ := drop_at (show k < b.length by omega)
    rw [hd, hd', llE] at hf
    repeat' (first | ((with_reducible refine gA ?_); (first | refine AW_seq ?_ | refine AW_region ?_ | refine AW_regionD Tryz.mixed ?_ | (refine AW_cond rfl (fun hc => ?_) (fun hc => ?_) <;> try (exfalso; simp only [cmpL] at hc; omega)) | refine AW_block ?_ | refine AW_ret ?_ | refine AW_skip ?_)) | (first | ((with_reducible refine gS ?_); refine Es_s (T := Tryz.tab) rfl rfl rfl rfl ?_) | ((with_reducible refine gD ?_); refine Ed_s (T := Tryz.tab) rfl rfl rfl rfl ?_)) | ((first | ((with_reducible refine gS ?_); apply Es_q) | ((with_reducible refine gD ?_); apply Ed_q)); rfl; rfl; refine LStep_neqAgg (T := Tryz.tab) eqS_load eqG_load (by omega) rfl rfl rfl rfl rfl rfl) | ((first | ((with_reducible refine gS ?_); apply Es_q) | ((with_reducible refine gD ?_); apply Ed_q)); rfl; rfl; (first | refine LStep_lenM (T := Tryz.tab) rfl rfl rfl rfl | (refine LStep_add rfl rfl rfl rfl ?_; (refine IntWalk.i64_in _ ?_; first | omega | (simp only [cmps] at *; omega))) | (refine LStep_indexM (T := Tryz.tab) (c := ?_) rfl rfl rfl rfl rfl rfl ?_; rotate_left; assumption))) | (with_reducible refine Es_nil ?_) | ((with_reducible refine Ed_nil ?_ ?_); kernel_rfl) | (with_reducible refine then_n ?_) | (with_reducible refine then_r ?_) | (with_reducible refine block_n ?_) | (with_reducible refine block_r ?_) | ((with_reducible refine gR ?_); first | refine ret1 rfl ?_ | refine ret2 rfl rfl ?_ | refine ret0 ?_ | refine end1 rfl ?_ | refine end0 ?_))
    all_goals simp only [not_t, not_f] at *
    · have h : x.eqB y = false := by assumption
      refine congrArg (fun b => AV.d (D.sc (Value.bool b))) ?_; rw [hf, h]; rfl
    · have h : x.eqB y = true := by assumption
      refine ⟨k + 1, ?_, by omega, by (repeat' (first | exact trivial | exact rfl | (refine ⟨Or.inl rfl, ?_⟩) | (refine ⟨Or.inr rfl, ?_⟩) | (refine ⟨Or.inr trivial, ?_⟩) | (refine ⟨rfl, ?_⟩) | (refine ⟨?_, ?_⟩))), by (repeat' (first | exact trivial | exact rfl | (refine ⟨Or.inl rfl, ?_⟩) | (refine ⟨Or.inr rfl, ?_⟩) | (refine ⟨Or.inr trivial, ?_⟩) | (refine ⟨rfl, ?_⟩) | (refine ⟨?_, ?_⟩))), by (repeat' (first | exact trivial | exact rfl | (refine ⟨Or.inl rfl, ?_⟩) | (refine ⟨Or.inr rfl, ?_⟩) | (refine ⟨Or.inr trivial, ?_⟩) | (refine ⟨rfl, ?_⟩) | (refine ⟨?_, ?_⟩))), by (repeat' (first | exact trivial | exact rfl | (refine ⟨Or.inl rfl, ?_⟩) | (refine ⟨Or.inr rfl, ?_⟩) | (refine ⟨Or.inr trivial, ?_⟩) | (refine ⟨rfl, ?_⟩) | (refine ⟨?_, ?_⟩)))⟩; exact ⟨by omega, by rw [hf, h, Bool.true_and]⟩
  · have : k = a.length := by omega
    subst this
    have h2 : b.drop a.length = [] := by rw [hl]; exact drop_end
    rw [drop_end, h2, llE] at hf
    repeat' (first | ((with_reducible refine gA ?_); (first | refine AW_seq ?_ | refine AW_region ?_ | (refine AW_cond rfl (fun hc => ?_) (fun hc => ?_) <;> try (exfalso; simp only [cmpL] at hc; omega)) | refine AW_ret ?_ | refine AW_exit ?_)) | ((with_reducible refine gS ?_); refine Es_s (T := Tryz.tab) rfl rfl rfl rfl ?_) | (((with_reducible refine gS ?_); apply Es_q); rfl; rfl; refine LStep_lenM (T := Tryz.tab) rfl rfl rfl rfl) | (with_reducible refine Es_nil ?_) | (with_reducible refine then_n ?_) | (with_reducible refine then_e ?_) | ((with_reducible refine block_e ?_ ?_); rfl) | ((with_reducible refine gR ?_); first | refine ret1 rfl ?_ | refine ret2 rfl rfl ?_ | refine ret0 ?_ | refine end1 rfl ?_ | refine end0 ?_))
    refine congrArg (fun b => AV.d (D.sc (Value.bool b))) ?_; rw [hf]
end Go.Proofs.YtjlblnplofgpnaaGreatDoor
namespace Go.Proofs.YtjlblnplofgpnaaGreatDoor
open Go.SL
/-! ### the document's Without, Put -/
end Go.Proofs.YtjlblnplofgpnaaGreatDoor
namespace Go.Proofs.YtjlblnplofgpnaaGreatDoor
open Go.SL
/-! ### the document's Above, Over -/

end Go.Proofs.YtjlblnplofgpnaaGreatDoor
namespace Go.Proofs.YtjlblnplofgpnaaGreatDoor
open Go.SL
/-! ### places: plain -/
theorem fI_none {p : Load → Bool} : ∀ {l : List Load} {i : Int}, (∀ x ∈ l, p x = false) → fI p l i = -1
  | [], _, _ => rfl
  | x :: l, i, h => by
    rw [fI, if_neg (by rw [h x List.mem_cons_self]; decide), fI_none (fun y hy => h y (List.mem_cons_of_mem _ hy))]
theorem fI_some {p : Load → Bool} : ∀ {l : List Load} {i : Int}, (∃ x ∈ l, p x = true) → ∃ (j : Nat) (x : Load), l[j]? = some x ∧ p x = true ∧ fI p l i = i + j
  | [], _, ⟨x, hx, _⟩ => by cases hx
  | y :: l, i, ⟨x, hx, hp⟩ => by
    by_cases h : p y = true
    · exact ⟨0, y, rfl, h, by rw [fI, if_pos h]; simp⟩
    · have hx' : x ∈ l := (List.mem_cons.1 hx).resolve_left (fun e => h (e ▸ hp))
      obtain ⟨j, z, h1, h2, h3⟩ := fI_some (i := i + 1) ⟨x, hx', hp⟩
      refine ⟨j + 1, z, by simpa using h1, h2, ?_⟩
      rw [fI, if_neg h, h3, Int.natCast_succ]
      omega
theorem by_place {M : List Load} (hn : (M.map (·.box)).Nodup) (s : ByteArray) : (byB M s = none ∧ fI (fun y => eqs y.box s) M 0 = -1) ∨ ∃ (j : Nat) (y : Load), M[j]? = some y ∧ byB M s = some y ∧ fI (fun y => eqs y.box s) M 0 = (j : Nat) := by
  cases hq : byB M s with
  | none =>
    refine .inl ⟨rfl, fI_none (fun x hx => ?_)⟩
    cases h : eqs x.box s with
    | false => rfl
    | true => exact absurd (eqs_t.1 h) (byB_none.1 hq x hx)
  | some y =>
    obtain ⟨h1, h2⟩ := (byB_some hn).1 hq
    obtain ⟨j, z, g1, g2, g3⟩ := fI_some (p := fun y => eqs y.box s) (i := 0) ⟨y, h1, eqs_t.2 h2⟩
    have := (byB_some hn).2 ⟨List.mem_of_getElem? g1, eqs_t.1 g2⟩
    rw [hq] at this
    injection this with this
    subst this
    exact .inr ⟨j, y, g1, rfl, by rw [g3]; simp⟩
end Go.Proofs.YtjlblnplofgpnaaGreatDoor
namespace Go.Proofs.YtjlblnplofgpnaaGreatDoor
open Go.SL
/-! ### the document's Wrong -/
end Go.Proofs.YtjlblnplofgpnaaGreatDoor
