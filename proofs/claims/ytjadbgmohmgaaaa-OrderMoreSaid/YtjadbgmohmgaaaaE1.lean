import Derived.Test.YtjadbgmohmgaaaaC4
import Derived.Test.YtjadbgmohmgaaaaSl
namespace Go.Proofs.Ytjadbgmohmgaaaa
open Go.SL

/-! ### maps with string keys, by the last put -/
theorem mat_shift (k : Value) : ∀ (es : List (Value × AV)) (i : Nat), mat k es i = (mat k es 0).map (fun p => (p.1 + i, p.2))
  | [], _ => rfl
  | (k', c) :: es, i => by
    unfold mat
    cases keq k k'
    · simp only [cond_false]
      rw [mat_shift k es (i + 1), mat_shift k es 1]
      cases mat k es 0 with
      | none => rfl
      | some p => simp only [Option.map_some, Option.some.injEq, Prod.mk.injEq, and_true]; omega
    · simp
theorem mput_nil (k : Value) (c : AV) : mput k c [] = [(k, c)] := rfl
theorem mput_cons (k k' : Value) (c d : AV) (es : List (Value × AV)) : mput k c ((k', d) :: es) = bif keq k k' then (k, c) :: es else (k', d) :: mput k c es := by
  unfold mput
  rw [mat]
  cases keq k k'
  · simp only [cond_false]
    rw [mat_shift k es 1]
    cases mat k es 0 with
    | none => rfl
    | some p => rfl
  · rfl
theorem mfind_cons (k k' : Value) (d : AV) (es : List (Value × AV)) : mfind k ((k', d) :: es) = bif keq k k' then some d else mfind k es := by
  unfold mfind
  rw [mat]
  cases keq k k'
  · simp only [cond_false]
    rw [mat_shift k es 1]
    cases mat k es 0 <;> rfl
  · rfl
theorem keq_str (a b : ByteArray) : keq (.string a) (.string b) = decide (a = b) := by
  show (a == b) = _
  rw [Bool.eq_iff_iff]; simp [Go.MapKept.bytes_beq]
def StrKeys (es : List (Value × AV)) : Prop := ∀ p ∈ es, ∃ s, p.1 = .string s
theorem StrKeys.put {es : List (Value × AV)} (h : StrKeys es) (g : ByteArray) (c : AV) : StrKeys (mput (.string g) c es) := by
  induction es with
  | nil => intro p hp; rw [mput_nil] at hp; simp at hp; subst hp; exact ⟨g, rfl⟩
  | cons q es ih =>
    obtain ⟨k', d⟩ := q
    rw [mput_cons]
    have h1 := h (k', d) (by simp)
    have h2 := ih (fun p hp => h p (by simp [hp]))
    cases keq (.string g) k'
    · intro p hp
      rcases List.mem_cons.1 hp with e | hp
      · subst e; exact h1
      · exact h2 p hp
    · intro p hp
      rcases List.mem_cons.1 hp with e | hp
      · subst e; exact ⟨g, rfl⟩
      · exact h p (by simp [hp])
theorem mfind_put {es : List (Value × AV)} (h : StrKeys es) (g k : ByteArray) (c : AV) : mfind (.string g) (mput (.string k) c es) = if g = k then some c else mfind (.string g) es := by
  induction es with
  | nil =>
    rw [mput_nil, mfind_cons, keq_str]
    by_cases e : g = k <;> simp [e]
  | cons q es ih =>
    obtain ⟨k', d⟩ := q
    obtain ⟨s, hs⟩ := h (k', d) (by simp)
    simp only at hs
    subst hs
    have ih := ih (fun p hp => h p (by simp [hp]))
    rw [mput_cons, keq_str]
    by_cases e : k = s
    · subst e
      simp only [decide_true, cond_true]
      rw [mfind_cons, mfind_cons, keq_str]
      by_cases e2 : g = k <;> simp [e2]
    · rw [decide_eq_false e, cond_false, mfind_cons, mfind_cons, ih, keq_str]
      by_cases e2 : g = s
      · subst e2
        rw [decide_eq_true rfl, cond_true, cond_true, if_neg (fun x => e x.symm)]
      · rw [decide_eq_false e2]; rfl

def Line.cs (x : Line) : List AV := [.d (.sc (.string x.good)), .d (.sc (.int .i64 x.count)), .d (.sc (.int .i64 x.price))]
def Lot.cs (x : Lot) : List AV := [.d (.sc (.string x.good)), .d (.sc (.int .i64 x.count))]
def Cons.cs (c : Cons) : List AV := [.d (.sc (.string c.order)), .d (.sc (.int .i64 c.number)), .d (.sc (.int .i64 c.latest)), .d (.sl 2 (c.lots.map Lot.enc))]
def goodE (l : List Line) : List (Value × AV) := l.foldl (fun es x => mput (.string x.good) (.agg x.cs) es) []
theorem goodE_snoc (l : List Line) (x : Line) : goodE (l ++ [x]) = mput (.string x.good) (.agg x.cs) (goodE l) := by simp [goodE]
def lastL (g : ByteArray) (l : List Line) : Option Line := l.foldl (fun r x => if g = x.good then some x else r) none
theorem lastL_snoc (g : ByteArray) (l : List Line) (x : Line) : lastL g (l ++ [x]) = if g = x.good then some x else lastL g l := by simp [lastL]
theorem list_snoc {α : Type} {p : List α → Prop} (h0 : p []) (h1 : ∀ l x, p l → p (l ++ [x])) (l : List α) : p l := by
  have : ∀ r : List α, p r.reverse := by
    intro r
    induction r with
    | nil => exact h0
    | cons x r ih => rw [List.reverse_cons]; exact h1 _ _ ih
  have h := this l.reverse
  rwa [List.reverse_reverse] at h
theorem goodE_keys (l : List Line) : StrKeys (goodE l) := by
  refine list_snoc (p := fun l => StrKeys (goodE l)) (fun p hp => by simp [goodE] at hp) (fun l x ih => ?_) l
  rw [goodE_snoc]; exact ih.put _ _
theorem goodE_find (g : ByteArray) (l : List Line) : mfind (.string g) (goodE l) = (lastL g l).map fun x => .agg x.cs := by
  refine list_snoc (p := fun l => mfind (.string g) (goodE l) = (lastL g l).map fun x => .agg x.cs) rfl (fun l x ih => ?_) l
  rw [goodE_snoc, mfind_put (goodE_keys l), lastL_snoc, ih]
  by_cases e : g = x.good <;> simp [e]
theorem lastL_mem {g : ByteArray} {l : List Line} {x : Line} : lastL g l = some x → x ∈ l ∧ x.good = g := by
  refine list_snoc (p := fun l => lastL g l = some x → x ∈ l ∧ x.good = g) (fun h => by simp [lastL] at h) (fun l y ih h => ?_) l
  rw [lastL_snoc] at h
  split at h
  · rename_i e
    cases h
    exact ⟨by simp, e.symm⟩
  · have := ih h
    exact ⟨by simp [this.1], this.2⟩
theorem lastL_none {g : ByteArray} {l : List Line} : lastL g l = none ↔ g ∉ l.map Line.good := by
  refine list_snoc (p := fun l => lastL g l = none ↔ g ∉ l.map Line.good) (by simp [lastL]) (fun l y ih => ?_) l
  rw [lastL_snoc]
  by_cases e : g = y.good
  · simp [e]
  · rw [if_neg e, ih]; simp [e]
theorem good_keys (l : List Line) : ∀ p ∈ goodE l, keyB .string p.1 = true := keys_str (goodE_keys l)

set_option maxRecDepth 10000 in
theorem byGood_ac (o : Ord) (hl : o.lines.length ≤ 140737488351232) : AC Try.prog 25 [.agg o.cs] [] [] (fun r h' => r = .mp 9 ∧ SubH [(9, some (.map 9 34 (goodE o.lines) none))] h') := by
  refine AC_enter Try.func25 rfl Try.ntmps25 (rv := [.tmp 2]) rfl rfl (by simp) (fun w X G => ?_)
  repeat' (first | ((with_reducible refine gA ?_); (first | refine AW_seq ?_ | refine AW_region ?_ | refine AW_block ?_)) | ((with_reducible refine gS ?_); refine Es_s (T := Try.tab) rfl rfl rfl rfl ?_) | (((with_reducible refine gS ?_); apply Es_q); rfl; rfl; refine LStep_lenM (T := Try.tab) rfl rfl rfl rfl) | (refine Es_skip rfl ?_ rfl ?_; (first | rfl | (refine w_tf ?_; assumption) | (refine w_ft ?_; assumption))) | (((with_reducible refine gS ?_); apply Es_xs); rfl; rfl; (first | refine LStep_boxN rfl rfl rfl rfl rfl rfl | refine LStep_makeMapN (T := Try.tab) rfl rfl rfl rfl rfl rfl); rfl) | (with_reducible refine Es_nil ?_) | (with_reducible refine then_n ?_))
  refine AW_forE (S := Nat) (fun k => k ≤ o.lines.length) (fun k => [(13, .d (.sc (.int .i64 (k : Nat))))]) (fun k => [(9, some (.map 9 34 (goodE (o.lines.take k)) none))]) (fun k => o.lines.length - k) 0 (by omega) (by (repeat' (first | exact trivial | exact rfl | (refine ⟨Or.inl rfl, ?_⟩) | (refine ⟨Or.inr rfl, ?_⟩) | (refine ⟨Or.inr trivial, ?_⟩) | (refine ⟨rfl, ?_⟩) | (refine ⟨?_, ?_⟩)))) (by (repeat' (first | exact trivial | exact rfl | (refine ⟨Or.inl rfl, ?_⟩) | (refine ⟨Or.inr rfl, ?_⟩) | (refine ⟨Or.inr trivial, ?_⟩) | (refine ⟨rfl, ?_⟩) | (refine ⟨?_, ?_⟩)))) ?_
  intro k hk
  by_cases hlt : k < o.lines.length
  · obtain ⟨x, hx, hd⟩ := drop_at hlt
    have ht : goodE (o.lines.take (k + 1)) = mput (.string x.good) (.agg x.cs) (goodE (o.lines.take k)) := by rw [take_at hx, goodE_snoc]
    repeat' (first | ((with_reducible refine gA ?_); (first | refine AW_seq ?_ | refine AW_region ?_ | (refine AW_cond rfl (fun hc => ?_) (fun hc => ?_) <;> try (exfalso; simp only [cmpL] at hc; omega)) | refine AW_block ?_ | refine AW_skip ?_)) | ((with_reducible refine gS ?_); refine Es_s (T := Try.tab) rfl rfl rfl rfl ?_) | (((with_reducible refine gS ?_); apply Es_xn); rfl; rfl; (refine LStep_mapUpdate (T := Try.tab) rfl rfl rfl rfl rfl rfl rfl rfl rfl ?_ rfl; exact good_keys _); rfl) | (((with_reducible refine gS ?_); apply Es_q); rfl; rfl; (first | (refine LStep_add rfl rfl rfl rfl ?_; (refine IntWalk.i64_in _ ?_; first | omega | (simp only [cmps] at *; omega))) | (refine LStep_indexM (T := Try.tab) (c := ?_) rfl rfl rfl rfl rfl rfl ?_; rotate_left; assumption))) | (refine Es_skip rfl ?_ rfl ?_; (first | rfl | (refine w_tf ?_; assumption) | (refine w_ft ?_; assumption))) | (((with_reducible refine gS ?_); apply Es_xs); rfl; rfl; refine LStep_allocN (T := Try.tab) rfl rfl rfl rfl rfl rfl; rfl) | (((with_reducible refine gS ?_); apply Es_xn); rfl; rfl; (refine LStep_storeN (T := Try.tab) rfl rfl rfl rfl rfl rfl rfl ?_ rfl; (refine Nat.le_of_ble_eq_true ?_; rfl)); rfl) | (with_reducible refine Es_nil ?_) | (with_reducible refine then_n ?_) | (with_reducible refine block_n ?_))
    refine ⟨k + 1, by omega, by omega, by (repeat' (first | exact trivial | exact rfl | (refine ⟨Or.inl rfl, ?_⟩) | (refine ⟨Or.inr rfl, ?_⟩) | (refine ⟨Or.inr trivial, ?_⟩) | (refine ⟨rfl, ?_⟩) | (refine ⟨?_, ?_⟩))), by (repeat' (first | exact trivial | exact rfl | (refine ⟨Or.inl rfl, ?_⟩) | (refine ⟨Or.inr rfl, ?_⟩) | (refine ⟨Or.inr trivial, ?_⟩) | (refine ⟨rfl, ?_⟩) | (refine ⟨?_, ?_⟩))), ?_, by (repeat' (first | exact trivial | exact rfl | (refine ⟨Or.inl rfl, ?_⟩) | (refine ⟨Or.inr rfl, ?_⟩) | (refine ⟨Or.inr trivial, ?_⟩) | (refine ⟨rfl, ?_⟩) | (refine ⟨?_, ?_⟩)))⟩
    rw [ht]
    (repeat' (first | exact trivial | exact rfl | (refine ⟨Or.inl rfl, ?_⟩) | (refine ⟨Or.inr rfl, ?_⟩) | (refine ⟨Or.inr trivial, ?_⟩) | (refine ⟨rfl, ?_⟩) | (refine ⟨?_, ?_⟩)))
  · have : k = o.lines.length := by omega
    subst this
    repeat' (first | ((with_reducible refine gA ?_); (first | refine AW_seq ?_ | refine AW_region ?_ | (refine AW_cond rfl (fun hc => ?_) (fun hc => ?_) <;> try (exfalso; simp only [cmpL] at hc; omega)) | refine AW_ret ?_ | refine AW_exit ?_)) | ((with_reducible refine gS ?_); refine Es_s (T := Try.tab) rfl rfl rfl rfl ?_) | (with_reducible refine Es_nil ?_) | (with_reducible refine then_n ?_) | (with_reducible refine then_e ?_) | ((with_reducible refine block_e ?_ ?_); rfl) | ((with_reducible refine gR ?_); first | refine ret1 rfl ?_ | refine ret2 rfl rfl ?_ | refine ret0 ?_ | refine end1 rfl ?_ | refine end0 ?_))
    rw [List.take_length]
    exact ⟨rfl, rfl, trivial⟩

/-! ### of, and what is asked by closures -/
def lotOk (x : Lot) : Bool := nameOk x.good && countB x.count
def ofB (o : Ord) (c : Cons) : Bool := decide (c.order = o.number) && c.lots.all lotOk
set_option maxRecDepth 10000 in
theorem of_ac (o : Ord) (c : Cons) (hl : c.lots.length ≤ 140737488351232) : AC Try.prog 35 [.agg o.cs, .agg c.cs] [] [] (fun r _ => r = .d (.sc (.bool (ofB o c)))) := by
  refine AC_enter Try.func35 rfl Try.ntmps35 (rv := [.tmp 4]) rfl rfl (by simp) (fun w X G => ?_)
  repeat' (first | ((with_reducible refine gA ?_); (first | refine AW_seq ?_ | refine AW_region ?_ | (refine AW_cond rfl (fun hc => ?_) (fun hc => ?_) <;> try (exfalso; simp only [cmpL] at hc; omega)) | refine AW_block ?_ | refine AW_ret ?_ | refine AW_skip ?_)) | ((with_reducible refine gS ?_); refine Es_s (T := Try.tab) rfl rfl rfl rfl ?_) | (((with_reducible refine gS ?_); apply Es_q); rfl; rfl; refine LStep_lenM (T := Try.tab) rfl rfl rfl rfl) | (refine Es_skip rfl ?_ rfl ?_; (first | rfl | (refine w_tf ?_; assumption) | (refine w_ft ?_; assumption))) | (((with_reducible refine gS ?_); apply Es_xs); rfl; rfl; refine LStep_boxN rfl rfl rfl rfl rfl rfl; rfl) | (with_reducible refine Es_nil ?_) | (with_reducible refine then_n ?_) | (with_reducible refine then_r ?_) | ((with_reducible refine gR ?_); first | refine ret1 rfl ?_ | refine ret2 rfl rfl ?_ | refine ret0 ?_ | refine end1 rfl ?_ | refine end0 ?_))
  all_goals simp only [cmps] at *
  · refine congrArg (fun b => AV.d (D.sc (Value.bool b))) ?_; have h : ¬ c.order = o.number := by assumption
    simp [ofB, h]
  have e : ofB o c = c.lots.all lotOk := by
    have h : c.order = o.number := by assumption
    simp [ofB, h]
  rw [e]
  refine AW_forE (S := Nat) (fun k => k ≤ c.lots.length ∧ c.lots.all lotOk = (c.lots.drop k).all lotOk) (fun k => [(15, .d (.sc (.int .i64 (k : Nat))))]) (fun k => []) (fun k => c.lots.length - k) 0 ⟨by omega, rfl⟩ (by (repeat' (first | exact trivial | exact rfl | (refine ⟨Or.inl rfl, ?_⟩) | (refine ⟨Or.inr rfl, ?_⟩) | (refine ⟨Or.inr trivial, ?_⟩) | (refine ⟨rfl, ?_⟩) | (refine ⟨?_, ?_⟩)))) (by (repeat' (first | exact trivial | exact rfl | (refine ⟨Or.inl rfl, ?_⟩) | (refine ⟨Or.inr rfl, ?_⟩) | (refine ⟨Or.inr trivial, ?_⟩) | (refine ⟨rfl, ?_⟩) | (refine ⟨?_, ?_⟩)))) ?_
  intro k ⟨hk, hf⟩
  by_cases hlt : k < c.lots.length
  · obtain ⟨x, hx, hd⟩ := drop_at hlt
    rw [hd, List.all_cons] at hf
    repeat' (first | ((with_reducible refine gA ?_); (first | refine AW_seq ?_ | refine AW_region ?_ | refine AW_condT rfl ?_ | (refine AW_cond rfl (fun hc => ?_) (fun hc => ?_) <;> try (exfalso; simp only [cmpL] at hc; omega)) | refine AW_block ?_ | refine AW_ret ?_ | refine AW_skip ?_)) | ((with_reducible refine gS ?_); refine Es_s (T := Try.tab) rfl rfl rfl rfl ?_) | (((with_reducible refine gS ?_); apply Es_q); rfl; (first | rfl | (refine w_ff ?_; assumption)); (first | refine LStep_call (name_ac _) rfl rfl rfl rfl | refine LStep_call (counts_ac _) rfl rfl rfl rfl)) | (((with_reducible refine gS ?_); apply Es_q); rfl; (first | rfl | (refine w_ff ?_; assumption)); (first | refine LStep_simp (T := Try.tab) rfl rfl | (refine LStep_add rfl rfl rfl rfl ?_; (refine IntWalk.i64_in _ ?_; first | omega | (simp only [cmps] at *; omega))) | (refine LStep_pickT rfl rfl ?_ rfl rfl; assumption) | (refine LStep_pickF rfl rfl ?_ rfl rfl; assumption) | (refine LStep_indexM (T := Try.tab) (c := ?_) rfl rfl rfl rfl rfl rfl ?_; rotate_left; assumption))) | (refine Es_skip rfl ?_ rfl ?_; (first | rfl | (refine w_tf ?_; assumption) | (refine w_ft ?_; assumption))) | (((with_reducible refine gS ?_); apply Es_xs); rfl; rfl; refine LStep_allocN (T := Try.tab) rfl rfl rfl rfl rfl rfl; rfl) | (((with_reducible refine gS ?_); apply Es_xn); rfl; rfl; (refine LStep_storeN (T := Try.tab) rfl rfl rfl rfl rfl rfl rfl ?_ rfl; (refine Nat.le_of_ble_eq_true ?_; rfl)); rfl) | (refine Es_split rfl ?_ (fun _ => ?_) (fun _ => ?_); ((fail_if_success (refine und_t ?_; assumption)); (fail_if_success (refine und_f ?_; assumption)); exact trivial)) | (with_reducible refine Es_nil ?_) | (with_reducible refine then_n ?_) | (with_reducible refine then_r ?_) | (with_reducible refine block_n ?_) | (with_reducible refine block_r ?_) | ((with_reducible refine gR ?_); first | refine ret1 rfl ?_ | refine ret2 rfl rfl ?_ | refine ret0 ?_ | refine end1 rfl ?_ | refine end0 ?_))
    all_goals simp only [not_t, not_f] at *
    · have h : nameOk x.good = false := by assumption
      refine congrArg (fun b => AV.d (D.sc (Value.bool b))) ?_; simp [hf, lotOk, h]
    · have h : countB x.count = false := by assumption
      refine congrArg (fun b => AV.d (D.sc (Value.bool b))) ?_; simp [hf, lotOk, h]
    · have h1 : nameOk x.good = true := by assumption
      have h2 : countB x.count = true := by assumption
      refine ⟨k + 1, ?_, by omega, by (repeat' (first | exact trivial | exact rfl | (refine ⟨Or.inl rfl, ?_⟩) | (refine ⟨Or.inr rfl, ?_⟩) | (refine ⟨Or.inr trivial, ?_⟩) | (refine ⟨rfl, ?_⟩) | (refine ⟨?_, ?_⟩))), by (repeat' (first | exact trivial | exact rfl | (refine ⟨Or.inl rfl, ?_⟩) | (refine ⟨Or.inr rfl, ?_⟩) | (refine ⟨Or.inr trivial, ?_⟩) | (refine ⟨rfl, ?_⟩) | (refine ⟨?_, ?_⟩))), by (repeat' (first | exact trivial | exact rfl | (refine ⟨Or.inl rfl, ?_⟩) | (refine ⟨Or.inr rfl, ?_⟩) | (refine ⟨Or.inr trivial, ?_⟩) | (refine ⟨rfl, ?_⟩) | (refine ⟨?_, ?_⟩))), by (repeat' (first | exact trivial | exact rfl | (refine ⟨Or.inl rfl, ?_⟩) | (refine ⟨Or.inr rfl, ?_⟩) | (refine ⟨Or.inr trivial, ?_⟩) | (refine ⟨rfl, ?_⟩) | (refine ⟨?_, ?_⟩)))⟩; exact ⟨by omega, by simp [hf, lotOk, h1, h2]⟩
  · have : k = c.lots.length := by omega
    subst this
    repeat' (first | ((with_reducible refine gA ?_); (first | refine AW_seq ?_ | refine AW_region ?_ | (refine AW_cond rfl (fun hc => ?_) (fun hc => ?_) <;> try (exfalso; simp only [cmpL] at hc; omega)) | refine AW_ret ?_ | refine AW_exit ?_)) | ((with_reducible refine gS ?_); refine Es_s (T := Try.tab) rfl rfl rfl rfl ?_) | (with_reducible refine Es_nil ?_) | (with_reducible refine then_n ?_) | (with_reducible refine then_e ?_) | ((with_reducible refine block_e ?_ ?_); rfl) | ((with_reducible refine gR ?_); first | refine ret1 rfl ?_ | refine ret2 rfl rfl ?_ | refine ret0 ?_ | refine end1 rfl ?_ | refine end0 ?_))
    refine congrArg (fun b => AV.d (D.sc (Value.bool b))) ?_; rw [hf, drop_end]; rfl

def chkH (o : Ord) (l : List Cons) (es : List (Value × AV)) : Hp := [(1002, some (.cells o.cs)), (1003, some (.cells [.d (.sl 4 (l.map Cons.enc))])), (1005, some (.cells [.mp 1006])), (1006, some (.map 9 34 es none))]
def idxB {α : Type} (q : α → Bool) : List α → Nat → Int
  | [], _ => -1
  | x :: r, i => if q x then i else idxB q r (i + 1)
theorem idxB_any {α : Type} (q : α → Bool) : ∀ (l : List α) (i : Nat), leb 0 (idxB q l i) = l.any q
  | [], i => by rw [idxB, List.any_nil, leb_f]; omega
  | x :: r, i => by
    rw [idxB, List.any_cons]
    cases hq : q x
    · simpa using idxB_any q r (i + 1)
    · rw [if_pos rfl, Bool.true_or, leb_t]; omega
section
variable (o : Ord) (l0 : List Cons) (es : List (Value × AV))
set_option maxRecDepth 10000 in
theorem idxCons_ac (l : List Cons) (f : FuncId) (j : Nat) (q : Cons → Bool) (hl : l.length ≤ 140737488351232) (hf : ∀ x ∈ l, AC Try.prog f [.agg x.cs, .ptr j 0] (chkH o l0 es) [1002, 1003, 1005, 1006] (fun r h' => r = .d (.sc (.bool (q x))) ∧ Kp (chkH o l0 es) h')) :
    AC Try.prog 48 [.d (.sl 4 (l.map Cons.enc)), .fn f [.ptr j 0]] (chkH o l0 es) [1002, 1003, 1005, 1006] (fun r h' => r = .d (.sc (.int .i64 (idxB q l 0))) ∧ Kp (chkH o l0 es) h') := by
  refine AC_enter Try.func48 rfl Try.ntmps48 (rv := [.tmp 4]) rfl rfl (by simp) (fun w X G => ?_)
  repeat' (first | ((with_reducible refine gA ?_); (first | refine AW_seq ?_ | refine AW_region ?_ | refine AW_block ?_)) | ((with_reducible refine gS ?_); refine Es_s (T := Try.tab) rfl rfl rfl rfl ?_) | (((with_reducible refine gS ?_); apply Es_q); rfl; rfl; refine LStep_lenM (T := Try.tab) rfl rfl rfl rfl) | (with_reducible refine Es_nil ?_) | (with_reducible refine then_n ?_))
  refine AW_forE (S := Nat) (fun k => k ≤ l.length ∧ idxB q l 0 = idxB q (l.drop k) k) (fun k => [(8, .d (.sc (.int .i64 (k : Nat))))]) (fun _ => []) (fun k => l.length - k) 0 ⟨by omega, rfl⟩ (by (repeat' (first | exact trivial | exact rfl | (refine ⟨Or.inl rfl, ?_⟩) | (refine ⟨Or.inr rfl, ?_⟩) | (refine ⟨Or.inr trivial, ?_⟩) | (refine ⟨rfl, ?_⟩) | (refine ⟨?_, ?_⟩)))) (by (repeat' (first | exact trivial | exact rfl | (refine ⟨Or.inl rfl, ?_⟩) | (refine ⟨Or.inr rfl, ?_⟩) | (refine ⟨Or.inr trivial, ?_⟩) | (refine ⟨rfl, ?_⟩) | (refine ⟨?_, ?_⟩)))) ?_
  intro k ⟨hk, hg⟩
  by_cases hlt : k < l.length
  · obtain ⟨x, hx, hd⟩ := drop_at hlt
    rw [hd, idxB] at hg
    have hfx := hf x (List.mem_of_getElem? hx)
    repeat' (first | ((with_reducible refine gA ?_); (first | refine AW_seq ?_ | refine AW_region ?_ | (refine AW_cond rfl (fun hc => ?_) (fun hc => ?_) <;> try (exfalso; simp only [cmpL] at hc; omega)) | refine AW_block ?_ | refine AW_ret ?_ | refine AW_skip ?_)) | ((with_reducible refine gS ?_); refine Es_s (T := Try.tab) rfl rfl rfl rfl ?_) | (((with_reducible refine gS ?_); apply Es_q); rfl; rfl; refine LStep_callB hfx rfl rfl ⟨rfl, rfl, rfl, rfl, trivial⟩ rfl rfl) | (((with_reducible refine gS ?_); apply Es_q); rfl; rfl; (first | (refine LStep_add rfl rfl rfl rfl ?_; (refine IntWalk.i64_in _ ?_; first | omega | (simp only [cmps] at *; omega))) | (refine LStep_indexM (T := Try.tab) (c := ?_) rfl rfl rfl rfl rfl rfl ?_; rotate_left; assumption))) | (with_reducible refine Es_nil ?_) | (with_reducible refine then_n ?_) | (with_reducible refine then_r ?_) | (with_reducible refine block_n ?_) | (with_reducible refine block_r ?_) | ((with_reducible refine gR ?_); first | refine ret1 rfl ?_ | refine ret2 rfl rfl ?_ | refine ret0 ?_ | refine end1 rfl ?_ | refine end0 ?_))
    · have h : q x = true := by assumption
      exact ⟨by rw [hg, if_pos h], Kp.sub ⟨rfl, rfl, rfl, rfl, trivial⟩⟩
    · have h : q x = false := by assumption
      refine ⟨k + 1, ?_, by omega, by (repeat' (first | exact trivial | exact rfl | (refine ⟨Or.inl rfl, ?_⟩) | (refine ⟨Or.inr rfl, ?_⟩) | (refine ⟨Or.inr trivial, ?_⟩) | (refine ⟨rfl, ?_⟩) | (refine ⟨?_, ?_⟩))), by (repeat' (first | exact trivial | exact rfl | (refine ⟨Or.inl rfl, ?_⟩) | (refine ⟨Or.inr rfl, ?_⟩) | (refine ⟨Or.inr trivial, ?_⟩) | (refine ⟨rfl, ?_⟩) | (refine ⟨?_, ?_⟩))), by (repeat' (first | exact trivial | exact rfl | (refine ⟨Or.inl rfl, ?_⟩) | (refine ⟨Or.inr rfl, ?_⟩) | (refine ⟨Or.inr trivial, ?_⟩) | (refine ⟨rfl, ?_⟩) | (refine ⟨?_, ?_⟩))), by (repeat' (first | exact trivial | exact rfl | (refine ⟨Or.inl rfl, ?_⟩) | (refine ⟨Or.inr rfl, ?_⟩) | (refine ⟨Or.inr trivial, ?_⟩) | (refine ⟨rfl, ?_⟩) | (refine ⟨?_, ?_⟩)))⟩; exact ⟨by omega, by rw [hg, if_neg (by simp [h])]⟩
  · have : k = l.length := by omega
    subst this
    repeat' (first | ((with_reducible refine gA ?_); (first | refine AW_seq ?_ | refine AW_region ?_ | (refine AW_cond rfl (fun hc => ?_) (fun hc => ?_) <;> try (exfalso; simp only [cmpL] at hc; omega)) | refine AW_ret ?_ | refine AW_exit ?_)) | ((with_reducible refine gS ?_); refine Es_s (T := Try.tab) rfl rfl rfl rfl ?_) | (with_reducible refine Es_nil ?_) | (with_reducible refine then_n ?_) | (with_reducible refine then_e ?_) | ((with_reducible refine block_e ?_ ?_); rfl) | ((with_reducible refine gR ?_); first | refine ret1 rfl ?_ | refine ret2 rfl rfl ?_ | refine ret0 ?_ | refine end1 rfl ?_ | refine end0 ?_))
    exact ⟨by rw [hg, drop_end, idxB], Kp.sub ⟨rfl, rfl, rfl, rfl, trivial⟩⟩
set_option maxRecDepth 10000 in
theorem anyCons_ac (l : List Cons) (f : FuncId) (j : Nat) (q : Cons → Bool) (hl : l.length ≤ 140737488351232) (hf : ∀ x ∈ l, AC Try.prog f [.agg x.cs, .ptr j 0] (chkH o l0 es) [1002, 1003, 1005, 1006] (fun r h' => r = .d (.sc (.bool (q x))) ∧ Kp (chkH o l0 es) h')) :
    AC Try.prog 33 [.d (.sl 4 (l.map Cons.enc)), .fn f [.ptr j 0]] (chkH o l0 es) [1002, 1003, 1005, 1006] (fun r h' => r = .d (.sc (.bool (l.any q))) ∧ Kp (chkH o l0 es) h') := by
  have c := idxCons_ac o l0 es l f j q hl hf
  refine AC_enter Try.func33 rfl Try.ntmps33 (rv := [.tmp 4]) rfl rfl (by simp) (fun w X G => ?_)
  repeat' (first | ((with_reducible refine gA ?_); (first | refine AW_seq ?_ | refine AW_region ?_ | refine AW_ret ?_)) | ((with_reducible refine gS ?_); refine Es_s (T := Try.tab) rfl rfl rfl rfl ?_) | (((with_reducible refine gS ?_); apply Es_q); rfl; rfl; refine LStep_callB c rfl rfl ⟨rfl, rfl, rfl, rfl, trivial⟩ rfl rfl) | (with_reducible refine Es_nil ?_) | (with_reducible refine then_n ?_) | ((with_reducible refine gR ?_); first | refine ret1 rfl ?_ | refine ret2 rfl rfl ?_ | refine ret0 ?_ | refine end1 rfl ?_ | refine end0 ?_))
  exact ⟨by rw [idxB_any], Kp.sub ⟨rfl, rfl, rfl, rfl, trivial⟩⟩
set_option maxRecDepth 10000 in
theorem idxLot_ac (l : List Lot) (f : FuncId) (j : Nat) (q : Lot → Bool) (hl : l.length ≤ 140737488351232) (hf : ∀ x ∈ l, AC Try.prog f [.agg x.cs, .ptr j 0] (chkH o l0 es) [1002, 1003, 1005, 1006] (fun r h' => r = .d (.sc (.bool (q x))) ∧ Kp (chkH o l0 es) h')) :
    AC Try.prog 49 [.d (.sl 2 (l.map Lot.enc)), .fn f [.ptr j 0]] (chkH o l0 es) [1002, 1003, 1005, 1006] (fun r h' => r = .d (.sc (.int .i64 (idxB q l 0))) ∧ Kp (chkH o l0 es) h') := by
  refine AC_enter Try.func49 rfl Try.ntmps49 (rv := [.tmp 4]) rfl rfl (by simp) (fun w X G => ?_)
  repeat' (first | ((with_reducible refine gA ?_); (first | refine AW_seq ?_ | refine AW_region ?_ | refine AW_block ?_)) | ((with_reducible refine gS ?_); refine Es_s (T := Try.tab) rfl rfl rfl rfl ?_) | (((with_reducible refine gS ?_); apply Es_q); rfl; rfl; refine LStep_lenM (T := Try.tab) rfl rfl rfl rfl) | (with_reducible refine Es_nil ?_) | (with_reducible refine then_n ?_))
  refine AW_forE (S := Nat) (fun k => k ≤ l.length ∧ idxB q l 0 = idxB q (l.drop k) k) (fun k => [(8, .d (.sc (.int .i64 (k : Nat))))]) (fun _ => []) (fun k => l.length - k) 0 ⟨by omega, rfl⟩ (by (repeat' (first | exact trivial | exact rfl | (refine ⟨Or.inl rfl, ?_⟩) | (refine ⟨Or.inr rfl, ?_⟩) | (refine ⟨Or.inr trivial, ?_⟩) | (refine ⟨rfl, ?_⟩) | (refine ⟨?_, ?_⟩)))) (by (repeat' (first | exact trivial | exact rfl | (refine ⟨Or.inl rfl, ?_⟩) | (refine ⟨Or.inr rfl, ?_⟩) | (refine ⟨Or.inr trivial, ?_⟩) | (refine ⟨rfl, ?_⟩) | (refine ⟨?_, ?_⟩)))) ?_
  intro k ⟨hk, hg⟩
  by_cases hlt : k < l.length
  · obtain ⟨x, hx, hd⟩ := drop_at hlt
    rw [hd, idxB] at hg
    have hfx := hf x (List.mem_of_getElem? hx)
    repeat' (first | ((with_reducible refine gA ?_); (first | refine AW_seq ?_ | refine AW_region ?_ | (refine AW_cond rfl (fun hc => ?_) (fun hc => ?_) <;> try (exfalso; simp only [cmpL] at hc; omega)) | refine AW_block ?_ | refine AW_ret ?_ | refine AW_skip ?_)) | ((with_reducible refine gS ?_); refine Es_s (T := Try.tab) rfl rfl rfl rfl ?_) | (((with_reducible refine gS ?_); apply Es_q); rfl; rfl; refine LStep_callB hfx rfl rfl ⟨rfl, rfl, rfl, rfl, trivial⟩ rfl rfl) | (((with_reducible refine gS ?_); apply Es_q); rfl; rfl; (first | (refine LStep_add rfl rfl rfl rfl ?_; (refine IntWalk.i64_in _ ?_; first | omega | (simp only [cmps] at *; omega))) | (refine LStep_indexM (T := Try.tab) (c := ?_) rfl rfl rfl rfl rfl rfl ?_; rotate_left; assumption))) | (with_reducible refine Es_nil ?_) | (with_reducible refine then_n ?_) | (with_reducible refine then_r ?_) | (with_reducible refine block_n ?_) | (with_reducible refine block_r ?_) | ((with_reducible refine gR ?_); first | refine ret1 rfl ?_ | refine ret2 rfl rfl ?_ | refine ret0 ?_ | refine end1 rfl ?_ | refine end0 ?_))
    · have h : q x = true := by assumption
      exact ⟨by rw [hg, if_pos h], Kp.sub ⟨rfl, rfl, rfl, rfl, trivial⟩⟩
    · have h : q x = false := by assumption
      refine ⟨k + 1, ?_, by omega, by (repeat' (first | exact trivial | exact rfl | (refine ⟨Or.inl rfl, ?_⟩) | (refine ⟨Or.inr rfl, ?_⟩) | (refine ⟨Or.inr trivial, ?_⟩) | (refine ⟨rfl, ?_⟩) | (refine ⟨?_, ?_⟩))), by (repeat' (first | exact trivial | exact rfl | (refine ⟨Or.inl rfl, ?_⟩) | (refine ⟨Or.inr rfl, ?_⟩) | (refine ⟨Or.inr trivial, ?_⟩) | (refine ⟨rfl, ?_⟩) | (refine ⟨?_, ?_⟩))), by (repeat' (first | exact trivial | exact rfl | (refine ⟨Or.inl rfl, ?_⟩) | (refine ⟨Or.inr rfl, ?_⟩) | (refine ⟨Or.inr trivial, ?_⟩) | (refine ⟨rfl, ?_⟩) | (refine ⟨?_, ?_⟩))), by (repeat' (first | exact trivial | exact rfl | (refine ⟨Or.inl rfl, ?_⟩) | (refine ⟨Or.inr rfl, ?_⟩) | (refine ⟨Or.inr trivial, ?_⟩) | (refine ⟨rfl, ?_⟩) | (refine ⟨?_, ?_⟩)))⟩; exact ⟨by omega, by rw [hg, if_neg (by simp [h])]⟩
  · have : k = l.length := by omega
    subst this
    repeat' (first | ((with_reducible refine gA ?_); (first | refine AW_seq ?_ | refine AW_region ?_ | (refine AW_cond rfl (fun hc => ?_) (fun hc => ?_) <;> try (exfalso; simp only [cmpL] at hc; omega)) | refine AW_ret ?_ | refine AW_exit ?_)) | ((with_reducible refine gS ?_); refine Es_s (T := Try.tab) rfl rfl rfl rfl ?_) | (with_reducible refine Es_nil ?_) | (with_reducible refine then_n ?_) | (with_reducible refine then_e ?_) | ((with_reducible refine block_e ?_ ?_); rfl) | ((with_reducible refine gR ?_); first | refine ret1 rfl ?_ | refine ret2 rfl rfl ?_ | refine ret0 ?_ | refine end1 rfl ?_ | refine end0 ?_))
    exact ⟨by rw [hg, drop_end, idxB], Kp.sub ⟨rfl, rfl, rfl, rfl, trivial⟩⟩
set_option maxRecDepth 10000 in
theorem anyLot_ac (l : List Lot) (f : FuncId) (j : Nat) (q : Lot → Bool) (hl : l.length ≤ 140737488351232) (hf : ∀ x ∈ l, AC Try.prog f [.agg x.cs, .ptr j 0] (chkH o l0 es) [1002, 1003, 1005, 1006] (fun r h' => r = .d (.sc (.bool (q x))) ∧ Kp (chkH o l0 es) h')) :
    AC Try.prog 38 [.d (.sl 2 (l.map Lot.enc)), .fn f [.ptr j 0]] (chkH o l0 es) [1002, 1003, 1005, 1006] (fun r h' => r = .d (.sc (.bool (l.any q))) ∧ Kp (chkH o l0 es) h') := by
  have c := idxLot_ac o l0 es l f j q hl hf
  refine AC_enter Try.func38 rfl Try.ntmps38 (rv := [.tmp 4]) rfl rfl (by simp) (fun w X G => ?_)
  repeat' (first | ((with_reducible refine gA ?_); (first | refine AW_seq ?_ | refine AW_region ?_ | refine AW_ret ?_)) | ((with_reducible refine gS ?_); refine Es_s (T := Try.tab) rfl rfl rfl rfl ?_) | (((with_reducible refine gS ?_); apply Es_q); rfl; rfl; refine LStep_callB c rfl rfl ⟨rfl, rfl, rfl, rfl, trivial⟩ rfl rfl) | (with_reducible refine Es_nil ?_) | (with_reducible refine then_n ?_) | ((with_reducible refine gR ?_); first | refine ret1 rfl ?_ | refine ret2 rfl rfl ?_ | refine ret0 ?_ | refine end1 rfl ?_ | refine end0 ?_))
  exact ⟨by rw [idxB_any], Kp.sub ⟨rfl, rfl, rfl, rfl, trivial⟩⟩
end
end Go.Proofs.Ytjadbgmohmgaaaa
