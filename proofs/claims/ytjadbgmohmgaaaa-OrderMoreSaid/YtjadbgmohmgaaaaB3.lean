import Derived.Test.YtjadbgmohmgaaaaB2
namespace Go.Proofs.Ytjadbgmohmgaaaa
open Go.SL

structure Line where
  good : ByteArray
  count : Int
  price : Int
def Line.enc (l : Line) : List D := [.sc (.string l.good), .sc (.int .i64 l.count), .sc (.int .i64 l.price)]
structure Ord where
  number : ByteArray
  seller : ByteArray
  buyer : ByteArray
  currency : ByteArray
  sfrom : ByteArray
  sto : ByteArray
  term : Int
  lines : List Line
def Ord.cs (o : Ord) : List AV := [.d (.sc (.string o.number)), .d (.sc (.string o.seller)), .d (.sc (.string o.buyer)), .d (.sc (.string o.currency)), .d (.sc (.string o.sfrom)), .d (.sc (.string o.sto)),
  .d (.sc (.int .i64 o.term)), .d (.sl 3 (o.lines.map Line.enc))]
def countB (n : Int) : Bool := decide (1 ≤ n) && decide (n ≤ 1048576)
def Line.ok (l : Line) : Bool := nameOk l.good && countB l.count && (decide (0 ≤ l.price) && decide (l.price ≤ 1073741824))
def linesOk (l : List Line) : Bool := l.all Line.ok && decide (l.map Line.good).Nodup
def Ord.may (o : Ord) : Bool := [o.number, o.seller, o.buyer, o.sfrom, o.sto].all nameOk && (!decide (o.seller = o.buyer)) && curOk o.currency && decide (0 ≤ o.term) && decide (o.term ≤ 7) && decide (1 ≤ o.lines.length) && decide (o.lines.length ≤ 64) && linesOk o.lines

def seenE (l : List Line) : List (Value × AV) := l.map fun x => (.string x.good, .d (.sc (.bool true)))
theorem mat_map {α : Type} (key : α → ByteArray) (val : α → AV) (g : ByteArray) : ∀ (l : List α) (i : Nat), (mat (.string g) (l.map fun x => (.string (key x), val x)) i).map (·.2) = (l.find? (fun x => g == key x)).map val
  | [], _ => rfl
  | x :: l, i => by
    rw [List.map_cons, mat, List.find?_cons]
    show Option.map _ (bif (g == key x) then _ else _) = _
    cases hq : g == key x
    · exact mat_map key val g l (i + 1)
    · rfl
theorem seen_find {l : List Line} {g : ByteArray} : (g ∈ l.map Line.good → mfind (.string g) (seenE l) = some (.d (.sc (.bool true)))) ∧ (g ∉ l.map Line.good → mfind (.string g) (seenE l) = none) := by
  unfold mfind seenE
  rw [mat_map]
  constructor
  · intro h
    cases hf : l.find? (fun x => g == x.good) with
    | some x => rfl
    | none =>
      rw [List.find?_eq_none] at hf
      obtain ⟨x, hx, rfl⟩ := List.mem_map.1 h
      exact absurd (hf x hx) (by simp [Go.MapKept.bytes_beq])
  · intro h
    cases hf : l.find? (fun x => g == x.good) with
    | none => rfl
    | some x =>
      have h1 := List.mem_of_find?_eq_some hf
      have h2 := List.find?_some hf
      have : g = x.good := by simpa [Go.MapKept.bytes_beq] using h2
      exact absurd (List.mem_map.2 ⟨x, h1, this.symm⟩) h
theorem seen_keys (l : List Line) : ∀ p ∈ seenE l, keyB .string p.1 = true := by
  intro p hp
  obtain ⟨x, _, rfl⟩ := List.mem_map.1 hp
  rfl
theorem seen_put {l : List Line} {x : Line} (h : x.good ∉ l.map Line.good) : mput (.string x.good) (.d (.sc (.bool true))) (seenE l) = seenE (l ++ [x]) := by
  have := seen_find.2 h
  unfold mfind at this
  unfold mput
  cases hm : mat (.string x.good) (seenE l) 0 with
  | none => simp [seenE]
  | some p => rw [hm] at this; cases this
theorem linesOk_step {l : List Line} {k : Nat} {x : Line} (hx : l[k]? = some x) (h : linesOk (l.take k) = true) :
    (x.ok = true → x.good ∉ (l.take k).map Line.good → linesOk (l.take (k + 1)) = true ∧ l.take (k + 1) = l.take k ++ [x]) ∧ (x.ok = false → linesOk l = false) ∧ (x.good ∈ (l.take k).map Line.good → linesOk l = false) := by
  have e : l.take (k + 1) = l.take k ++ [x] := by rw [List.take_add_one, hx]; rfl
  unfold linesOk at h
  simp only [Bool.and_eq_true, decide_eq_true_eq] at h
  refine ⟨fun h1 h2 => ⟨?_, e⟩, fun h1 => ?_, fun h1 => ?_⟩
  · rw [e]
    unfold linesOk
    rw [List.all_append, h.1, List.map_append, Bool.true_and]
    simp only [List.all_cons, List.all_nil, h1, Bool.and_true, Bool.true_and, decide_eq_true_eq, List.map_cons, List.map_nil]
    rw [List.nodup_append]
    refine ⟨h.2, by simp, fun a ha b hb => ?_⟩
    simp at hb
    subst hb
    exact fun e => h2 (e ▸ ha)
  · have := (all_step hx h.1).2 h1
    unfold linesOk
    rw [this]; rfl
  · unfold linesOk
    have : ¬ (l.map Line.good).Nodup := by
      intro hn
      have h2 : l.map Line.good = (l.take k).map Line.good ++ (l.drop k).map Line.good := by rw [← List.map_append, List.take_append_drop]
      rw [h2, List.nodup_append] at hn
      have hlt := (List.getElem?_eq_some_iff.1 hx)
      obtain ⟨h3, h4⟩ := hlt
      refine hn.2.2 x.good h1 x.good ?_ rfl
      rw [List.drop_eq_getElem_cons h3, h4]
      simp
    simp [this]

set_option maxRecDepth 10000 in
set_option maxHeartbeats 2000000 in
theorem may_ac (o : Ord) : AC Try.prog 9 [.agg o.cs] [] [] (fun r _ => r = .d (.sc (.bool o.may))) := by
  refine AC_enter Try.func9 rfl Try.ntmps9 (rv := [.tmp 2]) rfl rfl (by simp) (fun w X G => ?_)
  repeat' (first | ((with_reducible refine gA ?_); (first | refine AW_seq ?_ | refine AW_region ?_ | refine AW_block ?_)) | ((with_reducible refine gS ?_); refine Es_s (T := Try.tab) rfl rfl rfl rfl ?_) | (((with_reducible refine gS ?_); apply Es_q); rfl; rfl; (first | refine LStep_wrap (T := Try.tab) rfl rfl | (refine LStep_lit (T := Try.tab) rfl rfl rfl rfl rfl rfl rfl rfl ?_; (refine Nat.le_of_ble_eq_true ?_; rfl)))) | (refine Es_skip rfl ?_ rfl ?_; (first | rfl | (refine w_tf ?_; assumption) | (refine w_ft ?_; assumption))) | (((with_reducible refine gS ?_); apply Es_xs); rfl; rfl; refine LStep_boxN rfl rfl rfl rfl rfl rfl; rfl) | (with_reducible refine Es_nil ?_) | (with_reducible refine then_n ?_))
  have hns : ∀ l : List ByteArray, l = [o.number, o.seller, o.buyer, o.sfrom, o.sto] → True := fun _ _ => trivial
  refine AW_forE (S := Nat) (fun k => k ≤ 5 ∧ ([o.number, o.seller, o.buyer, o.sfrom, o.sto].take k).all nameOk = true) (fun k => [(18, .d (.sl 1 ([o.number, o.seller, o.buyer, o.sfrom, o.sto].map fun s => [.sc (.string s)]))), (19, .d (.sc (.int .i64 5))), (20, .d (.sc (.int .i64 (k : Nat))))]) (fun _ => []) (fun k => 5 - k) 0 ⟨by omega, by simp⟩ (by (repeat' (first | exact trivial | exact rfl | (refine ⟨Or.inl rfl, ?_⟩) | (refine ⟨Or.inr rfl, ?_⟩) | (refine ⟨Or.inr trivial, ?_⟩) | (refine ⟨rfl, ?_⟩) | (refine ⟨?_, ?_⟩)))) (by (repeat' (first | exact trivial | exact rfl | (refine ⟨Or.inl rfl, ?_⟩) | (refine ⟨Or.inr rfl, ?_⟩) | (refine ⟨Or.inr trivial, ?_⟩) | (refine ⟨rfl, ?_⟩) | (refine ⟨?_, ?_⟩)))) ?_
  intro k ⟨hk, hf⟩
  by_cases hlt : k < 5
  · obtain ⟨c, hc⟩ : ∃ c, [o.number, o.seller, o.buyer, o.sfrom, o.sto][k]? = some c := ⟨_, List.getElem?_eq_getElem (by simpa using hlt)⟩
    obtain ⟨hyes, hno⟩ := all_step hc hf
    repeat' (first | ((with_reducible refine gA ?_); (first | refine AW_seq ?_ | refine AW_region ?_ | (refine AW_cond rfl (fun hc => ?_) (fun hc => ?_) <;> try (exfalso; simp only [cmpL] at hc; omega)) | refine AW_block ?_ | refine AW_ret ?_ | refine AW_skip ?_)) | ((with_reducible refine gS ?_); refine Es_s (T := Try.tab) rfl rfl rfl rfl ?_) | (((with_reducible refine gS ?_); apply Es_q); rfl; rfl; refine LStep_call (name_ac _) rfl rfl rfl rfl) | (((with_reducible refine gS ?_); apply Es_q); rfl; rfl; (first | (refine LStep_add rfl rfl rfl rfl ?_; (refine IntWalk.i64_in _ ?_; first | omega | (simp only [cmps] at *; omega))) | (refine LStep_indexM (T := Try.tab) (c := ?_) rfl rfl rfl rfl rfl rfl ?_; rotate_left; assumption))) | (with_reducible refine Es_nil ?_) | (with_reducible refine then_n ?_) | (with_reducible refine then_r ?_) | (with_reducible refine block_n ?_) | (with_reducible refine block_r ?_) | ((with_reducible refine gR ?_); first | refine ret1 rfl ?_ | refine ret2 rfl rfl ?_ | refine ret0 ?_ | refine end1 rfl ?_ | refine end0 ?_))
    all_goals simp only [cmps] at *
    · have := hno (by assumption)
      simp only [Ord.may, this, Bool.false_and]
    · (refine ⟨k + 1, ⟨by omega, hyes (by assumption)⟩, by omega, ?_, ?_, ?_, ?_⟩ <;> (repeat' (first | exact trivial | exact rfl | (refine ⟨Or.inl rfl, ?_⟩) | (refine ⟨Or.inr rfl, ?_⟩) | (refine ⟨Or.inr trivial, ?_⟩) | (refine ⟨rfl, ?_⟩) | (refine ⟨?_, ?_⟩))))
  have hk5 : k = 5 := by omega
  subst hk5
  have hN : [o.number, o.seller, o.buyer, o.sfrom, o.sto].all nameOk = true := hf
  clear hf hns
  repeat' (first | ((with_reducible refine gA ?_); (first | refine AW_seq ?_ | refine AW_region ?_ | refine AW_condT rfl ?_ | (refine AW_cond rfl (fun hc => ?_) (fun hc => ?_) <;> try (exfalso; simp only [cmpL] at hc; omega)) | refine AW_block ?_ | refine AW_ret ?_ | refine AW_skip ?_ | refine AW_exit ?_)) | ((with_reducible refine gS ?_); refine Es_s (T := Try.tab) rfl rfl rfl rfl ?_) | (((with_reducible refine gS ?_); apply Es_q); rfl; (first | rfl | (refine w_ff ?_; assumption)); refine LStep_call (moneyMay_ac _ _) rfl rfl rfl rfl) | (((with_reducible refine gS ?_); apply Es_q); rfl; (first | rfl | (refine w_ff ?_; assumption)); (first | refine LStep_simp (T := Try.tab) rfl rfl | refine LStep_lenM (T := Try.tab) rfl rfl rfl rfl | (refine LStep_pickT rfl rfl ?_ rfl rfl; assumption) | (refine LStep_pickF rfl rfl ?_ rfl rfl; assumption) | refine LStep_buildN (T := Try.tab) rfl rfl rfl rfl rfl rfl rfl)) | (refine Es_skip rfl ?_ rfl ?_; (first | rfl | (refine w_tf ?_; assumption) | (refine w_ft ?_; assumption))) | (((with_reducible refine gS ?_); apply Es_xs); rfl; rfl; refine LStep_makeMapN (T := Try.tab) rfl rfl rfl rfl rfl rfl; rfl) | (refine Es_split rfl ?_ (fun _ => ?_) (fun _ => ?_); ((fail_if_success (refine und_t ?_; assumption)); (fail_if_success (refine und_f ?_; assumption)); exact trivial)) | (with_reducible refine Es_nil ?_) | (with_reducible refine then_n ?_) | (with_reducible refine then_r ?_) | (with_reducible refine then_e ?_) | ((with_reducible refine block_e ?_ ?_); rfl) | ((with_reducible refine gR ?_); first | refine ret1 rfl ?_ | refine ret2 rfl rfl ?_ | refine ret0 ?_ | refine end1 rfl ?_ | refine end0 ?_))
  all_goals simp only [cmps] at *
  · have h : o.seller = o.buyer := by assumption
    simp [Ord.may, h]
  · have h : (curOk o.currency && amtB 0) = false := by assumption
    have h2 : curOk o.currency = false := by simpa [amtB] using h
    simp [Ord.may, h2]
  · have h : ¬ (0 ≤ o.term) := by omega
    simp [Ord.may, h]
  · have h : ¬ (o.term ≤ 7) := by omega
    simp [Ord.may, h]
  · have h : ¬ (1 ≤ o.lines.length) := by omega
    simp [Ord.may, h]
  · have h : ¬ (o.lines.length ≤ 64) := by omega
    simp [Ord.may, h]
  rename_i g0 h0 h1 h2 h3 h4
  have hmay : o.may = linesOk o.lines := by
    have e1 : curOk o.currency = true := by simpa [amtB] using h1
    have e2 : o.term ≤ 7 := by omega
    have e3 : 0 ≤ o.term := by omega
    have e4 : 1 ≤ o.lines.length := by omega
    have e5 : o.lines.length ≤ 64 := by omega
    have e6 : decide (o.seller = o.buyer) = false := by simpa using h0
    rw [Ord.may, hN, e1, e6]
    simp [e2, e3, e4, e5]
  rw [hmay]
  have hn : o.lines.length ≤ 64 := by omega
  refine AW_forE (S := Nat) (fun k => k ≤ o.lines.length ∧ linesOk (o.lines.take k) = true) (fun k => [(65, .d (.sc (.int .i64 (k : Nat))))])
    (fun k => [(61, some (.map 9 4 (seenE (o.lines.take k)) none))]) (fun k => o.lines.length - k) 0 ⟨by omega, rfl⟩ (by (repeat' (first | exact trivial | exact rfl | (refine ⟨Or.inl rfl, ?_⟩) | (refine ⟨Or.inr rfl, ?_⟩) | (refine ⟨Or.inr trivial, ?_⟩) | (refine ⟨rfl, ?_⟩) | (refine ⟨?_, ?_⟩)))) (by (repeat' (first | exact trivial | exact rfl | (refine ⟨Or.inl rfl, ?_⟩) | (refine ⟨Or.inr rfl, ?_⟩) | (refine ⟨Or.inr trivial, ?_⟩) | (refine ⟨rfl, ?_⟩) | (refine ⟨?_, ?_⟩)))) ?_
  intro k ⟨hk, hf⟩
  by_cases hlt : k < o.lines.length
  · obtain ⟨x, hc⟩ : ∃ x, o.lines[k]? = some x := ⟨_, List.getElem?_eq_getElem hlt⟩
    obtain ⟨hyes, hno, hdup⟩ := linesOk_step hc hf
    by_cases hseen : x.good ∈ (o.lines.take k).map Line.good
    · have hlook := seen_find.1 hseen
      rw [hdup hseen]
      repeat' (first | ((with_reducible refine gA ?_); (first | refine AW_seq ?_ | refine AW_region ?_ | refine AW_condT rfl ?_ | (refine AW_cond rfl (fun hc => ?_) (fun hc => ?_) <;> try (exfalso; simp only [cmpL] at hc; omega)) | refine AW_block ?_ | refine AW_ret ?_ | refine AW_skip ?_)) | ((with_reducible refine gS ?_); refine Es_s (T := Try.tab) rfl rfl rfl rfl ?_) | (((with_reducible refine gS ?_); apply Es_q); rfl; (first | rfl | (refine w_ff ?_; assumption)); (first | refine LStep_call (name_ac _) rfl rfl rfl rfl | (refine LStep_lookup (T := Try.tab) (c := ?_) rfl rfl rfl rfl rfl rfl rfl rfl ?_ ?_; rotate_left; exact seen_keys _; exact hlook))) | (((with_reducible refine gS ?_); apply Es_q); rfl; (first | rfl | (refine w_ff ?_; assumption)); (first | refine LStep_simp (T := Try.tab) rfl rfl | (refine LStep_pickT rfl rfl ?_ rfl rfl; assumption) | (refine LStep_pickF rfl rfl ?_ rfl rfl; assumption) | (refine LStep_indexM (T := Try.tab) (c := ?_) rfl rfl rfl rfl rfl rfl ?_; rotate_left; assumption))) | (refine Es_skip rfl ?_ rfl ?_; (first | rfl | (refine w_tf ?_; assumption) | (refine w_ft ?_; assumption))) | (((with_reducible refine gS ?_); apply Es_xs); rfl; rfl; refine LStep_allocN (T := Try.tab) rfl rfl rfl rfl rfl rfl; rfl) | (((with_reducible refine gS ?_); apply Es_xn); rfl; rfl; (refine LStep_storeN (T := Try.tab) rfl rfl rfl rfl rfl rfl rfl ?_ rfl; (refine Nat.le_of_ble_eq_true ?_; rfl)); rfl) | (refine Es_split rfl ?_ (fun _ => ?_) (fun _ => ?_); ((fail_if_success (refine und_t ?_; assumption)); (fail_if_success (refine und_f ?_; assumption)); exact trivial)) | (with_reducible refine Es_nil ?_) | (with_reducible refine then_n ?_) | (with_reducible refine then_r ?_) | (with_reducible refine block_r ?_) | ((with_reducible refine gR ?_); first | refine ret1 rfl ?_ | refine ret2 rfl rfl ?_ | refine ret0 ?_ | refine end1 rfl ?_ | refine end0 ?_))
      all_goals first
        | rfl
        | (exfalso; simp only [cmps] at *; simp_all; done)
    · have hlook := seen_find.2 hseen
      have hput := seen_put hseen
      by_cases hok : x.ok = true
      · obtain ⟨hok', htk⟩ := hyes hok hseen
        repeat' (first | ((with_reducible refine gA ?_); (first | refine AW_seq ?_ | refine AW_region ?_ | refine AW_condT rfl ?_ | (refine AW_cond rfl (fun hc => ?_) (fun hc => ?_) <;> try (exfalso; simp only [cmpL] at hc; omega)) | refine AW_block ?_ | refine AW_ret ?_ | refine AW_skip ?_)) | ((with_reducible refine gS ?_); refine Es_s (T := Try.tab) rfl rfl rfl rfl ?_) | (((with_reducible refine gS ?_); apply Es_q); rfl; (first | rfl | (refine w_ff ?_; assumption)); (first | refine LStep_call (name_ac _) rfl rfl rfl rfl | refine LStep_call (counts_ac _) rfl rfl rfl rfl | (refine LStep_lookup0 (T := Try.tab) rfl rfl rfl rfl rfl rfl rfl rfl ?_ rfl rfl ?_; exact seen_keys _; exact hlook))) | (((with_reducible refine gS ?_); apply Es_xn); rfl; rfl; (refine LStep_mapUpdate (T := Try.tab) rfl rfl rfl rfl rfl rfl rfl rfl rfl ?_ rfl; exact seen_keys _); rfl) | (((with_reducible refine gS ?_); apply Es_q); rfl; (first | rfl | (refine w_ff ?_; assumption)); (first | refine LStep_simp (T := Try.tab) rfl rfl | (refine LStep_add rfl rfl rfl rfl ?_; (refine IntWalk.i64_in _ ?_; first | omega | (simp only [cmps] at *; omega))) | (refine LStep_pickT rfl rfl ?_ rfl rfl; assumption) | (refine LStep_pickF rfl rfl ?_ rfl rfl; assumption) | (refine LStep_indexM (T := Try.tab) (c := ?_) rfl rfl rfl rfl rfl rfl ?_; rotate_left; assumption))) | (refine Es_skip rfl ?_ rfl ?_; (first | rfl | (refine w_tf ?_; assumption) | (refine w_ft ?_; assumption))) | (((with_reducible refine gS ?_); apply Es_xs); rfl; rfl; refine LStep_allocN (T := Try.tab) rfl rfl rfl rfl rfl rfl; rfl) | (((with_reducible refine gS ?_); apply Es_xn); rfl; rfl; (refine LStep_storeN (T := Try.tab) rfl rfl rfl rfl rfl rfl rfl ?_ rfl; (refine Nat.le_of_ble_eq_true ?_; rfl)); rfl) | (refine Es_split rfl ?_ (fun _ => ?_) (fun _ => ?_); ((fail_if_success (refine und_t ?_; assumption)); (fail_if_success (refine und_f ?_; assumption)); exact trivial)) | (with_reducible refine Es_nil ?_) | (with_reducible refine then_n ?_) | (with_reducible refine then_r ?_) | (with_reducible refine block_n ?_) | (with_reducible refine block_r ?_) | ((with_reducible refine gR ?_); first | refine ret1 rfl ?_ | refine ret2 rfl rfl ?_ | refine ret0 ?_ | refine end1 rfl ?_ | refine end0 ?_))
        all_goals simp only [cmps] at *
        all_goals first
          | (refine ⟨k + 1, ⟨by omega, hok'⟩, by omega, ?_, ?_, ?_, ?_⟩ <;> (repeat' (first | exact trivial | exact rfl | (refine ⟨Or.inl rfl, ?_⟩) | (refine ⟨Or.inr rfl, ?_⟩) | (refine ⟨Or.inr trivial, ?_⟩) | (refine ⟨rfl, ?_⟩) | (refine ⟨?_, ?_⟩))) <;> (rw [htk, ← hput]; rfl))
          | (exfalso; simp only [Line.ok, countB, Bool.and_eq_true, decide_eq_true_eq] at hok; simp_all; done)
          | (exfalso; simp only [Line.ok, countB, Bool.and_eq_true, decide_eq_true_eq] at hok; simp_all; omega)
      · rw [hno (by simpa using hok)]
        repeat' (first | ((with_reducible refine gA ?_); (first | refine AW_seq ?_ | refine AW_region ?_ | refine AW_condT rfl ?_ | (refine AW_cond rfl (fun hc => ?_) (fun hc => ?_) <;> try (exfalso; simp only [cmpL] at hc; omega)) | refine AW_block ?_ | refine AW_ret ?_ | refine AW_skip ?_)) | ((with_reducible refine gS ?_); refine Es_s (T := Try.tab) rfl rfl rfl rfl ?_) | (((with_reducible refine gS ?_); apply Es_q); rfl; (first | rfl | (refine w_ff ?_; assumption)); (first | refine LStep_call (name_ac _) rfl rfl rfl rfl | refine LStep_call (counts_ac _) rfl rfl rfl rfl | (refine LStep_lookup0 (T := Try.tab) rfl rfl rfl rfl rfl rfl rfl rfl ?_ rfl rfl ?_; exact seen_keys _; exact hlook))) | (((with_reducible refine gS ?_); apply Es_xn); rfl; rfl; (refine LStep_mapUpdate (T := Try.tab) rfl rfl rfl rfl rfl rfl rfl rfl rfl ?_ rfl; exact seen_keys _); rfl) | (((with_reducible refine gS ?_); apply Es_q); rfl; (first | rfl | (refine w_ff ?_; assumption)); (first | refine LStep_simp (T := Try.tab) rfl rfl | (refine LStep_add rfl rfl rfl rfl ?_; (refine IntWalk.i64_in _ ?_; first | omega | (simp only [cmps] at *; omega))) | (refine LStep_pickT rfl rfl ?_ rfl rfl; assumption) | (refine LStep_pickF rfl rfl ?_ rfl rfl; assumption) | (refine LStep_indexM (T := Try.tab) (c := ?_) rfl rfl rfl rfl rfl rfl ?_; rotate_left; assumption))) | (refine Es_skip rfl ?_ rfl ?_; (first | rfl | (refine w_tf ?_; assumption) | (refine w_ft ?_; assumption))) | (((with_reducible refine gS ?_); apply Es_xs); rfl; rfl; refine LStep_allocN (T := Try.tab) rfl rfl rfl rfl rfl rfl; rfl) | (((with_reducible refine gS ?_); apply Es_xn); rfl; rfl; (refine LStep_storeN (T := Try.tab) rfl rfl rfl rfl rfl rfl rfl ?_ rfl; (refine Nat.le_of_ble_eq_true ?_; rfl)); rfl) | (refine Es_split rfl ?_ (fun _ => ?_) (fun _ => ?_); ((fail_if_success (refine und_t ?_; assumption)); (fail_if_success (refine und_f ?_; assumption)); exact trivial)) | (with_reducible refine Es_nil ?_) | (with_reducible refine then_n ?_) | (with_reducible refine then_r ?_) | (with_reducible refine block_n ?_) | (with_reducible refine block_r ?_) | ((with_reducible refine gR ?_); first | refine ret1 rfl ?_ | refine ret2 rfl rfl ?_ | refine ret0 ?_ | refine end1 rfl ?_ | refine end0 ?_))
        all_goals first
          | rfl
          | (exfalso; simp only [cmps] at *; apply hok; simp only [Line.ok, countB, Bool.and_eq_true, decide_eq_true_eq] at *; simp_all; done)
          | (exfalso; simp only [cmps] at *; apply hok; simp only [Line.ok, countB, Bool.and_eq_true, decide_eq_true_eq] at *; simp_all; omega)
  · have : k = o.lines.length := by omega
    subst this
    repeat' (first | ((with_reducible refine gA ?_); (first | refine AW_seq ?_ | refine AW_region ?_ | (refine AW_cond rfl (fun hc => ?_) (fun hc => ?_) <;> try (exfalso; simp only [cmpL] at hc; omega)) | refine AW_ret ?_ | refine AW_exit ?_)) | ((with_reducible refine gS ?_); refine Es_s (T := Try.tab) rfl rfl rfl rfl ?_) | (with_reducible refine Es_nil ?_) | (with_reducible refine then_n ?_) | (with_reducible refine then_e ?_) | ((with_reducible refine block_e ?_ ?_); rfl) | ((with_reducible refine gR ?_); first | refine ret1 rfl ?_ | refine ret2 rfl rfl ?_ | refine ret0 ?_ | refine end1 rfl ?_ | refine end0 ?_))
    rw [List.take_length] at hf
    rw [hf]
end Go.Proofs.Ytjadbgmohmgaaaa
