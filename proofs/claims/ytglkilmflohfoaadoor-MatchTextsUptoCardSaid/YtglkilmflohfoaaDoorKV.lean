/- The text of posts: the program's, and the document's. -/
import Derived.Test.YtglkilmflohfoaaDoorKU
import Derived.Lib.ItoaLen
namespace Go.Proofs.YtglkilmflohfoaaDoor
open Go.SL Go.Proofs
/-! ### plain -/
def tx (n : Int) : ByteArray := ⟨(Lib.itoa n).toArray⟩
def in64 (n : Int) : Prop := -9223372036854775808 ≤ n ∧ n ≤ 9223372036854775807
theorem tx_le {n : Int} (h : in64 n) : (tx n).size ≤ 21 := by
  have := Lib.itoa_length_le n h.1 h.2
  unfold tx
  show (Lib.itoa n).toArray.size ≤ 21
  rw [List.size_toArray]
  exact this
theorem tx_pos (n : Int) : 0 < (tx n).size := by
  have h0 : ∀ u, 0 < (Lib.decDigits u).length := fun u => by
    by_cases h : u < 10
    · rw [dec_small h]; simp
    · rw [dec_big h]; simp
  unfold tx
  show 0 < (Lib.itoa n).toArray.size
  rw [List.size_toArray]
  unfold Lib.itoa
  split
  · simp
  · exact h0 _
theorem ba_assoc (a b c : ByteArray) : a ++ b ++ c = a ++ (b ++ c) := ba_ext (by simp only [ba_app, List.append_assoc])
theorem tx_ac (n : Int) (h : in64 n) : AC Tryd.prog 12 [.d (.sc (.int .i64 n)), .d (.sc (.int .i64 10))] [hG] [9000] (fun r h' => r = .d (.sc (.string (tx n))) ∧ SubH [hG] h') := format_ac n h.1 h.2
theorem txI_ac (n : Int) (h : in64 n) : AC Tryd.prog 11 [.d (.sc (.int .i64 n))] [hG] [9000] (fun r h' => r = .d (.sc (.string (tx n))) ∧ SubH [hG] h') := itoaS_ac n h.1 h.2
theorem txD_ac (n : Int) (h : in64 n) : AC Tryd.prog 14 [.d (.sc (.int .i64 n))] [] [] (fun r _ => r = .d (.sc (.string (tx n)))) := digits_ac n h.1 h.2
structure Ent.ok (x : Ent) : Prop where
  a : x.acct.size ≤ 1048576
  c : x.cur.size ≤ 1048576
  n : in64 x.amt
structure Post.ok (p : Post) : Prop where
  n : in64 p.number
  t : p.text.size ≤ 1048576
  l : p.entries.length ≤ 20
  e : ∀ x ∈ p.entries, x.ok
def entS (x : Ent) : ByteArray := ⟨#[32]⟩ ++ x.acct ++ ⟨#[47]⟩ ++ x.cur ++ ⟨#[47]⟩ ++ tx x.amt
def wE (a : ByteArray) (x : Ent) : ByteArray := a ++ entS x
def endS (p : Post) : ByteArray := ⟨#[32]⟩ ++ p.text ++ ⟨#[10]⟩
def entsS (a : ByteArray) (p : Post) (k : Nat) : ByteArray := (p.entries.take k).foldl wE (a ++ tx p.number)
def wP (a : ByteArray) (p : Post) : ByteArray := p.entries.foldl wE (a ++ tx p.number) ++ endS p
def textK (l : List Post) (k : Nat) : ByteArray := (l.take k).foldl wP ⟨#[]⟩
def textL (l : List Post) : ByteArray := l.foldl wP ⟨#[]⟩
theorem textK_all (l : List Post) : textK l l.length = textL l := by unfold textK textL; rw [List.take_length]
theorem textK_succ {l : List Post} {k : Nat} {p : Post} (h : l[k]? = some p) : textK l (k + 1) = wP (textK l k) p := by
  unfold textK
  rw [List.take_add_one, h, Option.toList_some, List.foldl_append]
  rfl
theorem entsS_all (a : ByteArray) (p : Post) : entsS a p p.entries.length ++ endS p = wP a p := by unfold entsS wP; rw [List.take_length]
theorem entsS_succ (a : ByteArray) {p : Post} {k : Nat} {x : Ent} (h : p.entries[k]? = some x) : entsS a p (k + 1) = entsS a p k ++ entS x := by
  unfold entsS
  rw [List.take_add_one, h, Option.toList_some, List.foldl_append]
  rfl
theorem entS_le {x : Ent} (h : x.ok) : (entS x).size ≤ 2097200 ∧ 0 < (entS x).size := by
  have h1 := tx_le h.n
  have h2 := h.a
  have h3 := h.c
  unfold entS
  simp only [ba_size, ba_s1]
  omega
theorem endS_le {p : Post} (h : p.ok) : (endS p).size ≤ 1048578 ∧ 0 < (endS p).size := by
  have := h.t
  unfold endS
  simp only [ba_size, ba_s1]
  omega
/-! ### match.Text -/
set_option maxRecDepth 20000 in
set_option maxHeartbeats 4000000 in
theorem mtext0_ac : AC Tryd.prog 6 [.d (.sl 3 (([] : List Post).map Post.enc))] [hG] [9000] (fun r h' => r = .d (.sc (.string (textL []))) ∧ SubH [hG] h') := by
  have cs := string0_ac
  refine AC_enter Tryd.func6 rfl Tryd.ntmps6 (rv := [.tmp 2]) rfl rfl (by simp) (fun w X G => ?_)
  repeat' (first | ((with_reducible refine gA ?_); (first | refine AW_seq ?_ | refine AW_region ?_ | refine AW_block ?_)) | ((with_reducible refine gS ?_); refine Es_s (T := Tryd.tab) rfl rfl rfl rfl ?_) | (((with_reducible refine gS ?_); apply Es_xs); rfl; rfl; refine LStep_allocT (T := Tryd.tab) rfl rfl rfl rfl rfl; rfl) | (((with_reducible refine gS ?_); apply Es_q); rfl; rfl; refine LStep_lenM (T := Tryd.tab) rfl rfl rfl rfl) | (with_reducible refine Es_nil ?_) | (with_reducible refine then_n ?_))
  refine AW_forE (S := Unit) (fun _ => True) (fun _ => [(10, .d (.sc (.int .i64 0)))]) (fun _ => []) (fun _ => 0) () trivial (by (repeat' (first | exact trivial | exact rfl | (refine ⟨Or.inl rfl, ?_⟩) | (refine ⟨Or.inr rfl, ?_⟩) | (refine ⟨Or.inr trivial, ?_⟩) | (refine ⟨rfl, ?_⟩) | (refine ⟨?_, ?_⟩)))) (by (repeat' (first | exact trivial | exact rfl | (refine ⟨Or.inl rfl, ?_⟩) | (refine ⟨Or.inr rfl, ?_⟩) | (refine ⟨Or.inr trivial, ?_⟩) | (refine ⟨rfl, ?_⟩) | (refine ⟨?_, ?_⟩)))) ?_
  intro _ _
  repeat' (first | ((with_reducible refine gA ?_); (first | refine AW_seq ?_ | refine AW_region ?_ | (refine AW_cond rfl (fun hc => ?_) (fun hc => ?_) <;> try (exfalso; simp only [cmpL] at hc; omega)) | refine AW_ret ?_ | refine AW_exit ?_)) | ((with_reducible refine gS ?_); refine Es_s (T := Tryd.tab) rfl rfl rfl rfl ?_) | (((with_reducible refine gS ?_); apply Es_xg); rfl; rfl; refine LStep_callDrop [(1000, 3)] cs rfl rfl ⟨rfl, trivial⟩ rfl rfl; rfl) | (with_reducible refine Es_nil ?_) | (with_reducible refine then_n ?_) | (with_reducible refine then_e ?_) | ((with_reducible refine block_e ?_ ?_); rfl) | ((with_reducible refine gR ?_); first | refine ret1 rfl ?_ | refine ret2 rfl rfl ?_ | refine ret0 ?_ | refine end1 rfl ?_ | refine end0 ?_))
  all_goals exact ⟨rfl, rfl, trivial⟩
theorem bE_grows (a b : ByteArray) (h : 0 < b.size) : (bE a).length < (bE (a ++ b)).length := by rw [bE_len, bE_len, ba_size]; omega
set_option maxRecDepth 20000 in
set_option maxHeartbeats 8000000 in
theorem mtext1_ac (l : List Post) (hl : l.length ≤ 20) (h0 : 0 < l.length) (hp : ∀ p ∈ l, p.ok) : AC Tryd.prog 6 [.d (.sl 3 (l.map Post.enc))] [hG] [9000] (fun r h' => r = .d (.sc (.string (textL l))) ∧ SubH [hG] h') := by
  refine AC_enter Tryd.func6 rfl Tryd.ntmps6 (rv := [.tmp 2]) rfl rfl (by simp) (fun w X G => ?_)
  repeat' (first | ((with_reducible refine gA ?_); (first | refine AW_seq ?_ | refine AW_region ?_ | refine AW_block ?_)) | ((with_reducible refine gS ?_); refine Es_s (T := Tryd.tab) rfl rfl rfl rfl ?_) | (((with_reducible refine gS ?_); apply Es_xg); rfl; rfl; refine LStep_allocB (T := Tryd.tab) 2000 5 rfl rfl rfl rfl rfl rfl rfl; rfl) | (((with_reducible refine gS ?_); apply Es_q); rfl; rfl; refine LStep_lenM (T := Tryd.tab) rfl rfl rfl rfl) | (with_reducible refine Es_nil ?_) | (with_reducible refine then_n ?_))
  refine AW_forE (S := Nat × ByteArray) (fun s => s.1 ≤ l.length ∧ s.2 = textK l s.1 ∧ s.2.size ≤ s.1 * 60000000 ∧ s.1 ≤ s.2.size) (fun s => [(10, .d (.sc (.int .i64 (s.1 : Nat))))])
    (fun s => [(3, some (.tcl 39 [.any, .own 2000 s.2.size])), (2000, some (.arr 5 1 (bE s.2)))]) (fun s => l.length - s.1) (0, ⟨#[]⟩) ⟨Nat.zero_le _, rfl, Nat.zero_le _, Nat.zero_le _⟩ (by (repeat' (first | exact trivial | exact rfl | (refine ⟨Or.inl rfl, ?_⟩) | (refine ⟨Or.inr rfl, ?_⟩) | (refine ⟨Or.inr trivial, ?_⟩) | (refine ⟨rfl, ?_⟩) | (refine ⟨?_, ?_⟩)))) (by (repeat' (first | exact trivial | exact rfl | (refine ⟨Or.inl rfl, ?_⟩) | (refine ⟨Or.inr rfl, ?_⟩) | (refine ⟨Or.inr trivial, ?_⟩) | (refine ⟨rfl, ?_⟩) | (refine ⟨?_, ?_⟩)))) ?_
  intro ⟨k, a⟩ ⟨i1, i2, i3, i4⟩
  dsimp only at i1 i2 i3 i4 ⊢
  by_cases hlt : k < l.length
  · obtain ⟨p, hx, hd⟩ := drop_at hlt
    have ok := hp p (List.mem_of_getElem? hx)
    have hn := tx_le ok.n
    have hn0 := tx_pos p.number
    have he := ok.l
    have ht := ok.t
    have e0 := endS_le ok
    have cI := txI_ac p.number ok.n
    have cW := write_ac a (tx p.number) hn0 (by omega)
    have gW := bE_grows a (tx p.number) hn0
    unfold hBd at cW
    repeat' (first | ((with_reducible refine gA ?_); (first | refine AW_seq ?_ | refine AW_region ?_ | (refine AW_cond rfl (fun hc => ?_) (fun hc => ?_) <;> try (exfalso; simp only [cmpL] at hc; omega)) | refine AW_block ?_ | refine AW_skip ?_)) | ((with_reducible refine gS ?_); refine Es_s (T := Tryd.tab) rfl rfl rfl rfl ?_) | (((with_reducible refine gS ?_); apply Es_xg); rfl; rfl; (first | refine LStep_callHN [(9000, 9000)] [] cI rfl rfl ⟨rfl, trivial⟩ rfl ⟨trivial, trivial⟩ rfl rfl | refine LStep_callGN [1001] [(1000, 3), (1001, 2000)] [] cW rfl rfl ⟨rfl, rfl, trivial⟩ rfl ⟨trivial, gW, trivial⟩ rfl rfl); rfl) | (((with_reducible refine gS ?_); apply Es_q); rfl; rfl; (first | refine LStep_lenM (T := Tryd.tab) rfl rfl rfl rfl | (refine LStep_indexM (T := Tryd.tab) (c := ?_) rfl rfl rfl rfl rfl rfl ?_; rotate_left; assumption))) | (refine Es_skip rfl ?_ rfl ?_; (first | rfl | (refine w_tf ?_; assumption) | (refine w_ft ?_; assumption))) | (((with_reducible refine gS ?_); apply Es_xs); rfl; rfl; refine LStep_allocN (T := Tryd.tab) rfl rfl rfl rfl rfl rfl; rfl) | (((with_reducible refine gS ?_); apply Es_xn); rfl; rfl; (refine LStep_storeN (T := Tryd.tab) rfl rfl rfl rfl rfl rfl rfl ?_ rfl; (refine Nat.le_of_ble_eq_true ?_; rfl)); rfl) | (with_reducible refine Es_nil ?_) | (with_reducible refine then_n ?_))
    refine AW_forE (S := Nat × ByteArray) (fun s => s.1 ≤ p.entries.length ∧ s.2 = entsS a p s.1 ∧ s.2.size ≤ a.size + 32 + s.1 * 2100000 ∧ a.size < s.2.size) (fun s => [(21, .d (.sc (.int .i64 (s.1 : Nat))))])
      (fun s => [(3, some (.tcl 39 [.any, .own 2000 s.2.size])), (2000, some (.arr 5 1 (bE s.2)))]) (fun s => p.entries.length - s.1) (0, a ++ tx p.number) ⟨Nat.zero_le _, rfl, by rw [ba_size]; omega, by rw [ba_size]; omega⟩ (by (repeat' (first | exact trivial | exact rfl | (refine ⟨Or.inl rfl, ?_⟩) | (refine ⟨Or.inr rfl, ?_⟩) | (refine ⟨Or.inr trivial, ?_⟩) | (refine ⟨rfl, ?_⟩) | (refine ⟨?_, ?_⟩)))) (by (repeat' (first | exact trivial | exact rfl | (refine ⟨Or.inl rfl, ?_⟩) | (refine ⟨Or.inr rfl, ?_⟩) | (refine ⟨Or.inr trivial, ?_⟩) | (refine ⟨rfl, ?_⟩) | (refine ⟨?_, ?_⟩)))) ?_
    intro ⟨j, b⟩ ⟨j1, j2, j3, j4⟩
    dsimp only at j1 j2 j3 j4 ⊢
    by_cases hlj : j < p.entries.length
    · obtain ⟨x, hy, hdy⟩ := drop_at hlj
      have okx := ok.e x (List.mem_of_getElem? hy)
      have hxn := tx_le okx.n
      have hxa := okx.a
      have hxc := okx.c
      obtain ⟨s1, s2⟩ := entS_le okx
      have cF := tx_ac x.amt okx.n
      have cX := write_ac b (entS x) s2 (by omega)
      have gX := bE_grows b (entS x) s2
      unfold hBd at cX
      unfold entS at cX gX
      repeat' (first | ((with_reducible refine gA ?_); (first | refine AW_seq ?_ | refine AW_region ?_ | refine AW_regionD Tryd.mixed ?_ | (refine AW_cond rfl (fun hc => ?_) (fun hc => ?_) <;> try (exfalso; simp only [cmpL] at hc; omega)) | refine AW_block ?_ | refine AW_skip ?_)) | (first | ((with_reducible refine gS ?_); refine Es_s (T := Tryd.tab) rfl rfl rfl rfl ?_) | ((with_reducible refine gD ?_); refine Ed_s (T := Tryd.tab) rfl rfl rfl rfl ?_)) | ((first | ((with_reducible refine gS ?_); apply Es_q) | ((with_reducible refine gD ?_); apply Ed_q)); rfl; rfl; (refine LStep_cat rfl rfl rfl rfl ?_; (first | omega | (simp only [ba_size, ba_s1]; omega)))) | ((first | ((with_reducible refine gS ?_); apply Es_xg) | ((with_reducible refine gD ?_); apply Ed_xg)); rfl; rfl; (first | refine LStep_callHN [(9000, 9000)] [] cF rfl rfl ⟨rfl, trivial⟩ rfl ⟨trivial, trivial⟩ rfl rfl | refine LStep_callGN [1001] [(1000, 3), (1001, 2000)] [] cX rfl rfl ⟨rfl, rfl, trivial⟩ rfl ⟨trivial, gX, trivial⟩ rfl rfl); rfl) | (((with_reducible refine gS ?_); apply Es_q); rfl; rfl; (first | (refine LStep_add rfl rfl rfl rfl ?_; (refine IntWalk.i64_in _ ?_; first | omega | (simp only [cmps] at *; omega))) | (refine LStep_indexM (T := Tryd.tab) (c := ?_) rfl rfl rfl rfl rfl rfl ?_; rotate_left; assumption))) | (refine Es_skip rfl ?_ rfl ?_; (first | rfl | (refine w_tf ?_; assumption) | (refine w_ft ?_; assumption))) | (((with_reducible refine gS ?_); apply Es_xs); rfl; rfl; refine LStep_allocN (T := Tryd.tab) rfl rfl rfl rfl rfl rfl; rfl) | (((with_reducible refine gS ?_); apply Es_xn); rfl; rfl; (refine LStep_storeN (T := Tryd.tab) rfl rfl rfl rfl rfl rfl rfl ?_ rfl; (refine Nat.le_of_ble_eq_true ?_; rfl)); rfl) | (with_reducible refine Es_nil ?_) | ((with_reducible refine Ed_nil ?_ ?_); kernel_rfl) | (with_reducible refine then_n ?_) | (with_reducible refine block_n ?_))
      refine ⟨(j + 1, b ++ entS x), ?_, by omega, by (repeat' (first | exact trivial | exact rfl | (refine ⟨Or.inl rfl, ?_⟩) | (refine ⟨Or.inr rfl, ?_⟩) | (refine ⟨Or.inr trivial, ?_⟩) | (refine ⟨rfl, ?_⟩) | (refine ⟨?_, ?_⟩))), by (repeat' (first | exact trivial | exact rfl | (refine ⟨Or.inl rfl, ?_⟩) | (refine ⟨Or.inr rfl, ?_⟩) | (refine ⟨Or.inr trivial, ?_⟩) | (refine ⟨rfl, ?_⟩) | (refine ⟨?_, ?_⟩))), by (repeat' (first | exact trivial | exact rfl | (refine ⟨Or.inl rfl, ?_⟩) | (refine ⟨Or.inr rfl, ?_⟩) | (refine ⟨Or.inr trivial, ?_⟩) | (refine ⟨rfl, ?_⟩) | (refine ⟨?_, ?_⟩))), by (repeat' (first | exact trivial | exact rfl | (refine ⟨Or.inl rfl, ?_⟩) | (refine ⟨Or.inr rfl, ?_⟩) | (refine ⟨Or.inr trivial, ?_⟩) | (refine ⟨rfl, ?_⟩) | (refine ⟨?_, ?_⟩)))⟩; exact ⟨by omega, by rw [j2]; exact (entsS_succ a hy).symm, by dsimp only; rw [ba_size]; omega, by dsimp only; rw [ba_size]; omega⟩
    · have hje : j = p.entries.length := by omega
      subst hje
      have cE := write_ac b (endS p) e0.2 (by omega)
      have gE := bE_grows b (endS p) e0.2
      unfold hBd at cE
      unfold endS at cE gE
      repeat' (first | ((with_reducible refine gA ?_); (first | refine AW_seq ?_ | refine AW_region ?_ | (refine AW_cond rfl (fun hc => ?_) (fun hc => ?_) <;> try (exfalso; simp only [cmpL] at hc; omega)) | refine AW_exit ?_)) | ((with_reducible refine gS ?_); refine Es_s (T := Tryd.tab) rfl rfl rfl rfl ?_) | (((with_reducible refine gS ?_); apply Es_q); rfl; rfl; (refine LStep_cat rfl rfl rfl rfl ?_; (first | omega | (simp only [ba_size, ba_s1]; omega)))) | (((with_reducible refine gS ?_); apply Es_xg); rfl; rfl; refine LStep_callGN [1001] [(1000, 3), (1001, 2000)] [] cE rfl rfl ⟨rfl, rfl, trivial⟩ rfl ⟨trivial, gE, trivial⟩ rfl rfl; rfl) | (((with_reducible refine gS ?_); apply Es_q); rfl; rfl; (refine LStep_add rfl rfl rfl rfl ?_; (refine IntWalk.i64_in _ ?_; first | omega | (simp only [cmps] at *; omega)))) | (with_reducible refine Es_nil ?_) | (with_reducible refine then_n ?_) | (with_reducible refine then_e ?_) | (with_reducible refine block_n ?_) | ((with_reducible refine block_e ?_ ?_); rfl))
      refine ⟨(k + 1, b ++ endS p), ?_, by omega, by (repeat' (first | exact trivial | exact rfl | (refine ⟨Or.inl rfl, ?_⟩) | (refine ⟨Or.inr rfl, ?_⟩) | (refine ⟨Or.inr trivial, ?_⟩) | (refine ⟨rfl, ?_⟩) | (refine ⟨?_, ?_⟩))), by (repeat' (first | exact trivial | exact rfl | (refine ⟨Or.inl rfl, ?_⟩) | (refine ⟨Or.inr rfl, ?_⟩) | (refine ⟨Or.inr trivial, ?_⟩) | (refine ⟨rfl, ?_⟩) | (refine ⟨?_, ?_⟩))), by (repeat' (first | exact trivial | exact rfl | (refine ⟨Or.inl rfl, ?_⟩) | (refine ⟨Or.inr rfl, ?_⟩) | (refine ⟨Or.inr trivial, ?_⟩) | (refine ⟨rfl, ?_⟩) | (refine ⟨?_, ?_⟩))), by (repeat' (first | exact trivial | exact rfl | (refine ⟨Or.inl rfl, ?_⟩) | (refine ⟨Or.inr rfl, ?_⟩) | (refine ⟨Or.inr trivial, ?_⟩) | (refine ⟨rfl, ?_⟩) | (refine ⟨?_, ?_⟩)))⟩; exact ⟨by omega, by rw [j2, entsS_all, i2]; exact (textK_succ hx).symm, by dsimp only; rw [ba_size]; omega, by dsimp only; rw [ba_size]; omega⟩
  · have hke : k = l.length := by omega
    subst hke
    have cS := string_ac a (by omega)
    unfold hBd at cS
    repeat' (first | ((with_reducible refine gA ?_); (first | refine AW_seq ?_ | refine AW_region ?_ | (refine AW_cond rfl (fun hc => ?_) (fun hc => ?_) <;> try (exfalso; simp only [cmpL] at hc; omega)) | refine AW_ret ?_ | refine AW_exit ?_)) | ((with_reducible refine gS ?_); refine Es_s (T := Tryd.tab) rfl rfl rfl rfl ?_) | (((with_reducible refine gS ?_); apply Es_xg); rfl; rfl; refine LStep_callDrop [(1000, 3), (1001, 2000)] cS rfl rfl ⟨rfl, rfl, trivial⟩ rfl rfl; rfl) | (with_reducible refine Es_nil ?_) | (with_reducible refine then_n ?_) | (with_reducible refine then_e ?_) | ((with_reducible refine block_e ?_ ?_); rfl) | ((with_reducible refine gR ?_); first | refine ret1 rfl ?_ | refine ret2 rfl rfl ?_ | refine ret0 ?_ | refine end1 rfl ?_ | refine end0 ?_))
    exact ⟨by rw [i2, textK_all], rfl, trivial⟩
theorem mtext_ac (l : List Post) (hl : l.length ≤ 20) (hp : ∀ p ∈ l, p.ok) : AC Tryd.prog 6 [.d (.sl 3 (l.map Post.enc))] [hG] [9000] (fun r h' => r = .d (.sc (.string (textL l))) ∧ SubH [hG] h') := by
  cases l with
  | nil => exact mtext0_ac
  | cons p r => exact mtext1_ac (p :: r) hl (by simp) hp

/-! ### the document's -/
theorem entS_left (s : ByteArray) (x : Ent) : s ++ ⟨#[32]⟩ ++ x.acct ++ ⟨#[47]⟩ ++ x.cur ++ ⟨#[47]⟩ ++ tx x.amt = s ++ entS x := by unfold entS; simp only [ba_assoc]
theorem endS_left (s : ByteArray) (p : Post) : s ++ ⟨#[32]⟩ ++ p.text ++ ⟨#[10]⟩ = s ++ endS p := by unfold endS; simp only [ba_assoc]
set_option maxRecDepth 20000 in
set_option maxHeartbeats 8000000 in
theorem rtext_ac (l : List Post) (hl : l.length ≤ 20) (hp : ∀ p ∈ l, p.ok) : AC Tryd.prog 7 [.d (.sl 3 (l.map Post.enc))] [] [] (fun r _ => r = .d (.sc (.string (textL l)))) := by
  refine AC_enter Tryd.func7 rfl Tryd.ntmps7 (rv := [.tmp 2]) rfl rfl (by simp) (fun w X G => ?_)
  repeat' (first | ((with_reducible refine gA ?_); (first | refine AW_seq ?_ | refine AW_region ?_ | refine AW_block ?_)) | ((with_reducible refine gS ?_); refine Es_s (T := Tryd.tab) rfl rfl rfl rfl ?_) | (with_reducible refine Es_nil ?_) | (with_reducible refine then_n ?_))
  refine AW_forE (S := Nat × ByteArray) (fun s => s.1 ≤ l.length ∧ s.2 = textK l s.1 ∧ s.2.size ≤ s.1 * 60000000) (fun s => [(4, .d (.sc (.int .i64 (s.1 : Nat)))), (3, .d (.sc (.string s.2)))])
    (fun _ => []) (fun s => l.length - s.1) (0, ⟨#[]⟩) ⟨Nat.zero_le _, rfl, Nat.zero_le _⟩ (by (repeat' (first | exact trivial | exact rfl | (refine ⟨Or.inl rfl, ?_⟩) | (refine ⟨Or.inr rfl, ?_⟩) | (refine ⟨Or.inr trivial, ?_⟩) | (refine ⟨rfl, ?_⟩) | (refine ⟨?_, ?_⟩)))) (by (repeat' (first | exact trivial | exact rfl | (refine ⟨Or.inl rfl, ?_⟩) | (refine ⟨Or.inr rfl, ?_⟩) | (refine ⟨Or.inr trivial, ?_⟩) | (refine ⟨rfl, ?_⟩) | (refine ⟨?_, ?_⟩)))) ?_
  intro ⟨k, a⟩ ⟨i1, i2, i3⟩
  dsimp only at i1 i2 i3 ⊢
  by_cases hlt : k < l.length
  · obtain ⟨p, hx, hd⟩ := drop_at hlt
    have ok := hp p (List.mem_of_getElem? hx)
    have hn := tx_le ok.n
    have he := ok.l
    have ht := ok.t
    have cI := txD_ac p.number ok.n
    repeat' (first | ((with_reducible refine gA ?_); (first | refine AW_seq ?_ | refine AW_region ?_ | (refine AW_cond rfl (fun hc => ?_) (fun hc => ?_) <;> try (exfalso; simp only [cmpL] at hc; omega)) | refine AW_block ?_ | refine AW_skip ?_)) | ((with_reducible refine gS ?_); refine Es_s (T := Tryd.tab) rfl rfl rfl rfl ?_) | (((with_reducible refine gS ?_); apply Es_q); rfl; rfl; (first | refine LStep_call (cI) rfl rfl rfl rfl | (refine LStep_cat rfl rfl rfl rfl ?_; (first | omega | (simp only [ba_size, ba_s1]; omega))))) | (((with_reducible refine gS ?_); apply Es_q); rfl; rfl; (first | refine LStep_lenM (T := Tryd.tab) rfl rfl rfl rfl | (refine LStep_indexM (T := Tryd.tab) (c := ?_) rfl rfl rfl rfl rfl rfl ?_; rotate_left; assumption))) | (with_reducible refine Es_nil ?_) | (with_reducible refine then_n ?_))
    refine AW_forE (S := Nat × ByteArray) (fun s => s.1 ≤ p.entries.length ∧ s.2 = entsS a p s.1 ∧ s.2.size ≤ a.size + 32 + s.1 * 2100000) (fun s => [(5, .d (.sc (.int .i64 (s.1 : Nat)))), (3, .d (.sc (.string s.2)))])
      (fun _ => []) (fun s => p.entries.length - s.1) (0, a ++ tx p.number) ⟨Nat.zero_le _, rfl, by dsimp only; rw [ba_size]; omega⟩ (by (repeat' (first | exact trivial | exact rfl | (refine ⟨Or.inl rfl, ?_⟩) | (refine ⟨Or.inr rfl, ?_⟩) | (refine ⟨Or.inr trivial, ?_⟩) | (refine ⟨rfl, ?_⟩) | (refine ⟨?_, ?_⟩)))) (by (repeat' (first | exact trivial | exact rfl | (refine ⟨Or.inl rfl, ?_⟩) | (refine ⟨Or.inr rfl, ?_⟩) | (refine ⟨Or.inr trivial, ?_⟩) | (refine ⟨rfl, ?_⟩) | (refine ⟨?_, ?_⟩)))) ?_
    intro ⟨j, b⟩ ⟨j1, j2, j3⟩
    dsimp only at j1 j2 j3 ⊢
    by_cases hlj : j < p.entries.length
    · obtain ⟨x, hy, hdy⟩ := drop_at hlj
      have okx := ok.e x (List.mem_of_getElem? hy)
      have hxn := tx_le okx.n
      have hxa := okx.a
      have hxc := okx.c
      obtain ⟨s1, s2⟩ := entS_le okx
      have cF := txD_ac x.amt okx.n
      have eF := entS_left b x
      repeat' (first | ((with_reducible refine gA ?_); (first | refine AW_seq ?_ | refine AW_region ?_ | refine AW_regionD Tryd.mixed ?_ | (refine AW_cond rfl (fun hc => ?_) (fun hc => ?_) <;> try (exfalso; simp only [cmpL] at hc; omega)) | refine AW_block ?_ | refine AW_skip ?_)) | (first | ((with_reducible refine gS ?_); refine Es_s (T := Tryd.tab) rfl rfl rfl rfl ?_) | ((with_reducible refine gD ?_); refine Ed_s (T := Tryd.tab) rfl rfl rfl rfl ?_)) | ((first | ((with_reducible refine gS ?_); apply Es_q) | ((with_reducible refine gD ?_); apply Ed_q)); rfl; rfl; (first | refine LStep_call (cF) rfl rfl rfl rfl | (refine LStep_cat rfl rfl rfl rfl ?_; (first | omega | (simp only [ba_size, ba_s1]; omega))))) | (((with_reducible refine gS ?_); apply Es_q); rfl; rfl; (first | refine LStep_lenM (T := Tryd.tab) rfl rfl rfl rfl | (refine LStep_add rfl rfl rfl rfl ?_; (refine IntWalk.i64_in _ ?_; first | omega | (simp only [cmps] at *; omega))) | (refine LStep_indexM (T := Tryd.tab) (c := ?_) rfl rfl rfl rfl rfl rfl ?_; rotate_left; assumption))) | (refine Es_skip rfl ?_ rfl ?_; (first | rfl | (refine w_tf ?_; assumption) | (refine w_ft ?_; assumption))) | (((with_reducible refine gS ?_); apply Es_xs); rfl; rfl; refine LStep_allocN (T := Tryd.tab) rfl rfl rfl rfl rfl rfl; rfl) | (((with_reducible refine gS ?_); apply Es_xn); rfl; rfl; (refine LStep_storeN (T := Tryd.tab) rfl rfl rfl rfl rfl rfl rfl ?_ rfl; (refine Nat.le_of_ble_eq_true ?_; rfl)); rfl) | (with_reducible refine Es_nil ?_) | ((with_reducible refine Ed_nil ?_ ?_); kernel_rfl) | (with_reducible refine then_n ?_) | (with_reducible refine block_n ?_))
      refine ⟨(j + 1, b ++ ⟨#[32]⟩ ++ x.acct ++ ⟨#[47]⟩ ++ x.cur ++ ⟨#[47]⟩ ++ tx x.amt), ?_, by omega, by (repeat' (first | exact trivial | exact rfl | (refine ⟨Or.inl rfl, ?_⟩) | (refine ⟨Or.inr rfl, ?_⟩) | (refine ⟨Or.inr trivial, ?_⟩) | (refine ⟨rfl, ?_⟩) | (refine ⟨?_, ?_⟩))), by (repeat' (first | exact trivial | exact rfl | (refine ⟨Or.inl rfl, ?_⟩) | (refine ⟨Or.inr rfl, ?_⟩) | (refine ⟨Or.inr trivial, ?_⟩) | (refine ⟨rfl, ?_⟩) | (refine ⟨?_, ?_⟩))), by (repeat' (first | exact trivial | exact rfl | (refine ⟨Or.inl rfl, ?_⟩) | (refine ⟨Or.inr rfl, ?_⟩) | (refine ⟨Or.inr trivial, ?_⟩) | (refine ⟨rfl, ?_⟩) | (refine ⟨?_, ?_⟩))), by (repeat' (first | exact trivial | exact rfl | (refine ⟨Or.inl rfl, ?_⟩) | (refine ⟨Or.inr rfl, ?_⟩) | (refine ⟨Or.inr trivial, ?_⟩) | (refine ⟨rfl, ?_⟩) | (refine ⟨?_, ?_⟩)))⟩; exact ⟨by omega, by rw [eF, j2]; exact (entsS_succ a hy).symm, by dsimp only; rw [eF, ba_size]; omega⟩
    · have hje : j = p.entries.length := by omega
      subst hje
      have e0 := endS_le ok
      have eF := endS_left b p
      repeat' (first | ((with_reducible refine gA ?_); (first | refine AW_seq ?_ | refine AW_region ?_ | (refine AW_cond rfl (fun hc => ?_) (fun hc => ?_) <;> try (exfalso; simp only [cmpL] at hc; omega)) | refine AW_exit ?_)) | ((with_reducible refine gS ?_); refine Es_s (T := Tryd.tab) rfl rfl rfl rfl ?_) | (((with_reducible refine gS ?_); apply Es_q); rfl; rfl; (refine LStep_cat rfl rfl rfl rfl ?_; (first | omega | (simp only [ba_size, ba_s1]; omega)))) | (((with_reducible refine gS ?_); apply Es_q); rfl; rfl; (first | refine LStep_lenM (T := Tryd.tab) rfl rfl rfl rfl | (refine LStep_add rfl rfl rfl rfl ?_; (refine IntWalk.i64_in _ ?_; first | omega | (simp only [cmps] at *; omega))) | (refine LStep_indexM (T := Tryd.tab) (c := ?_) rfl rfl rfl rfl rfl rfl ?_; rotate_left; assumption))) | (with_reducible refine Es_nil ?_) | (with_reducible refine then_n ?_) | (with_reducible refine then_e ?_) | (with_reducible refine block_n ?_) | ((with_reducible refine block_e ?_ ?_); rfl))
      refine ⟨(k + 1, b ++ ⟨#[32]⟩ ++ p.text ++ ⟨#[10]⟩), ?_, by omega, by (repeat' (first | exact trivial | exact rfl | (refine ⟨Or.inl rfl, ?_⟩) | (refine ⟨Or.inr rfl, ?_⟩) | (refine ⟨Or.inr trivial, ?_⟩) | (refine ⟨rfl, ?_⟩) | (refine ⟨?_, ?_⟩))), by (repeat' (first | exact trivial | exact rfl | (refine ⟨Or.inl rfl, ?_⟩) | (refine ⟨Or.inr rfl, ?_⟩) | (refine ⟨Or.inr trivial, ?_⟩) | (refine ⟨rfl, ?_⟩) | (refine ⟨?_, ?_⟩))), by (repeat' (first | exact trivial | exact rfl | (refine ⟨Or.inl rfl, ?_⟩) | (refine ⟨Or.inr rfl, ?_⟩) | (refine ⟨Or.inr trivial, ?_⟩) | (refine ⟨rfl, ?_⟩) | (refine ⟨?_, ?_⟩))), by (repeat' (first | exact trivial | exact rfl | (refine ⟨Or.inl rfl, ?_⟩) | (refine ⟨Or.inr rfl, ?_⟩) | (refine ⟨Or.inr trivial, ?_⟩) | (refine ⟨rfl, ?_⟩) | (refine ⟨?_, ?_⟩)))⟩; exact ⟨by omega, by rw [eF, j2, entsS_all, i2]; exact (textK_succ hx).symm, by dsimp only; rw [eF, ba_size]; omega⟩
  · have hke : k = l.length := by omega
    subst hke
    repeat' (first | ((with_reducible refine gA ?_); (first | refine AW_seq ?_ | refine AW_region ?_ | (refine AW_cond rfl (fun hc => ?_) (fun hc => ?_) <;> try (exfalso; simp only [cmpL] at hc; omega)) | refine AW_ret ?_ | refine AW_exit ?_)) | ((with_reducible refine gS ?_); refine Es_s (T := Tryd.tab) rfl rfl rfl rfl ?_) | (((with_reducible refine gS ?_); apply Es_q); rfl; rfl; refine LStep_lenM (T := Tryd.tab) rfl rfl rfl rfl) | (with_reducible refine Es_nil ?_) | (with_reducible refine then_n ?_) | (with_reducible refine then_e ?_) | ((with_reducible refine block_e ?_ ?_); rfl) | ((with_reducible refine gR ?_); first | refine ret1 rfl ?_ | refine ret2 rfl rfl ?_ | refine ret0 ?_ | refine end1 rfl ?_ | refine end0 ?_))
    rw [i2, textK_all]
/-! ### the law -/
set_option maxRecDepth 10000 in
theorem matchTexts_ac (l : List Post) (hl : l.length ≤ 140737488351232) (hp : ∀ p ∈ l, in64 p.number ∧ p.text.size ≤ 1048576 ∧ ∀ x ∈ p.entries, x.ok) : AC Tryd.prog 3 [.d (.sl 3 (l.map Post.enc))] [hG] [9000] (fun r h' => r = .d (.sc (.bool true)) ∧ SubH [hG] h') := by
  have cf := few_ac l hl
  by_cases hf : fewP l = true
  · obtain ⟨b1, b2⟩ := few_bounds hf
    rw [hf] at cf
    have ok : ∀ p ∈ l, p.ok := fun p hm => ⟨(hp p hm).1, (hp p hm).2.1, b2 p hm, (hp p hm).2.2⟩
    have cm := mtext_ac l b1 ok
    have cr := rtext_ac l b1 ok
    refine AC_enter Tryd.func3 rfl Tryd.ntmps3 (rv := [.tmp 2]) rfl rfl (by simp) (fun w X G => ?_)
    repeat' (first | ((with_reducible refine gA ?_); (first | refine AW_seq ?_ | refine AW_region ?_ | refine AW_condF rfl ?_ | refine AW_ret ?_ | refine AW_skip ?_)) | ((with_reducible refine gS ?_); refine Es_s (T := Tryd.tab) rfl rfl rfl rfl ?_) | (((with_reducible refine gS ?_); apply Es_q); rfl; rfl; (first | refine LStep_call (awake_ac) rfl rfl rfl rfl | refine LStep_call (cf) rfl rfl rfl rfl | refine LStep_call (cr) rfl rfl rfl rfl)) | (((with_reducible refine gS ?_); apply Es_xg); rfl; rfl; refine LStep_callHN [(9000, 9000)] [] cm rfl rfl ⟨rfl, trivial⟩ rfl ⟨trivial, trivial⟩ rfl rfl; rfl) | (((with_reducible refine gS ?_); apply Es_q); rfl; rfl; refine LStep_simp (T := Tryd.tab) rfl rfl) | (with_reducible refine Es_nil ?_) | (with_reducible refine then_n ?_) | ((with_reducible refine gR ?_); first | refine ret1 rfl ?_ | refine ret2 rfl rfl ?_ | refine ret0 ?_ | refine end1 rfl ?_ | refine end0 ?_))
    all_goals (refine ⟨?_, rfl, trivial⟩)
    all_goals (rw [show eqs (textL l) (textL l) = true from eqs_t.2 rfl])
  · have hf : fewP l = false := by simpa using hf
    rw [hf] at cf
    refine AC_enter Tryd.func3 rfl Tryd.ntmps3 (rv := [.tmp 2]) rfl rfl (by simp) (fun w X G => ?_)
    repeat' (first | ((with_reducible refine gA ?_); (first | refine AW_seq ?_ | refine AW_region ?_ | refine AW_condT rfl ?_ | refine AW_ret ?_)) | ((with_reducible refine gS ?_); refine Es_s (T := Tryd.tab) rfl rfl rfl rfl ?_) | (((with_reducible refine gS ?_); apply Es_q); rfl; rfl; (first | refine LStep_call (awake_ac) rfl rfl rfl rfl | refine LStep_call (cf) rfl rfl rfl rfl)) | (((with_reducible refine gS ?_); apply Es_q); rfl; rfl; refine LStep_simp (T := Tryd.tab) rfl rfl) | (with_reducible refine Es_nil ?_) | (with_reducible refine then_n ?_) | (with_reducible refine then_r ?_) | ((with_reducible refine gR ?_); first | refine ret1 rfl ?_ | refine ret2 rfl rfl ?_ | refine ret0 ?_ | refine end1 rfl ?_ | refine end0 ?_))
    all_goals exact ⟨rfl, rfl, trivial⟩
end Go.Proofs.YtglkilmflohfoaaDoor
