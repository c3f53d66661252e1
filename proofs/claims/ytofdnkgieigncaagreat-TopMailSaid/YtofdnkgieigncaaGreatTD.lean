/- TopMail, plain: letters, sent, got, and in the mail; posts of a ledger, mended with themselves. -/
import Derived.Test.YtofdnkgieigncaaGreatTA
import Derived.Test.YtofdnkgieigncaaGreatW1
import Derived.Test.YtofdnkgieigncaaGreatR6
import Derived.Test.YtofdnkgieigncaaGreatQ7
namespace Go.Proofs.YtofdnkgieigncaaGreat
open Go.SL

def mUSD : ByteArray := ⟨#[85, 83, 68]⟩
def mlT (i x : Int) : Lt := ⟨⟨#[97]⟩, ⟨#[98]⟩, i, 27, 0, ⟨#[]⟩, ⟨#[]⟩, ⟨#[]⟩, 0, 0, mUSD, x, [], []⟩
theorem mlT_tB (i j x y : Int) : (mlT i x).tB (mlT j y) = decide (i = j) := by
  rw [Bool.eq_iff_iff, Lt.tB_iff, decide_eq_true_eq]
  exact ⟨fun h => h.2.2, fun h => ⟨rfl, rfl, h⟩⟩
theorem remS_appT (cur : ByteArray) (a b : List Lt) : remS cur (a ++ b) = remS cur a + remS cur b := by unfold remS; rw [List.filter_append, List.map_append, List.sum_append]
theorem remS_one (i x : Int) : remS mUSD [mlT i x] = x := by
  have := remS_snoc mUSD [] (mlT i x)
  rw [List.nil_append] at this
  rw [this]
  have e : remB mUSD (mlT i x) = true := by simp [remB, mlT]
  rw [if_pos e]
  show (0 : Int) + x = x
  omega
/-- the letters behind k sums: sent, got, in the mail; what was sent, what was booked -/
structure MailIn (k : Nat) (se go ml : List Lt) (S B : Int) : Prop where
  len : se.length = k
  one : ∀ x ∈ se, ∃ i v : Int, x = mlT i v ∧ 1 ≤ i ∧ i ≤ k ∧ 0 ≤ v ∧ v ≤ 65535
  td : TD se
  sub : ∀ x ∈ go, x ∈ se
  mail : inMail se go = ml
  cnt : go.length + ml.length = k
  sum : remS mUSD ml = S - B
  bnd : 0 ≤ B ∧ B ≤ S ∧ S ≤ 65535 * (k : Int)
theorem MailIn.zero : MailIn 0 [] [] [] 0 0 := ⟨rfl, by simp, List.Pairwise.nil, by simp, rfl, rfl, rfl, by omega⟩
theorem MailIn.fresh {k : Nat} {se go ml : List Lt} {S B : Int} (h : MailIn k se go ml S B) (v : Int) : anyT (mlT ((k : Int) + 1) v) se = false ∧ ∀ x ∈ se, x.tB (mlT ((k : Int) + 1) v) = false := by
  have key : ∀ x ∈ se, (mlT ((k : Int) + 1) v).tB x = false ∧ x.tB (mlT ((k : Int) + 1) v) = false := by
    intro x hx
    obtain ⟨i, w, rfl, h1, h2, _⟩ := h.one x hx
    rw [mlT_tB, mlT_tB]
    exact ⟨decide_eq_false (by omega), decide_eq_false (by omega)⟩
  exact ⟨anyT_false.2 (fun x hx => (key x hx).1), fun x hx => (key x hx).2⟩
theorem td_snoc {l : List Lt} {x : Lt} (h : TD l) (hx : ∀ y ∈ l, y.tB x = false) : TD (l ++ [x]) := by
  unfold TD
  rw [List.pairwise_append]
  exact ⟨h, List.pairwise_singleton _ _, fun a ha b hb => by rw [List.mem_singleton.1 hb]; exact hx a ha⟩
theorem anyT_snocT (x : Lt) (l : List Lt) (y : Lt) : anyT x (l ++ [y]) = (anyT x l || x.tB y) := by simp [anyT]
theorem MailIn.got {k : Nat} {se go ml : List Lt} {S B : Int} (h : MailIn k se go ml S B) {v : Int} (hv : 0 ≤ v ∧ v ≤ 65535) : MailIn (k + 1) (se ++ [mlT ((k : Int) + 1) v]) (go ++ [mlT ((k : Int) + 1) v]) ml (S + v) (B + v) := by
  obtain ⟨f1, f2⟩ := h.fresh v
  have hb := h.bnd
  refine ⟨by simp [h.len], fun x hx => ?_, td_snoc h.td f2, fun x hx => ?_, ?_, by have := h.cnt; simp; omega, by rw [h.sum]; omega, by omega⟩
  · rcases List.mem_append.1 hx with hx | hx
    · obtain ⟨i, w, e, h1, h2, h3⟩ := h.one x hx
      exact ⟨i, w, e, h1, by omega, h3⟩
    · exact ⟨_, v, List.mem_singleton.1 hx, by omega, by omega, hv⟩
  · rcases List.mem_append.1 hx with hx | hx
    · exact List.mem_append_left _ (h.sub x hx)
    · exact List.mem_append_right _ hx
  · unfold inMail
    rw [List.filter_append]
    have e1 : ([mlT ((k : Int) + 1) v].filter fun x => !anyT x (go ++ [mlT ((k : Int) + 1) v])) = [] := by
      have : anyT (mlT ((k : Int) + 1) v) (go ++ [mlT ((k : Int) + 1) v]) = true := by rw [anyT_snocT, tB_refl, Bool.or_true]
      rw [List.filter_cons, this]; rfl
    rw [e1, List.append_nil, ← h.mail]
    unfold inMail
    refine List.filter_congr (fun x hx => ?_)
    rw [anyT_snocT, f2 x hx, Bool.or_false]
theorem MailIn.lost {k : Nat} {se go ml : List Lt} {S B : Int} (h : MailIn k se go ml S B) {v : Int} (hv : 0 ≤ v ∧ v ≤ 65535) : MailIn (k + 1) (se ++ [mlT ((k : Int) + 1) v]) go (ml ++ [mlT ((k : Int) + 1) v]) (S + v) B := by
  obtain ⟨f1, f2⟩ := h.fresh v
  have hb := h.bnd
  refine ⟨by simp [h.len], fun x hx => ?_, td_snoc h.td f2, fun x hx => List.mem_append_left _ (h.sub x hx), ?_, by have := h.cnt; simp; omega, by rw [remS_appT, h.sum, remS_one]; omega, by omega⟩
  · rcases List.mem_append.1 hx with hx | hx
    · obtain ⟨i, w, e, h1, h2, h3⟩ := h.one x hx
      exact ⟨i, w, e, h1, by omega, h3⟩
    · exact ⟨_, v, List.mem_singleton.1 hx, by omega, by omega, hv⟩
  · unfold inMail
    rw [List.filter_append]
    have e1 : ([mlT ((k : Int) + 1) v].filter fun x => !anyT x go) = [mlT ((k : Int) + 1) v] := by
      have : anyT (mlT ((k : Int) + 1) v) go = false := anyT_false.2 (fun x hx => anyT_false.1 f1 x (h.sub x hx))
      rw [List.filter_cons, this]; rfl
    rw [e1]
    have := h.mail
    unfold inMail at this
    rw [this]
theorem MailIn.amt {k : Nat} {se go ml : List Lt} {S B : Int} (h : MailIn k se go ml S B) : ∀ l ∈ ml, 0 ≤ l.amt ∧ l.amt ≤ 1099511627776 := by
  intro l hl
  rw [← h.mail] at hl
  obtain ⟨i, v, rfl, _, _, h1, h2⟩ := h.one l (List.mem_filter.1 hl).1
  exact ⟨h1, by show v ≤ _; omega⟩
theorem MailIn.res {k : Nat} {se go ml : List Lt} {S B : Int} (h : MailIn k se go ml S B) : mailR se go = .tup [.d (.sl 14 (ml.map Lt.enc)), .d (.sc (.int .i64 0))] := by
  unfold mailR
  rw [if_pos h.td, if_pos h.sub, h.mail]
/-- posts that are numbered on -/
def PostsIn (P : List Post) : Prop := ∀ (i : Nat) (p : Post), P[i]? = some p → p.number = (i : Int) + 1 ∧ p.entries.length ≤ 64
theorem PostsIn.snoc {P : List Post} (h : PostsIn P) (t : ByteArray) {x : List Ent} (hx : x.length ≤ 64) : PostsIn (P ++ [⟨(P.length : Int) + 1, t, x⟩]) := by
  intro i p hp
  rw [List.getElem?_append] at hp
  split at hp
  · exact h i p hp
  · rename_i hlt
    have : i = P.length := by
      have := (List.getElem?_eq_some_iff.1 hp).1
      simp at this
      omega
    subst this
    simp at hp
    subst hp
    exact ⟨rfl, hx⟩
theorem PostsIn.nums {P : List Post} (h : PostsIn P) : (nums P).Nodup := by
  unfold Go.Proofs.YtofdnkgieigncaaGreat.nums
  rw [List.Nodup, List.pairwise_iff_getElem]
  intro i j hi hj hij
  rw [List.getElem_map, List.getElem_map]
  have hi' : i < P.length := by simpa using hi
  have hj' : j < P.length := by simpa using hj
  have a := (h i _ (List.getElem?_eq_getElem hi')).1
  have b := (h j _ (List.getElem?_eq_getElem hj')).1
  rw [a, b]
  omega
theorem PostsIn.mend {P : List Post} (h : PostsIn P) : ∃ M : List Post, M.length = P.length ∧ mendR P P = .tup [.d (.sl 3 (M.map Post.enc)), .d (.sc (.int .i64 0))] := by
  have hn := h.nums
  refine ⟨isortP (mixL P P), ?_, ?_⟩
  · rw [(isortP_perm _).length_eq]
    unfold mixL
    have e : onlyL P P = [] := by
      unfold onlyL
      rw [rowL_id hn, List.filter_eq_nil_iff]
      intro p hp
      rw [lacks_first ((num_first hn).1 hp)]
      decide
    rw [e, List.append_nil, rowL_id hn]
  · unfold mendR
    rw [if_pos (unlike_nil.2 (fun n p q hp hq => by rw [hp] at hq; injection hq))]
end Go.Proofs.YtofdnkgieigncaaGreat
