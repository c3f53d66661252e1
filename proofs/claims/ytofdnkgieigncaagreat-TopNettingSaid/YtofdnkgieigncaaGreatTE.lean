/- TopNetting, plain: debts of four parties, netted; what a ledger has behind them. -/
import Derived.Test.YtofdnkgieigncaaGreatTA
import Derived.Test.YtofdnkgieigncaaGreatWL
import Derived.Laws.BytesArg
import Derived.Test.YtofdnkgieigncaaGreatWK
import Derived.WalkKit
import Derived.ProofKit
import Derived.OpenShut
import Derived.SizedLaws
namespace Go.Proofs.YtofdnkgieigncaaGreat
open Go.SL

def uUSD : ByteArray := ⟨#[85, 83, 68]⟩
def uEUR : ByteArray := ⟨#[69, 85, 82]⟩
/-- who owes whom how much, in which currency: each a byte -/
abbrev Ow := (Nat × Nat) × (Nat × Nat)
def owE (x : Ow) : List D := [.sc (.int .u8 (x.1.1 : Int)), .sc (.int .u8 (x.1.2 : Int)), .sc (.int .u8 (x.2.1 : Int)), .sc (.int .u8 (x.2.2 : Int))]
def owOk (x : Ow) : Prop := (x.1.1 < 256 ∧ x.1.2 < 256) ∧ x.2.1 < 256 ∧ x.2.2 < 256
def pnm (n : Nat) : ByteArray := strOfNums [97 + (n : Int)]
def cnm (n : Nat) : ByteArray := if n = 0 then uUSD else uEUR
def P4 : List ByteArray := [⟨#[97]⟩, ⟨#[98]⟩, ⟨#[99]⟩, ⟨#[100]⟩]
def C2 : List ByteArray := [uUSD, uEUR]
def owD (x : Ow) : Db := ((cnm (x.2.2 % 2), pnm (x.1.1 % 4), pnm (x.1.2 % 4)), 1 + (x.2.1 : Int))
def owL (l : List Ow) : List Db := (l.map owD).filter fun d => decide (d.1.2.1 ≠ d.1.2.2)
theorem owL_snoc (l : List Ow) (x : Ow) : owL (l ++ [x]) = owL l ++ (if (owD x).1.2.1 = (owD x).1.2.2 then [] else [owD x]) := by
  unfold owL
  rw [List.map_append, List.filter_append]
  congr 1
  by_cases h : (owD x).1.2.1 = (owD x).1.2.2
  · simp [h]
  · simp [h]
theorem pnm_in : ∀ n < 4, pnm n ∈ P4 ∧ nameOk (pnm n) = true := by decide +kernel
theorem cnm_in (n : Nat) : cnm n ∈ C2 ∧ curNOk (cnm n) = true := by
  unfold cnm
  split
  · exact ⟨by simp [C2], by decide +kernel⟩
  · exact ⟨by simp [C2], by decide +kernel⟩
/-- debts that may be booked -/
structure Dbs (l : List Db) : Prop where
  may : l.all mayD = true
  par : ∀ d ∈ l, d.1.2.1 ∈ P4 ∧ d.1.2.2 ∈ P4 ∧ d.1.1 ∈ C2
theorem Dbs.one {l : List Db} (h : Dbs l) {d : Db} (hd : d ∈ l) : d.1.2.1 ≠ d.1.2.2 ∧ 1 ≤ d.2 := ⟨(mayD_t (all_may h.may d hd)).2.2.1, (mayD_t (all_may h.may d hd)).2.2.2.1⟩
theorem owL_in {l : List Ow} {d : Db} (h : d ∈ owL l) : ∃ x ∈ l, d = owD x ∧ d.1.2.1 ≠ d.1.2.2 := by
  unfold owL at h
  obtain ⟨h1, h2⟩ := List.mem_filter.1 h
  obtain ⟨x, hx, rfl⟩ := List.mem_map.1 h1
  exact ⟨x, hx, rfl, of_decide_eq_true h2⟩
theorem owL_len (l : List Ow) : (owL l).length ≤ l.length := by
  unfold owL
  have := List.length_filter_le (fun d : Db => decide (d.1.2.1 ≠ d.1.2.2)) (l.map owD)
  rwa [List.length_map] at this
theorem owL_dbs {l : List Ow} (h : ∀ x ∈ l, owOk x) : Dbs (owL l) := by
  have key : ∀ d ∈ owL l, mayD d = true ∧ (d.1.2.1 ∈ P4 ∧ d.1.2.2 ∈ P4 ∧ d.1.1 ∈ C2) := fun d hd => by
    obtain ⟨x, hx, rfl, hne⟩ := owL_in hd
    obtain ⟨⟨h1, h2⟩, h3, h4⟩ := h x hx
    have p1 := pnm_in (x.1.1 % 4) (Nat.mod_lt _ (by omega))
    have p2 := pnm_in (x.1.2 % 4) (Nat.mod_lt _ (by omega))
    have p3 := cnm_in (x.2.2 % 2)
    exact ⟨mayD_of p1.2 p2.2 hne (by show 1 ≤ 1 + (x.2.1 : Int); omega) (by show 1 + (x.2.1 : Int) ≤ 1099511627776; omega) p3.2, p1.1, p2.1, p3.1⟩
  exact ⟨List.all_eq_true.2 (fun d hd => (key d hd).1), fun d hd => (key d hd).2⟩
theorem owL_amt {l : List Ow} (h : ∀ x ∈ l, owOk x) : ∀ d ∈ owL l, 0 ≤ d.2 ∧ d.2 ≤ 256 := fun d hd => by
  obtain ⟨x, hx, rfl, hne⟩ := owL_in hd
  obtain ⟨_, h3, _⟩ := h x hx
  exact ⟨by show 0 ≤ 1 + (x.2.1 : Int); omega, by show 1 + (x.2.1 : Int) ≤ 256; omega⟩
/-- all amounts -/
def amtS (l : List Db) : Int := (l.map (·.2)).sum
theorem amtS_cons (d : Db) (l : List Db) : amtS (d :: l) = d.2 + amtS l := by simp [amtS]
theorem amtS_snoc (l : List Db) (d : Db) : amtS (l ++ [d]) = amtS l + d.2 := by simp [amtS]
theorem amtS_app (a b : List Db) : amtS (a ++ b) = amtS a + amtS b := by simp [amtS]
theorem amtS_take {l : List Db} {k : Nat} {d : Db} (h : l[k]? = some d) : amtS (l.take (k + 1)) = amtS (l.take k) + d.2 := by
  rw [List.take_add_one, h]
  exact amtS_snoc _ _
theorem amtS_le {B : Int} (hB : 0 ≤ B) : ∀ {l : List Db}, (∀ d ∈ l, 0 ≤ d.2 ∧ d.2 ≤ B) → 0 ≤ amtS l ∧ amtS l ≤ B * (l.length : Int)
  | [], _ => by simp [amtS]
  | d :: l, h => by
    have h1 := h d List.mem_cons_self
    have h2 := amtS_le hB (l := l) (fun x hx => h x (List.mem_cons_of_mem _ hx))
    rw [amtS_cons, List.length_cons, show ((l.length + 1 : Nat) : Int) = (l.length : Int) + 1 by omega, Int.mul_add, Int.mul_one]
    omega
theorem amtS_pos {l : List Db} (h : ∀ d ∈ l, 0 ≤ d.2) (k : Nat) : 0 ≤ amtS (l.take k) ∧ amtS (l.take k) ≤ amtS l := by
  have nn : ∀ m : List Db, (∀ d ∈ m, 0 ≤ d.2) → 0 ≤ amtS m := by
    intro m
    induction m with
    | nil => intro _; simp [amtS]
    | cons d m ih => intro hm; have := hm d List.mem_cons_self; have := ih (fun x hx => hm x (List.mem_cons_of_mem _ hx)); rw [amtS_cons]; omega
  have e : amtS l = amtS (l.take k) + amtS (l.drop k) := by
    conv => lhs; rw [← List.take_append_drop k l]
    rw [amtS_app]
  have h1 := nn (l.take k) (fun d hd => h d (List.mem_of_mem_take hd))
  have h2 := nn (l.drop k) (fun d hd => h d (List.mem_of_mem_drop hd))
  omega
theorem amtS_cur : ∀ {l : List Db}, (∀ d ∈ l, d.1.1 ∈ C2) → amtS l = sumC l uUSD + sumC l uEUR
  | [], _ => rfl
  | d :: l, h => by
    have hd := h d List.mem_cons_self
    have ih := amtS_cur (l := l) (fun x hx => h x (List.mem_cons_of_mem _ hx))
    have hne : uUSD ≠ uEUR := by decide
    rw [amtS_cons, sumC_cons, sumC_cons, ih]
    simp only [C2, List.mem_cons, List.not_mem_nil, or_false] at hd
    rcases hd with e | e
    · rw [e, if_pos rfl, if_neg hne]; omega
    · rw [e, if_pos rfl, if_neg (fun x => hne x.symm)]; omega
theorem ow_amt : ∀ {l : List Db}, (∀ d ∈ l, 0 ≤ d.2) → ∀ k, 0 ≤ ow l k ∧ ow l k ≤ amtS l := by
  intro l
  refine list_snocN (C := fun l => (∀ d ∈ l, 0 ≤ d.2) → ∀ k, 0 ≤ ow l k ∧ ow l k ≤ amtS l) l (fun _ k => ⟨by simp [ow], by simp [ow, amtS]⟩) (fun l d ih h k => ?_)
  have h1 := ih (fun x hx => h x (List.mem_append_left _ hx)) k
  have h2 := h d (by simp)
  rw [ow_snoc, amtS_snoc]
  split <;> omega
theorem psI_amt {l : List Db} (h : ∀ d ∈ l, 0 ≤ d.2) (s : SK) : -amtS l ≤ psI l s ∧ psI l s ≤ amtS l := by
  induction l with
  | nil => simp [psI, amtS]
  | cons d l ih =>
    have h1 := ih (fun x hx => h x (List.mem_cons_of_mem _ hx))
    have h2 := h d List.mem_cons_self
    rw [psI_cons, amtS_cons]
    unfold psD
    split <;> split <;> omega
theorem good_of {l : List Db} (h : ∀ d ∈ l, 0 ≤ d.2) (hs : amtS l ≤ 1099511627776) : ¬ badN l ∧ ¬ badS l := by
  refine ⟨fun ⟨k, hk⟩ => ?_, fun ⟨s, hk⟩ => ?_⟩
  · have h1 := ow_amt h k
    have h2 := ow_amt h (bk k)
    unfold netI at hk
    omega
  · have := psI_amt h s
    omega
theorem Dbs.par4 {l : List Db} (h : Dbs l) : (parN l).length ≤ 4 := by
  have := nodup_le (ssn_nodup (parN_spec l).1) (S := P4) (fun p hp => by
    obtain ⟨d, hd, e⟩ := ((parN_spec l).2 p).1 hp
    have := h.par d hd
    rcases e with rfl | rfl
    · exact this.1
    · exact this.2.1)
  exact this
/-- what is netted -/
structure NettedOf (l X : List Db) : Prop where
  dbs : Dbs X
  pos : ∀ s, psI X s = psI l s
  amt : amtS X ≤ amtS l
  len : X.length ≤ 2 * l.length
theorem NettedOf.mk' {l X : List Db} (h : Dbs l) (hm : X.all mayD = true) (hp : ∀ d ∈ X, d.1.2.1 ∈ parN l ∧ d.1.2.2 ∈ parN l ∧ d.1.1 ∈ curN l) (hs : ∀ s, psI X s = psI l s) (hc : ∀ c, sumC X c ≤ sumC l c) (hl : X.length ≤ 2 * l.length) : NettedOf l X := by
  have hpar : ∀ p, p ∈ parN l → p ∈ P4 := fun p hp => by
    obtain ⟨d, hd, e⟩ := ((parN_spec l).2 p).1 hp
    have := h.par d hd
    rcases e with rfl | rfl
    · exact this.1
    · exact this.2.1
  have hcur : ∀ p, p ∈ curN l → p ∈ C2 := fun p hp => by
    obtain ⟨d, hd, rfl⟩ := ((curN_spec l).2 p).1 hp
    exact (h.par d hd).2.2
  have hX : Dbs X := ⟨hm, fun d hd => ⟨hpar _ (hp d hd).1, hpar _ (hp d hd).2.1, hcur _ (hp d hd).2.2⟩⟩
  refine ⟨hX, hs, ?_, hl⟩
  rw [amtS_cur (fun d hd => (hX.par d hd).2.2), amtS_cur (fun d hd => (h.par d hd).2.2)]
  have := hc uUSD
  have := hc uEUR
  omega
theorem key_in {l X : List Db} (h : ∀ x ∈ X, ∃ d ∈ l, d.1 = x.1) : ∀ d ∈ X, d.1.2.1 ∈ parN l ∧ d.1.2.2 ∈ parN l ∧ d.1.1 ∈ curN l := fun x hx => by
  obtain ⟨d, hd, e⟩ := h x hx
  exact ⟨((parN_spec l).2 _).2 ⟨d, hd, .inl (by rw [e])⟩, ((parN_spec l).2 _).2 ⟨d, hd, .inr (by rw [e])⟩, ((curN_spec l).2 _).2 ⟨d, hd, by rw [e]⟩⟩
theorem netted_pairs {l : List Db} (h : Dbs l) (hb : ¬ badN l) : NettedOf l (pairN l) := by
  have hO := okD h.may hb
  exact .mk' h (pair_may h.may hb) (key_in (fun x hx => (fit_x hO (pairN_told hO.one) (fun _ => Int.le_refl _) x hx).2.2)) (pairN_pos hO.one) (sum_pair h.may) (by have := pair_len h.may hb; omega)
theorem netted_rings {l : List Db} (h : Dbs l) (hb : ¬ badN l) : NettedOf l (ringsN l) := by
  have hO := okD h.may hb
  exact .mk' h (ring_may h.may hb) (key_in (fun x hx => (fit_x hO (ringsN_told hO) (fun k => (rg_tab hO k.1).2.1 _ _) x hx).2.2)) (ringsN_pos hO) (fun c => Int.le_trans (ringsN_sum hO c) (sum_pair h.may c)) (by have := ring_len h.may hb; omega)
theorem netted_net {l : List Db} (h : Dbs l) (hb : ¬ badS l) : NettedOf l (netN l) := by
  refine .mk' h (net_may h.may hb) (fun d hd => ?_) (netN_pos l) (sum_net h.may (fun _ => rfl)) (netN_len l)
  have := netN_in hd
  exact ⟨this.2.1, this.2.2.1, this.1⟩
/-! ### booked -/
def book0 : List (K2 × Acc) := P4.flatMap fun p => C2.map fun c => ((p, c), ⟨-1099511627776, 0, 0⟩)
def tDebt : ByteArray := ⟨#[100, 101, 98, 116]⟩
def bookS (s : Led) (d : Db) : Led := enterS s tDebt (payX (d.1.2.1, d.1.1) (d.1.2.2, d.1.1) d.2)
def bookL (l : List Db) : Led := l.foldl bookS ⟨book0, [], []⟩
theorem bookL_snoc (l : List Db) (d : Db) : bookL (l ++ [d]) = bookS (bookL l) d := by unfold bookL; rw [List.foldl_append]; rfl
theorem bookL_take {l : List Db} {k : Nat} {d : Db} (h : l[k]? = some d) : bookL (l.take (k + 1)) = bookS (bookL (l.take k)) d := by
  rw [List.take_add_one, h]
  exact bookL_snoc _ _
theorem book0_flat : Flat book0 0 := by
  refine ⟨by decide +kernel, fun k a h => ?_⟩
  have hm := aget_mem h
  have : ∀ p ∈ book0, p.2.floor = -1099511627776 ∧ p.2.held = 0 ∧ p.2.bal = 0 := by decide +kernel
  obtain ⟨h1, h2, h3⟩ := this (k, a) hm
  exact ⟨h1, h2, by rw [h3]; omega, by rw [h3]; omega⟩
theorem book0_has : ∀ p ∈ P4, ∀ c ∈ C2, aget (p, c) book0 ≠ none := by decide +kernel
/-- the ledger behind debts -/
structure Booked (l : List Db) (s : Led) : Prop where
  flat : Flat s.A (amtS l)
  has : ∀ p ∈ P4, ∀ c ∈ C2, aget (p, c) s.A ≠ none
  bal : ∀ p ∈ P4, ∀ c ∈ C2, balA s.A (p, c) = psI l (p, c)
  len : s.P.length = l.length
theorem booked_of (l : List Db) : Dbs l → amtS l ≤ 1099511627776 → Booked l (bookL l) := by
  refine list_snocN (C := fun l => Dbs l → amtS l ≤ 1099511627776 → Booked l (bookL l)) l (fun _ _ => ⟨book0_flat, book0_has, ?_, rfl⟩) (fun l d ih h hs => ?_)
  · have : ∀ p ∈ P4, ∀ c ∈ C2, balA book0 (p, c) = 0 := by decide +kernel
    exact fun p hp c hc => this p hp c hc
  · have hl : Dbs l := ⟨List.all_eq_true.2 (fun x hx => all_may h.may x (List.mem_append_left _ hx)), fun x hx => h.par x (List.mem_append_left _ hx)⟩
    have hd := h.one (d := d) (by simp)
    have hp := h.par d (by simp)
    have h0 := amtS_pos (l := l) (fun x hx => by have := (hl.one hx).2; omega) l.length
    rw [List.take_length] at h0
    rw [amtS_snoc] at hs
    have ih := ih hl (by omega)
    have e : (bookL (l ++ [d])).A = enterA (chgL (payX (d.1.2.1, d.1.1) (d.1.2.2, d.1.1) d.2)) (bookL l).A := by rw [bookL_snoc]; rfl
    have hne : ((d.1.2.1, d.1.1) : K2) ≠ (d.1.2.2, d.1.1) := fun x => hd.1 (congrArg Prod.fst x)
    refine ⟨by rw [e, amtS_snoc]; exact ih.flat.enter h0.1 hne (by omega) hs, fun p hp c hc => ?_, fun p hp c hc => ?_, by rw [bookL_snoc]; simp [bookS, enterS, ih.len]⟩
    · rw [e]; exact fun x => ih.has p hp c hc (enter_none.1 x)
    · rw [e, ih.flat.balE h0.1 (by omega) hs (ih.has p hp c hc), ih.bal p hp c hc, psI_app, psI_cons, psI_nil, Int.add_zero]
      congr 1
      unfold psD
      simp only [Prod.mk.injEq]
      clear hp hc ih hl h0 hs e hne hd h
      by_cases ha : d.1.2.1 = p <;> by_cases hb : d.1.2.2 = p <;> by_cases hc' : d.1.1 = c <;> simp [ha, hb, hc'] <;> omega
theorem Booked.post {l : List Db} {s : Led} (h : Booked l s) (h0 : 0 ≤ amtS l) {d : Db} (hd : d.1.2.1 ≠ d.1.2.2 ∧ 1 ≤ d.2) (hp : d.1.2.1 ∈ P4 ∧ d.1.2.2 ∈ P4 ∧ d.1.1 ∈ C2) (hs : amtS l + d.2 ≤ 1099511627776) (hl : l.length < 4096) :
    postE s tDebt (payX (d.1.2.1, d.1.1) (d.1.2.2, d.1.1) d.2) = 0 :=
  h.flat.post h0 (h.has _ hp.1 _ hp.2.2) (h.has _ hp.2.1 _ hp.2.2) (fun x => hd.1 (congrArg Prod.fst x)) rfl (by omega) hs _ (by decide) (by rw [h.len]; exact hl)
end Go.Proofs.YtofdnkgieigncaaGreat
/- What the rows of this seat ask of the program, once; the arguments of Top's laws, read. -/
namespace Go.Proofs.YtofdnkgieigncaaGreat
open Go.SL Go.ChangeShapes Go.WideShapes Go.ChangeAt Go.RowKit

theorem u8c {x : D} (h : OkC (.int .u8) x) : ∃ n : Nat, x = .sc (.int .u8 (n : Int)) ∧ n < 256 := by
  obtain ⟨n, rfl, hw⟩ := h.int_inv
  simp [Lit.wf, IntKind.min, IntKind.max, IntKind.signed, IntKind.bits] at hw
  exact ⟨n.toNat, by rw [Int.toNat_of_nonneg (by omega)], by omega⟩
def u8S : List CS := [.int .u8]
theorem argK_u8 : argK Tryz.tab 5 = some (false, u8S) := by kernel_rfl
theorem u8_of {x : AV} (h : OkArg (false, u8S) x) : ∃ n : Nat, x = .d (.sc (.int .u8 (n : Int))) ∧ n < 256 := by
  obtain ⟨d, rfl, h⟩ := h
  obtain ⟨n, rfl, hn⟩ := u8c h
  exact ⟨n, rfl, hn⟩
def owS : List CS := [.int .u8, .int .u8, .int .u8, .int .u8]
def owsS : List CS := [.sl 4 4 owS]
theorem argK_ows : argK Tryz.tab 49 = some (false, owsS) := by kernel_rfl
theorem ow_of (e : List D) (h : OkCs owS e) : ∃ x : Ow, e = owE x ∧ owOk x := by
  unfold owS at h
  obtain ⟨_, _, rfl, h1, h⟩ := h.cons_inv
  obtain ⟨_, _, rfl, h2, h⟩ := h.cons_inv
  obtain ⟨_, _, rfl, h3, h⟩ := h.cons_inv
  obtain ⟨_, _, rfl, h4, h⟩ := h.cons_inv
  obtain rfl := h.nil_inv
  obtain ⟨n1, rfl, b1⟩ := u8c h1
  obtain ⟨n2, rfl, b2⟩ := u8c h2
  obtain ⟨n3, rfl, b3⟩ := u8c h3
  obtain ⟨n4, rfl, b4⟩ := u8c h4
  exact ⟨((n1, n2), (n3, n4)), rfl, ⟨b1, b2⟩, b3, b4⟩
theorem ows_of {x : AV} (h : OkArg (false, owsS) x) : ∃ l : List Ow, x = .d (.sl 4 (l.map owE)) ∧ l.length ≤ 140737488351232 ∧ ∀ o ∈ l, owOk o := by
  obtain ⟨d, rfl, h⟩ := h
  obtain ⟨l, rfl, h1, h2⟩ := h.list ow_of
  exact ⟨l, rfl, by omega, h2⟩
end Go.Proofs.YtofdnkgieigncaaGreat
