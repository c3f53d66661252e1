/- The layer 'SL': a part of a part of an own row; an own row taken as its own part. -/
import Derived.Test.YtofdnkgieigncaaGreatTa
namespace Go.SL
open Go.RowKit
section
variable {P : Program} {O : Org} {T : Tab P} {Q : Exit → Env → Hp → Prop} {env : Env} {h : Hp} {all rest : List Oper} {o : Oper} {rs : List Rc}
theorem LStep_partPart {t e sz id n ety lo m : Nat} {x : Operand} {lo' hi : Option Operand} {es : List (List D)} {l q : Int} (ho : o.op = .slice t x lo' hi none) (hT : T.desc t = some (.slice e)) (hS : T.size e = some sz)
    (hx : evalA env x = .part id n sz lo m) (hh : hget h id = some (.arr ety sz es)) (hl : loOf env lo' = some l) (hq : hiOf env m hi = some q) (hd : dstOk o.dst O.nt = true) (hn : es.length = n) (h0 : 0 ≤ l) (h1 : l ≤ q) (h2 : q ≤ (m : Nat)) :
    LStep P O o env h [id] [] (.part id n sz (lo + l.toNat) (q.toNat - l.toNat)) [] := by
  refine .quiet hd (fun env' h' he ht a w G r => ?_)
  have g1 := evalA_rep r.env x
  rw [he x (by cases lo' <;> cases hi <;> simp [ho, Op.operands]), hx] at g1
  have hob := r.obj id _ ((ht id (by simp)).trans hh)
  have glo : ∀ y, lo' = some y → ∃ kd, a.eval y = .int kd l := by
    intro y hy
    subst hy
    have g2 := evalA_rep r.env y
    rw [he y (by cases hi <;> simp [ho, Op.operands])] at g2
    unfold loOf at hl
    simp only at hl
    split at hl
    · rename_i kd k hk
      rw [hk] at g2
      cases hl
      exact ⟨kd, g2.sc_inv⟩
    · cases hl
  have ghi : ∀ y, hi = some y → ∃ kd, a.eval y = .int kd q := by
    intro y hy
    subst hy
    have g2 := evalA_rep r.env y
    rw [he y (by cases lo' <;> simp [ho, Op.operands])] at g2
    unfold hiOf at hq
    simp only at hq
    split at hq
    · rename_i kd k hk
      rw [hk] at g2
      cases hq
      exact ⟨kd, g2.sc_inv⟩
    · cases hq
  have hhi : hi = none → q = m := fun e => by subst e; unfold hiOf at hq; cases hq; rfl
  have hlo : lo' = none → l = 0 := fun e => by subst e; unfold loOf at hl; cases hl; rfl
  generalize hv : a.eval x = v at g1
  cases g1 with
  | part _ _ _ _ _ _ _ hle hm hvv =>
    obtain ⟨A, c, rfl, hc, hb⟩ := hvv (by rw [hob.1, hn])
    have hb' : (Instr.sliceBounds true m c (lo'.map a.eval) (hi.map a.eval) none).run P w = .ok (l.toNat, q.toNat, c) w := by
      cases hi with
      | none =>
        have e1 := hhi rfl
        cases lo' with
        | none =>
          have e2 := hlo rfl
          subst e2
          simp [Instr.sliceBounds, e1]
        | some y =>
          obtain ⟨kd, e2⟩ := glo y rfl
          simp [Instr.sliceBounds, bound_run e2 h0 (show l ≤ (m : Int) by omega), e1]
      | some z =>
        obtain ⟨kd', e1⟩ := ghi z rfl
        cases lo' with
        | none =>
          have e2 := hlo rfl
          subst e2
          simp [Instr.sliceBounds, bound_run e1 (show 0 ≤ q by omega) (show q ≤ (c : Int) by omega)]
        | some y =>
          obtain ⟨kd, e2⟩ := glo y rfl
          simp [Instr.sliceBounds, bound_run e1 (show 0 ≤ q by omega) (show q ≤ (c : Int) by omega), bound_run e2 h0 (show l ≤ (q.toNat : Int) by omega)]
    have hu : P.underlying t = some (.slice e) := T.desc_ok hT
    have hqc : q.toNat - l.toNat ≤ c - l.toNat := by clear hb hle; omega
    refine ⟨.slice (if c = l.toNat then A else A.map (·.add (l.toNat * sz))) (q.toNat - l.toNat) (c - l.toNat), ?_, .part _ _ _ _ _ _ rfl (by rw [hob.1, hn]; exact Nat.le_refl _) hm (fun _ => ⟨_, _, rfl, hqc, fun hk => ?_⟩)⟩
    · simp [execOp, ho, hv, Instr.sliceAt, Instr.slice, run_underlying hu, hb', run_size T hS]
    · have hmp : 0 < m := by clear hb hle; omega
      have hcl : ¬ c = l.toNat := by clear hb hle; omega
      obtain ⟨b, cc, e1, rfl⟩ := hb hmp
      refine ⟨b, cc, e1, ?_⟩
      rw [if_neg hcl, Option.map_some, Addr.add_lit, Nat.add_mul]
theorem LStep_partPartTo {t e sz id n ety lo m q : Nat} {x : Operand} {hi : Option Operand} {es : List (List D)} (ho : o.op = .slice t x none hi none) (hT : T.desc t = some (.slice e)) (hS : T.size e = some sz)
    (hx : evalA env x = .part id n sz lo m) (hh : hget h id = some (.arr ety sz es)) (hq : hiOf env m hi = some (q : Int)) (hd : dstOk o.dst O.nt = true) (hn : es.length = n) (h2 : q ≤ m) :
    LStep P O o env h [id] [] (.part id n sz lo q) [] :=
  LStep_partPart (l := 0) (q := (q : Int)) ho hT hS hx hh rfl hq hd hn (by omega) (by omega) (by omega)
theorem LStep_partPartFrom {t e sz id n ety lo m q : Nat} {x : Operand} {lo' : Option Operand} {es : List (List D)} (ho : o.op = .slice t x lo' none none) (hT : T.desc t = some (.slice e)) (hS : T.size e = some sz)
    (hx : evalA env x = .part id n sz lo m) (hh : hget h id = some (.arr ety sz es)) (hl : loOf env lo' = some (q : Int)) (hd : dstOk o.dst O.nt = true) (hn : es.length = n) (h2 : q ≤ m) :
    LStep P O o env h [id] [] (.part id n sz (lo + q) (m - q)) [] := by
  have := LStep_partPart (l := (q : Int)) (q := (m : Int)) ho hT hS hx hh hl rfl hd hn (by omega) (by omega) (by omega)
  rwa [Int.toNat_natCast, Int.toNat_natCast] at this
/-- an own row, taken as the part of it that is all of it -/
theorem Rel.asPart {a : Act} {w : World} {G : Ctx} (t : Nat) {id n sz ety : Nat} {es : List (List D)} (r : Rel O env h a w G) (hl : lk env t = .own id n) (hh : hget h id = some (.arr ety sz es)) (hn : es.length = n) : Rel O ((t, .part id n sz 0 n) :: env) h a w G := by
  refine ⟨r.size, r.dfr, fun t' => ?_, r.obj, r.dist, r.ext, r.own, r.xlt, r.ids⟩
  rw [lk_cons]
  by_cases e : t = t'
  · subst e
    rw [if_pos rfl]
    have g := r.env t
    rw [hl] at g
    have hob := r.obj id _ hh
    generalize a.tmps.getD t undef = v at g
    cases g with
    | own _ _ _ hone hle hm hvv =>
      refine .part _ _ _ _ _ _ hone hle hm (fun hlen => ?_)
      have e := hvv hlen
      subst e
      obtain ⟨A, m, c, hA⟩ := hm
      have hmn : m = n ∧ n ≤ c := by
        obtain ⟨_, _, _, xs, hown, _⟩ := hob
        rcases hown.2 with ⟨e1, e2⟩ | ⟨g, cap, cur, e1, _, _, e3, _⟩
        · rw [hA] at e1; cases e1; exact ⟨by omega, by omega⟩
        · rw [hA] at e1; cases e1; exact ⟨hn, by omega⟩
      obtain ⟨rfl, hc⟩ := hmn
      refine ⟨A, c, hA, hc, fun hk => ?_⟩
      obtain ⟨g, cap, cur, e1, _⟩ := row_block hob (by omega)
      rw [hA] at e1
      cases e1
      exact ⟨g, c, hA, by rw [Nat.zero_mul]⟩
  · rw [if_neg e]
    exact r.env t'
theorem AW_asPart {c : Code} (t : Nat) {id n sz ety : Nat} {es : List (List D)} (hl : lk env t = .own id n) (hh : hget h id = some (.arr ety sz es)) (hn : es.length = n) (K : AW P O c Q ((t, .part id n sz 0 n) :: env) h) : AW P O c Q env h :=
  fun a w G r => K a w G (r.asPart t hl hh hn)
end
end Go.SL
