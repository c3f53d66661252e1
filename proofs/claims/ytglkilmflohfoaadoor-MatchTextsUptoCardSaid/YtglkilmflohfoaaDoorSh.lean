/- The layer 'SL': what is read at a law's call, as data. -/
import Derived.Test.YtglkilmflohfoaaDoorSf
import Derived.Test.YtglkilmflohfoaaDoorRows
import Derived.ProofKit
import Derived.OpenShut
import Derived.Deep.Slices
import Derived.SizedLaws
import Derived.Below
import Derived.ChangeSame
import Derived.ReadAgain
namespace Go.SL
open Go.RowKit Go.WideShapes Go.ChangeShapes Go.Proofs.YtglkilmflohfoaaDoor

/-- a cell's shape -/
inductive CS where
  | int (k : IntKind)
  | bool
  | str
  | sl (sz bs : Nat) (cs : List CS)
inductive OkC : CS → D → Prop
  | int (k : IntKind) (n : Int) (h : (Lit.int k n).wf = true) : OkC (.int k) (.sc (.int k n))
  | bool (b : Bool) : OkC .bool (.sc (.bool b))
  | str (s : ByteArray) (h : s.size ≤ 1048576) : OkC .str (.sc (.string s))
  | sl (sz bs : Nat) (cs : List CS) (es : List (List D)) (hl : es.length * bs ≤ 140737488351232) (hz : ∀ e ∈ es, e.length = cs.length)
      (he : ∀ e ∈ es, ∀ (j : Nat) (c : CS) (x : D), cs[j]? = some c → e[j]? = some x → OkC c x) : OkC (.sl sz bs cs) (.sl sz es)
def OkCs : List CS → List D → Prop
  | [], [] => True
  | c :: cs, x :: xs => OkC c x ∧ OkCs cs xs
  | _, _ => False
def RepDs (w : World) : List D → List Value → Prop
  | [], [] => True
  | x :: xs, v :: vs => RepD w (fun _ => False) x v ∧ RepDs w xs vs
  | _, _ => False
theorem OkCs.of {cs : List CS} : ∀ {e : List D}, e.length = cs.length → (∀ (j : Nat) (c : CS) (x : D), cs[j]? = some c → e[j]? = some x → OkC c x) → OkCs cs e := by
  induction cs with
  | nil => intro e hl _; cases e with
    | nil => trivial
    | cons => simp at hl
  | cons c cs ih => intro e hl h; cases e with
    | nil => simp at hl
    | cons x e => exact ⟨h 0 c x rfl rfl, ih (by simpa using hl) (fun j c' x' hc hx => h (j + 1) c' x' (by simpa using hc) (by simpa using hx))⟩
theorem OkCs.at {cs : List CS} : ∀ {e : List D}, OkCs cs e → e.length = cs.length ∧ ∀ (j : Nat) (c : CS) (x : D), cs[j]? = some c → e[j]? = some x → OkC c x := by
  induction cs with
  | nil => intro e h; cases e with
    | nil => exact ⟨rfl, fun j c x hc => by simp at hc⟩
    | cons => exact h.elim
  | cons c cs ih => intro e h; cases e with
    | nil => exact h.elim
    | cons x e =>
      obtain ⟨h1, h2⟩ := ih h.2
      refine ⟨by simp [h1], fun j c' x' hc hx => ?_⟩
      cases j with
      | zero => simp at hc hx; subst hc; subst hx; exact h.1
      | succ j => exact h2 j c' x' (by simpa using hc) (by simpa using hx)
theorem OkC.list {sz bs : Nat} {cs : List CS} {x : D} {α : Type} {enc : α → List D} {p : α → Prop} (h : OkC (.sl sz bs cs) x) (hf : ∀ e, OkCs cs e → ∃ a, e = enc a ∧ p a) : ∃ l : List α, x = .sl sz (l.map enc) ∧ l.length * bs ≤ 140737488351232 ∧ ∀ a ∈ l, p a := by
  cases h with
  | sl _ _ _ es hl hz he =>
    have key : ∀ es : List (List D), (∀ e ∈ es, OkCs cs e) → ∃ l : List α, es = l.map enc ∧ ∀ a ∈ l, p a := by
      intro es
      induction es with
      | nil => exact fun _ => ⟨[], rfl, fun a h => by simp at h⟩
      | cons e es ih =>
        intro h
        obtain ⟨l, rfl, h2⟩ := ih (fun e he => h e (by simp [he]))
        obtain ⟨a, rfl, h1⟩ := hf e (h e (by simp))
        exact ⟨a :: l, rfl, fun b hb => by rcases List.mem_cons.1 hb with e | e; exact e ▸ h1; exact h2 b e⟩
    obtain ⟨l, rfl, h⟩ := key es (fun e hm => OkCs.of (hz e hm) (he e hm))
    exact ⟨l, rfl, by simpa using hl, h⟩
theorem OkC.int_inv {k : IntKind} {x : D} (h : OkC (.int k) x) : ∃ n, x = .sc (.int k n) ∧ (Lit.int k n).wf = true := by cases h with | int _ n h => exact ⟨n, rfl, h⟩
theorem OkC.i64_inv {x : D} (h : OkC (.int .i64) x) : ∃ n, x = .sc (.int .i64 n) ∧ -9223372036854775808 ≤ n ∧ n ≤ 9223372036854775807 := by
  obtain ⟨n, h1, h2⟩ := h.int_inv
  refine ⟨n, h1, ?_⟩
  simp [Lit.wf, IntKind.min, IntKind.max, IntKind.signed, IntKind.bits] at h2
  omega
theorem OkC.str_inv {x : D} (h : OkC .str x) : ∃ s, x = .sc (.string s) ∧ s.size ≤ 1048576 := by
  cases h with
  | str s h => exact ⟨s, rfl, h⟩
theorem OkCs.nil_inv {l : List D} (h : OkCs [] l) : l = [] := by cases l with | nil => rfl | cons => exact h.elim
theorem OkCs.cons_inv {c : CS} {cs : List CS} {l : List D} (h : OkCs (c :: cs) l) : ∃ x r, l = x :: r ∧ OkC c x ∧ OkCs cs r := by
  cases l with
  | nil => exact h.elim
  | cons x r => exact ⟨x, r, rfl, h.1, h.2⟩
theorem OkCs.append {cs cs' : List CS} : ∀ {xs xs' : List D}, OkCs cs xs → OkCs cs' xs' → OkCs (cs ++ cs') (xs ++ xs') := by
  induction cs with
  | nil => intro xs xs' h h'; rw [h.nil_inv]; exact h'
  | cons c cs ih =>
    intro xs xs' h h'
    obtain ⟨x, r, rfl, h1, h2⟩ := h.cons_inv
    exact ⟨h1, ih h2 h'⟩
theorem RepDs.append {w : World} : ∀ {xs xs' : List D} {vs vs' : List Value}, RepDs w xs vs → RepDs w xs' vs' → RepDs w (xs ++ xs') (vs ++ vs')
  | [], _, [], _, _, h' => h'
  | _ :: _, _, _ :: _, _, h, h' => ⟨h.1, RepDs.append h.2 h'⟩
theorem RepDs.at {w : World} : ∀ {xs : List D} {vs : List Value}, RepDs w xs vs → vs.length = xs.length ∧ ∀ (i : Nat) (x : D) (v : Value), xs[i]? = some x → vs[i]? = some v → RepD w (fun _ => False) x v
  | [], [], _ => ⟨rfl, fun i x v h => by simp at h⟩
  | x :: xs, v :: vs, h => by
    obtain ⟨h1, h2⟩ := RepDs.at h.2
    refine ⟨by simp [h1], fun i x' v' hx hv => ?_⟩
    cases i with
    | zero => simp at hx hv; subst hx; subst hv; exact h.1
    | succ i => exact h2 i x' v' (by simpa using hx) (by simpa using hv)

section
variable {P : Program} (T : Tab P)
def flds (sh : Nat → Option (List CS)) : Nat → List (Nat × Nat) → Option (List CS)
  | _, [] => some []
  | off, (o, ft) :: r => match Nat.beq o off, sh ft, T.size ft with
    | true, some cs, some n => match Nat.beq cs.length n, flds sh (off + n) r with
      | true, some cs' => some (cs ++ cs')
      | _, _ => none
    | _, _, _ => none
def shapeF : Nat → Nat → Option (List CS)
  | 0, _ => none
  | n + 1, t => match T.desc t with
    | some .bool => some [.bool]
    | some (.int k) => some [.int k]
    | some .string => some [.str]
    | some (.slice e) => match shapeF n e, T.full e with
      | some cs, some (sz, bs, _) => bif Nat.beq cs.length sz && Nat.blt 0 sz then some [.sl sz bs cs] else none
      | _, _ => none
    | some (.struct l) => match flds T (shapeF n) 0 l, T.size t with
      | some cs, some sz => bif Nat.beq cs.length sz then some cs else none
      | _, _ => none
    | some (.array k e) => match T.size e, T.size t with
      | some se, some sz => match flds T (shapeF n) 0 ((List.range k).map fun i => (i * se, e)) with
        | some cs => bif Nat.beq cs.length sz then some cs else none
        | none => none
      | _, _ => none
    | _ => none
theorem cellsOf_size {t n : Nat} (h : T.size t = some n) : P.cellsOf t = n := by
  obtain ⟨i, h1, h2⟩ := T.size_ok h
  simp [Program.cellsOf, h1, h2]

theorem full_size {t n b : Nat} {z : Value} (h : T.full t = some (n, b, z)) : T.size t = some n ∧ P.bytesOf t = b := by
  unfold Tab.full at h
  refine ⟨by unfold Tab.size; rw [h]; rfl, ?_⟩
  obtain ⟨i, h1, h2, h3, _⟩ := T.inf_ok _ (lkT_mem h)
  simp [Program.bytesOf, h1, h3]
theorem mem_wAll {H : Type} {e : Nat} : ∀ {l : List (DataW H)} {d : DataW H} {n : Nat}, d ∈ l → n ∈ d.weights P e → n ∈ DataW.weightsAll P e l
  | x :: l, d, n, hd, hn => by
    simp only [DataW.weightsAll, List.mem_append]
    rcases List.mem_cons.1 hd with h | h
    · subst h; exact .inl hn
    · exact .inr (mem_wAll h hn)

theorem bulk_part {H : Type} {d : DataW H} : ∀ {l : List (DataW H)}, d ∈ l → Rows.uptoBulk d ≤ Rows.uptoBulkAll l
  | x :: r, h => by
    simp only [Rows.uptoBulkAll]
    rcases List.mem_cons.1 h with e | e
    · subst e; omega
    · have := bulk_part e; omega

theorem flds_open {sh : Nat → Option (List CS)} {rd : Nat → List Value → Prop} {w : World} {cs : List Value}
    (hr : ∀ ft css (v : List Value), sh ft = some css → rd ft v → v.length = css.length ∧ ∃ ds, OkCs css ds ∧ RepDs w ds v) : ∀ (l : List (Nat × Nat)) (off : Nat) (css : List CS), flds T sh off l = some css →
    (∀ p ∈ l, rd p.2 ((cs.drop p.1).take (P.cellsOf p.2))) → off + css.length = cs.length → ∃ ds, OkCs css ds ∧ RepDs w ds (cs.drop off)
  | [], off, css, h, _, hl => by
    cases h
    exact ⟨[], trivial, by rw [List.drop_eq_nil_of_le (by simpa using Nat.le_of_eq hl.symm)]; trivial⟩
  | (o, ft) :: r, off, css, h, hp, hl => by
    unfold flds at h
    split at h
    · rename_i c1 n hb hs hz
      have ho := Nat.eq_of_beq_eq_true hb
      subst ho
      split at h
      · rename_i c2 hn h2
        have hn := Nat.eq_of_beq_eq_true hn
        cases h
        have hc := cellsOf_size T hz
        have h1 := hp (o, ft) (by simp)
        simp only [hc] at h1
        obtain ⟨e1, d1, e2, e3⟩ := hr ft c1 _ hs h1
        obtain ⟨d2, e4, e5⟩ := flds_open hr r (o + n) c2 h2 (fun p h => hp p (by simp [h])) (by simp at hl; omega)
        refine ⟨d1 ++ d2, e2.append e4, ?_⟩
        have : cs.drop o = (cs.drop o).take n ++ cs.drop (o + n) := by rw [← List.drop_drop]; exact (List.take_append_drop n _).symm
        rw [this]
        exact e3.append e5
      · cases h
    · cases h

variable {H : Type} {enc : TypeId × Value → H} {w : World} {sp : Nat → Bool} {held : Bool}
theorem trod_open : ∀ (m : Nat) (t : Nat) (cs : List Value) (x : DataW H × List MemPlace), DataW.trod enc P w 0 sp held m t cs = some x → (∀ n ∈ x.1.weights P t, n ≤ reachBytes) → Rows.uptoBulk x.1 ≤ 1048576 → ∀ (n : Nat) (css : List CS), shapeF T n t = some css →
    cs.length = css.length ∧ ∃ ds, OkCs css ds ∧ RepDs w ds cs := by
  intro m
  induction m with
  | zero => intro t cs x h; simp [DataW.trod] at h
  | succ m ih =>
    intro t cs x h hwt hbk n css hs
    cases n with
    | zero => cases hs
    | succ n =>
      unfold shapeF at hs
      split at hs
      · rename_i hd
        cases hs
        obtain ⟨b, rfl, _⟩ := DataW.trod_bool (T.desc_ok hd) h
        exact ⟨rfl, [.sc (.bool b)], ⟨.bool b, trivial⟩, ⟨.sc _ rfl, trivial⟩⟩
      · rename_i k hd
        cases hs
        obtain ⟨b, rfl, _, hw⟩ := DataW.trod_int (T.desc_ok hd) h
        exact ⟨rfl, [.sc (.int k b)], ⟨.int k b hw, trivial⟩, ⟨.sc _ rfl, trivial⟩⟩
      · rename_i hd
        cases hs
        obtain ⟨s, rfl, rfl, hw⟩ := DataW.trod_string (T.desc_ok hd) h
        have hw2 : s.size ≤ 1048576 := by
          have h3 : s.data.toList.length + 1 ≤ 1048576 := by simpa only [Rows.uptoBulk] using hbk
          rw [Array.length_toList] at h3
          show s.data.size ≤ 1048576
          omega
        exact ⟨rfl, [.sc (.string s)], ⟨.str s hw2, trivial⟩, ⟨.sc _ rfl, trivial⟩⟩
      · rename_i e hd
        split at hs
        · rename_i ec sz bs zv he hF
          obtain ⟨hz, hbs⟩ := full_size T hF
          have hu : P.underlying t = some (.slice e) := T.desc_ok hd
          cases hb : Nat.beq ec.length sz && Nat.blt 0 sz with
          | false => rw [hb] at hs; cases hs
          | true =>
            rw [hb] at hs
            cases hs
            simp only [Bool.and_eq_true] at hb
            have hlen := Nat.eq_of_beq_eq_true hb.1
            have h0 : 0 < sz := by have := hb.2; rw [Nat.blt_eq] at this; exact this
            rcases DataW.trod_slice (T.desc_ok hd) h with ⟨rfl, _⟩ | ⟨a, len, cap, elems, rest, n', hn', rfl, hx, hbase, hl, hm, hlen', hel, hsp, hns⟩
            · refine ⟨rfl, [.sl sz []], ⟨.sl sz bs ec [] (by simp) (fun e he => by simp at he) (fun e he => by simp at he), trivial⟩, ⟨.sl sz [] none 0 0 0 0 (fun _ _ => undef) rfl (Nat.le_refl _) (fun h => absurd h (by omega)) (fun i e h => by simp at h) (fun i e h => by simp at h) (fun i e h => by simp at h), trivial⟩⟩
            · have hc := cellsOf_size T hz
              have hnm : n' = m := by omega
              subst hnm
              have hat : ∀ i, i < len → ∃ vs : List Value, vs.length = sz ∧ (∀ j, j < sz → w.cell? ((a.add (i * sz)).add j) = vs[j]?) ∧ ∃ ds, OkCs ec ds ∧ RepDs w ds vs := by
                intro i hi
                have h1 := hel i hi
                rw [hc] at h1
                obtain ⟨y, hy⟩ : ∃ y, elems[i]? = some y := ⟨_, List.getElem?_eq_getElem (by omega)⟩
                rw [hy] at h1
                obtain ⟨vs, hv, ht⟩ := Option.bind_eq_some_iff.1 h1
                obtain ⟨_, e1, e2⟩ := World.cells?_some hv
                obtain ⟨e3, e4⟩ := ih e vs _ ht (fun q hq => hwt q (by
                  rw [hx]
                  simp only [DataW.weights, hu, List.mem_cons, List.mem_append]
                  exact .inr (.inl (mem_wAll (List.mem_map.2 ⟨y, List.mem_of_getElem? hy, rfl⟩) hq)))) (by
                  rw [hx] at hbk
                  simp only [Rows.uptoBulk] at hbk
                  have := bulk_part (List.mem_map.2 ⟨y, List.mem_of_getElem? hy, rfl⟩ : y.1 ∈ elems.map (·.1))
                  omega) n ec he
                exact ⟨vs, e1, e2, e4⟩
              have hspot : 0 < len → a.spot = none ∧ a.block < w.heap.size := by
                intro hl0
                obtain ⟨vs, e1, e2, _⟩ := hat 0 hl0
                have h1 := e2 0 h0
                rw [Nat.zero_mul] at h1
                have h2 : (a.add 0).add 0 = a := by simp [Addr.add]
                rw [h2, List.getElem?_eq_getElem (by omega)] at h1
                refine ⟨?_, World.block_lt_of_cell? w a h1⟩
                unfold World.cell? at h1
                split at h1
                · split at h1
                  · cases h1
                  · rename_i hns; simpa using hns
                · cases h1
              have hadd : ∀ i j, 0 < len → (a.add (i * sz)).add j = ⟨a.block, a.off + (i * sz + j), none⟩ := by
                intro i j hl0
                obtain ⟨hs1, _⟩ := hspot hl0
                cases a with
                | mk b o s =>
                  simp only at hs1
                  subst hs1
                  rw [Addr.add_lit, Addr.add_lit, Nat.add_assoc]
              have hpick : ∃ (es : List (List D)) (vs : Nat → Nat → Value), es.length = len ∧ ∀ (i : Nat) (e : List D), es[i]? = some e → OkCs ec e ∧ ∀ (j : Nat) (x : D), e[j]? = some x → w.cell? ((a.add (i * sz)).add j) = some (vs i j) ∧ RepD w (fun _ => False) x (vs i j) := by
                have : ∀ k, k ≤ len → ∃ (es : List (List D)) (vs : Nat → Nat → Value), es.length = k ∧ ∀ (i : Nat) (e : List D), es[i]? = some e → OkCs ec e ∧ ∀ (j : Nat) (x : D), e[j]? = some x → w.cell? ((a.add (i * sz)).add j) = some (vs i j) ∧ RepD w (fun _ => False) x (vs i j) := by
                  intro k
                  induction k with
                  | zero => exact fun _ => ⟨[], fun _ _ => undef, rfl, fun i e h => by simp at h⟩
                  | succ k ihk =>
                    intro hk
                    obtain ⟨es, vs, q1, q2⟩ := ihk (by omega)
                    obtain ⟨us, e1, e2, ds, e3, e4⟩ := hat k (by omega)
                    refine ⟨es ++ [ds], fun i j => if i = k then us.getD j undef else vs i j, by simp [q1], fun i e hi => ?_⟩
                    by_cases hik : i = k
                    · subst hik
                      rw [List.getElem?_append_right (by omega)] at hi
                      simp only [q1, Nat.sub_self, List.getElem?_cons_zero, Option.some.injEq] at hi
                      subst hi
                      refine ⟨e3, fun j x hx => ?_⟩
                      obtain ⟨e5, e6⟩ := e4.at
                      have hj : j < us.length := by rw [e5]; exact (List.getElem?_eq_some_iff.1 hx).1
                      have hu : us[j]? = some us[j] := List.getElem?_eq_getElem hj
                      simp only [if_true, List.getD_eq_getElem?_getD, hu, Option.getD_some]
                      exact ⟨by rw [e2 j (by omega), hu], e6 j x _ hx hu⟩
                    · simp only [if_neg hik]
                      have : i < es.length := by
                        have := (List.getElem?_eq_some_iff.1 hi).1
                        simp at this; omega
                      rw [List.getElem?_append_left this] at hi
                      exact q2 i e hi
                exact this len (Nat.le_refl _)
              obtain ⟨es, vs, q1, q2⟩ := hpick
              have hpos : ∀ (i : Nat) (e : List D), es[i]? = some e → 0 < len := fun i e hi => by have := (List.getElem?_eq_some_iff.1 hi).1; omega
              have hwl : es.length * bs ≤ 140737488351232 := by
                have := hwt ((elems.length + rest.length) * P.bytesOf e) (by rw [hx]; simp [DataW.weights, hu])
                rw [hbs] at this
                have h2 : es.length * bs ≤ (elems.length + rest.length) * bs := Nat.mul_le_mul_right _ (by omega)
                have h3 : reachBytes = 140737488351232 := by decide
                omega
              refine ⟨rfl, [.sl sz es], ⟨.sl sz bs ec es hwl (fun e he => ?_) (fun e he => ?_), trivial⟩, ⟨.sl sz es (some a) len cap a.block a.off vs q1 hl (fun hl0 => ?_) (fun i e hi => ?_) (fun i e hi j x hx => ?_) (fun i e hi j x hx => ((q2 i e hi).2 j x hx).2), trivial⟩⟩
              · obtain ⟨i, hi⟩ := List.getElem?_of_mem he
                exact (q2 i e hi).1.at.1
              · obtain ⟨i, hi⟩ := List.getElem?_of_mem he
                exact (q2 i e hi).1.at.2
              · obtain ⟨s1, s2⟩ := hspot hl0
                exact ⟨by cases a; simp at s1; subst s1; rfl, s2, fun h => h⟩
              · rw [(q2 i e hi).1.at.1]; exact hlen
              · rw [← hadd i j (hpos i e hi)]
                exact ((q2 i e hi).2 j x hx).1
        · cases hs
      · rename_i l hd
        obtain ⟨fs, hu, hfl⟩ := T.desc_ok hd
        split at hs
        · rename_i c1 sz hf hz
          cases hb : Nat.beq c1.length sz with
          | false => rw [hb] at hs; cases hs
          | true =>
            rw [hb] at hs
            cases hs
            have hlen := Nat.eq_of_beq_eq_true hb
            obtain ⟨xs, n', hn', hx, hcl, hxl, hat⟩ := DataW.trod_struct hu h
            have hnm : n' = m := by omega
            subst hnm
            have hc := cellsOf_size T hz
            refine ⟨by omega, ?_⟩
            have := flds_open T (w := w) (cs := cs) (sh := shapeF T n) (rd := fun ft v => ∃ x, DataW.trod enc P w 0 sp held n' ft v = some x ∧ (∀ n ∈ x.1.weights P ft, n ≤ reachBytes) ∧ Rows.uptoBulk x.1 ≤ 1048576) (fun ft css v h1 ⟨x, h2, h3, h4⟩ => ih ft v x h2 h3 h4 n css h1) l 0 css hf (fun p hp => ?_) (by omega)
            · simpa using this
            · rw [← hfl, List.mem_map] at hp
              obtain ⟨f, hf1, rfl⟩ := hp
              obtain ⟨i, hi⟩ := List.getElem?_of_mem hf1
              have hi' : fs[i]? = some f := by simpa using hi
              have := hat i f hi'
              have hlt : i < xs.length := by rw [hxl]; exact (Array.getElem?_eq_some_iff.1 hi').1
              rw [List.getElem?_eq_getElem hlt] at this
              refine ⟨_, this, fun q hq => hwt q ?_, ?_⟩
              · rw [hx]
                simp only [DataW.weights, hu]
                exact DataW.weights_mem_each (j := i) (by simp [hi']) (by simp [List.getElem?_eq_getElem hlt]) q hq
              · rw [hx] at hbk
                simp only [Rows.uptoBulk] at hbk
                have := bulk_part (List.mem_map.2 ⟨xs[i], List.getElem_mem hlt, rfl⟩ : xs[i].1 ∈ xs.map (·.1))
                omega
        · cases hs
      · rename_i k e hd
        split at hs
        · rename_i se sz he hz
          split at hs
          · rename_i c1 hf
            cases hb : Nat.beq c1.length sz with
            | false => rw [hb] at hs; cases hs
            | true =>
              rw [hb] at hs
              cases hs
              have hlen := Nat.eq_of_beq_eq_true hb
              have hu : P.underlying t = some (.array k e) := T.desc_ok hd
              obtain ⟨xs, n', hn', hx, hcl, hxl, hat⟩ := DataW.trod_array hu h
              have hnm : n' = m := by omega
              subst hnm
              have hc := cellsOf_size T hz
              have hce := cellsOf_size T he
              refine ⟨by omega, ?_⟩
              have := flds_open T (w := w) (cs := cs) (sh := shapeF T n) (rd := fun ft v => ∃ x, DataW.trod enc P w 0 sp held n' ft v = some x ∧ (∀ n ∈ x.1.weights P ft, n ≤ reachBytes) ∧ Rows.uptoBulk x.1 ≤ 1048576) (fun ft css v h1 ⟨x, h2, h3, h4⟩ => ih ft v x h2 h3 h4 n css h1) ((List.range k).map fun i => (i * se, e)) 0 css hf (fun p hp => ?_) (by omega)
              · simpa using this
              · rw [List.mem_map] at hp
                obtain ⟨i, hi, rfl⟩ := hp
                have hi' := List.mem_range.1 hi
                have h1 := hat i hi'
                rw [hce] at h1
                have hlt : i < xs.length := by omega
                rw [List.getElem?_eq_getElem hlt] at h1
                refine ⟨_, by rw [hce]; exact h1, fun q hq => hwt q ?_, ?_⟩
                · rw [hx]
                  simp only [DataW.weights, hu]
                  exact mem_wAll (List.mem_map.2 ⟨xs[i], List.getElem_mem hlt, rfl⟩) hq
                · rw [hx] at hbk
                  simp only [Rows.uptoBulk] at hbk
                  have := bulk_part (List.mem_map.2 ⟨xs[i], List.getElem_mem hlt, rfl⟩ : xs[i].1 ∈ xs.map (·.1))
                  omega
          · cases hs
        · cases hs
      · cases hs
end
end Go.SL
/- The layer 'SL': from a law's contract to its row. -/
namespace Go.SL
open Go.RowKit Go.WideShapes Go.ChangeShapes Go.Proofs.YtglkilmflohfoaaDoor

def OkArg : Bool × List CS → AV → Prop
  | (true, css), x => ∃ ds, x = .agg (ds.map .d) ∧ OkCs css ds
  | (false, [c]), x => ∃ d, x = .d d ∧ OkC c d
  | _, _ => False
def OkArgs : List (Option (Bool × List CS)) → List AV → Prop
  | [], [] => True
  | some k :: ks, x :: xs => OkArg k x ∧ OkArgs ks xs
  | _, _ => False
theorem OkArgs.nil_inv {l : List AV} (h : OkArgs [] l) : l = [] := by cases l with | nil => rfl | cons => exact h.elim
theorem OkArgs.cons_inv {k : Bool × List CS} {ks : List (Option (Bool × List CS))} {l : List AV} (h : OkArgs (some k :: ks) l) : ∃ x r, l = x :: r ∧ OkArg k x ∧ OkArgs ks r := by
  cases l with
  | nil => exact h.elim
  | cons x r => exact ⟨x, r, rfl, h.1, h.2⟩
section
variable {P : Program} (T : Tab P)
def argK (t : Nat) : Option (Bool × List CS) := match T.agg t, shapeF T 12 t with | some b, some css => some (b, css) | _, _ => none

theorem agg_okWide {t : Nat} {b : Bool} {w : World} {r : Reach} {b0 : Nat} {v : Value} (h : T.agg t = some b) (hv : Value.okWide P w r b0 t v) :
    (b = true ∧ ∃ cs, v = .agg cs) ∨ (b = false ∧ v.cells = #[v]) := by
  unfold Tab.agg at h
  cases hd : T.desc t with
  | none => rw [hd] at h; cases h
  | some d =>
    rw [hd] at h
    have hk := T.desc_ok hd
    unfold Value.okWide at hv
    cases d with
    | struct l =>
      obtain ⟨fs, h1, _⟩ := hk
      simp only [Option.some.injEq] at h
      rw [h1] at hv
      obtain ⟨cs, hc, _⟩ := hv
      exact .inl ⟨h.symm, cs, hc⟩
    | array n e =>
      simp only [Option.some.injEq] at h
      have h1 : P.underlying t = _ := hk
      rw [h1] at hv
      obtain ⟨cs, hc, _⟩ := hv
      exact .inl ⟨h.symm, cs, hc⟩
    | other =>
      obtain ⟨d, h1, h2⟩ := hk
      simp only [Option.some.injEq] at h
      refine .inr ⟨h.symm, ?_⟩
      rw [h1] at hv
      cases v with
      | agg cs => cases d <;> first | exact h2.elim | (simp [Cell.okWide, Cell.ok, h1] at hv)
      | _ => rfl
    | _ =>
      simp only [Option.some.injEq] at h
      have h1 : P.underlying t = _ := hk
      rw [h1] at hv
      refine .inr ⟨h.symm, ?_⟩
      cases v with
      | agg cs => simp [Cell.okWide, Cell.ok, h1] at hv
      | _ => rfl

theorem OkC.one {c : CS} {x : D} (_h : OkC c x) {w : World} {X : Nat → Prop} {v : Value} (hr : RepD w X x v) : v.oneCell' = true := hr.one

theorem args_open {H : Type} {enc : TypeId × Value → H} {w : World} {sp : Nat → Bool} {held : Bool} {r : Reach} {b0 : Nat} {G : Ctx} : ∀ (ts : List Nat) (vs : List Value) (ds : List (DataW H)) (ps : List MemPlace), DataW.TrodAll enc P w 0 sp held ts vs ds ps →
    (∀ (j : Nat) (t : Nat) (v : Value), ts[j]? = some t → vs[j]? = some v → Value.okWide P w r b0 t v) → (∀ t ∈ ts, ∃ k, argK T t = some k) → (∀ n ∈ DataW.weightsEach P ts ds, n ≤ reachBytes) → Rows.uptoBulkAll ds ≤ 1048576 →
    ∃ args, OkArgs (ts.map (argK T)) args ∧ vs.length = args.length ∧ ∀ (i : Nat) (x : AV) (v : Value), args[i]? = some x → vs[i]? = some v → Rep w (fun _ => False) G x v
  | [], [], [], _, _, _, _, _, _ => ⟨[], trivial, rfl, fun i x v h => by simp at h⟩
  | t :: ts, v :: vs, d :: ds, ps, ⟨p, q, ⟨fuel, h1⟩, h2, _⟩, hok, hk, hwt, hbk => by
    simp only [Rows.uptoBulkAll] at hbk
    obtain ⟨args, a1, a2, a3⟩ := args_open ts vs ds q h2 (fun j t v ht hv => hok (j + 1) t v (by simpa using ht) (by simpa using hv)) (fun t ht => hk t (by simp [ht])) (fun n hn => hwt n (by simp only [DataW.weightsEach, List.mem_append]; exact .inr hn)) (by omega)
    obtain ⟨k, hk0⟩ := hk t (by simp)
    have hv := hok 0 t v rfl rfl
    unfold argK at hk0
    cases hg : T.agg t with
    | none => rw [hg] at hk0; cases hk0
    | some b =>
      rw [hg] at hk0
      cases hs : shapeF T 12 t with
      | none => rw [hs] at hk0; cases hk0
      | some css =>
        have hkk : argK T t = some (b, css) := by unfold argK; rw [hg, hs]
        obtain ⟨e1, dd, e2, e3⟩ := trod_open T fuel t v.cells.toList _ h1 (fun n hn => hwt n (by simp only [DataW.weightsEach, List.mem_append]; exact .inl hn)) (by show Rows.uptoBulk d ≤ _; omega) 12 css hs
        obtain ⟨e4, e5⟩ := e3.at
        have hx : ∃ x, OkArg (b, css) x ∧ Rep w (fun _ => False) G x v := by
          rcases agg_okWide T hg hv with ⟨rfl, cs, rfl⟩ | ⟨rfl, hc⟩
          · refine ⟨.agg (dd.map .d), ⟨dd, rfl, e2⟩, .agg _ cs (by simp; simpa [Value.cells] using e4) (fun i c u hc hu => ?_) (fun i u hu => ?_)⟩
            · rw [List.getElem?_map] at hc
              obtain ⟨y, hy, rfl⟩ := Option.map_eq_some_iff.1 hc
              exact .d _ _ (e5 i y u hy (by simpa [Value.cells] using hu))
            · have hlt : i < dd.length := by have := (Array.getElem?_eq_some_iff.1 hu).1; simp [Value.cells] at e4; omega
              exact (e5 i _ u (List.getElem?_eq_getElem hlt) (by simpa [Value.cells] using hu)).one
          · rw [hc] at e1 e4 e5
            simp at e1 e4
            obtain ⟨c, rfl⟩ := List.length_eq_one_iff.1 e1.symm
            obtain ⟨y, rfl⟩ := List.length_eq_one_iff.1 e4.symm
            exact ⟨.d y, ⟨y, rfl, e2.1⟩, .d _ _ (e5 0 y v rfl (by simp))⟩
        obtain ⟨x, x1, x2⟩ := hx
        refine ⟨x :: args, ?_, by simp [a2], fun i y u hy hu => ?_⟩
        · show OkArgs (argK T t :: ts.map (argK T)) (x :: args)
          rw [hkk]
          exact ⟨x1, a1⟩
        · cases i with
          | zero => simp at hy hu; subst hy; subst hu; exact x2
          | succ i => exact a3 i y u (by simpa using hy) (by simpa using hu)
  | [], _ :: _, _, _, h, _, _, _, _ => by cases h
  | [], [], _ :: _, _, h, _, _, _, _ => by cases h
  | _ :: _, [], _, _, h, _, _, _, _ => by cases h
  | _ :: _, _ :: _, [], _, h, _, _, _, _ => by cases h

theorem trodAll_below {H : Type} {enc : TypeId × Value → H} {w w' : World} {sp : Nat → Bool} {held : Bool} (hb : Below w.heap.size w w') : ∀ (ts : List Nat) (vs : List Value) (ds : List (DataW H)) (ps : List MemPlace),
    DataW.TrodAll enc P w 0 sp held ts vs ds ps → (∀ p ∈ ps, p.block < w.heap.size) → DataW.TrodAll enc P w' 0 sp held ts vs ds ps
  | [], [], [], _, h, _ => h
  | t :: ts, v :: vs, d :: ds, ps, ⟨p, q, ⟨fuel, h1⟩, h2, e⟩, hp => by
    subst e
    exact ⟨p, q, ⟨fuel, DataW.trod_carry fuel t _ _ h1 (fun x hx => hb.same (hp x (by simp at hx ⊢; exact .inl hx)))⟩, trodAll_below hb ts vs ds q h2 (fun x hx => hp x (by simp [hx])), rfl⟩
  | [], _ :: _, _, _, h, _ => by cases h
  | [], [], _ :: _, _, h, _ => by cases h
  | _ :: _, [], _, _, h, _ => by cases h
  | _ :: _, _ :: _, [], _, h, _ => by cases h

abbrev AnyTrue {H : Type} (s : ChangeSpec) (n : Nat) : Prop := ∀ ds : List (DataW H), ds.length = n → s.fn H ds = { results := [.lit (.bool true)], args := ds }
theorem trodAll_len {H : Type} {enc : TypeId × Value → H} {w : World} {sp : Nat → Bool} {held : Bool} : ∀ (ts : List Nat) (vs : List Value) (ds : List (DataW H)) (ps : List MemPlace), DataW.TrodAll enc P w 0 sp held ts vs ds ps → ds.length = ts.length
  | [], [], [], _, _ => rfl
  | t :: ts, v :: vs, d :: ds, ps, ⟨p, q, _, h2, _⟩ => by simp [trodAll_len ts vs ds q h2]
  | [], _ :: _, _, _, h => by cases h
  | [], [], _ :: _, _, h => by cases h
  | _ :: _, [], _, _, h => by cases h
  | _ :: _, _ :: _, [], _, h => by cases h

theorem wEach_append {H : Type} : ∀ (ts us : List Nat) (ds : List (DataW H)), ds.length = ts.length → DataW.weightsEach P (ts ++ us) ds = DataW.weightsEach P ts ds
  | [], us, [], _ => by cases us <;> simp [DataW.weightsEach]
  | t :: ts, us, d :: ds, h => by simp only [List.cons_append, DataW.weightsEach]; rw [wEach_append ts us ds (by simpa using h)]
  | [], _, _ :: _, h => by simp at h
  | _ :: _, _, [], h => by simp at h
end
end Go.SL
