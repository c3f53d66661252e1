/- The layer 'SL': structs of scalars: compared, and as keys of maps. -/
import Derived.Test.YtglkilmflohfoaaDoorSc
import Derived.Laws.StructEq
import Derived.MapKept
import Derived.WideKeyRuns
import Derived.WideMake
namespace Go.SL
open Go.RowKit Go.MapKept
section
variable {P : Program} {O : Org} {T : Tab P} {Q : Exit → Env → Hp → Prop} {env : Env} {h : Hp} {o : Oper}
/-! ### structs of scalars, compared -/
def eqV : Nat → Value → Value → Option Bool
  | 1, .int k a, .int k' b => if k = k' then some (eqb a b) else none
  | 2, .string a, .string b => some (eqs a b)
  | 0, .bool a, .bool b => some (a == b)
  | _, _, _ => none
def eqVs : List Nat → List Value → List Value → Option Bool
  | [], [], [] => some true
  | c :: cs, x :: xs, y :: ys => match eqV c x y, eqVs cs xs ys with
    | some b, some c => some (b && c)
    | _, _ => none
  | _, _, _ => none
theorem eqVs_len : ∀ {cs : List Nat} {as bs : List Value} {r : Bool}, eqVs cs as bs = some r → as.length = cs.length ∧ bs.length = cs.length
  | [], [], [], _, _ => ⟨rfl, rfl⟩
  | c :: cs, a :: as, b :: bs, r, h => by
    unfold eqVs at h
    split at h
    · rename_i h2
      have := eqVs_len h2
      simp [this]
    · cases h
theorem eqVs_cut : ∀ {c1 c2 : List Nat} {as bs : List Value} {r : Bool}, eqVs (c1 ++ c2) as bs = some r → ∃ r1 r2, eqVs c1 (as.take c1.length) (bs.take c1.length) = some r1 ∧ eqVs c2 (as.drop c1.length) (bs.drop c1.length) = some r2 ∧ r = (r1 && r2)
  | [], c2, as, bs, r, h => ⟨true, r, rfl, by simpa using h, by simp⟩
  | c :: c1, c2, [], [], r, h => by cases h
  | c :: c1, c2, a :: as, b :: bs, r, h => by
    rw [List.cons_append] at h
    unfold eqVs at h
    split at h
    · rename_i x y h1 h2
      cases h
      obtain ⟨r1, r2, e2, e3, e4⟩ := eqVs_cut h2
      refine ⟨x && r1, r2, ?_, e3, by rw [e4, Bool.and_assoc]⟩
      simp only [List.length_cons, List.take_succ_cons]
      unfold eqVs
      rw [h1, e2]
    · cases h
  | c :: c1, c2, [], _ :: _, _, h => by cases h
  | c :: c1, c2, _ :: _, [], _, h => by cases h
def eqFs (sh : Nat → Option (List Nat)) : Nat → List (Nat × Nat) → Option (List Nat)
  | _, [] => some []
  | off, (q, ft) :: r => match Nat.beq q off, sh ft with
    | true, some n => match eqFs sh (off + n.length) r with
      | some m => some (n ++ m)
      | none => none
    | _, _ => none
variable (T) in
/-- the cells of a type of scalars that may be compared -/
def eqS : Nat → Nat → Option (List Nat)
  | 0, _ => none
  | n + 1, t => match T.desc t with
    | some .bool => some [0]
    | some (.int _) => some [1]
    | some .string => some [2]
    | some (.struct l) => bif !P.stoodInHeld t && (P.fieldsOf t).toList.all fun f => f.name != "_" then
        match eqFs (eqS n) 0 l, T.size t with
        | some k, some k' => bif Nat.beq k.length k' && Nat.blt 0 k' then some k else none
        | _, _ => none
      else none
    | _ => none
variable (T) in
def mkV (t : Nat) (as : List Value) : Value := match T.agg t with | some true => .agg as.toArray | _ => as.headD undef
theorem eqS_size : ∀ {n t : Nat} {k : List Nat}, eqS T n t = some k → (T.agg t = some true ∧ T.size t = some k.length ∧ 0 < k.length) ∨ (T.agg t = some false ∧ k.length = 1)
  | 0, _, _, h => by cases h
  | n + 1, t, k, h => by
    unfold eqS at h
    split at h
    · rename_i hd; cases h; exact .inr ⟨by unfold Tab.agg; rw [hd], rfl⟩
    · rename_i hd; cases h; exact .inr ⟨by unfold Tab.agg; rw [hd], rfl⟩
    · rename_i hd; cases h; exact .inr ⟨by unfold Tab.agg; rw [hd], rfl⟩
    · rename_i l hd
      left
      refine ⟨by unfold Tab.agg; rw [hd], ?_⟩
      cases hb : !P.stoodInHeld t && (P.fieldsOf t).toList.all fun f => f.name != "_" with
      | false => rw [hb] at h; cases h
      | true =>
        rw [hb] at h
        simp only [cond_true] at h
        split at h
        · rename_i k1 k2 h1 h2
          cases hk : Nat.beq k1.length k2 && Nat.blt 0 k2 with
          | false => rw [hk] at h; cases h
          | true =>
            rw [hk] at h
            cases h
            simp only [Bool.and_eq_true, Nat.blt_eq] at hk
            have := Nat.eq_of_beq_eq_true hk.1
            exact ⟨by rw [h2, this], by omega⟩
        · cases h
    · cases h
theorem part_run {n t : Nat} {k : List Nat} (hk : eqS T n t = some k) {xs : Array Value} {off : Nat} (hl : off + k.length ≤ xs.size) (w : World) : (part t xs off).run P w = .ok (mkV T t ((xs.toList.drop off).take k.length)) w := by
  rcases eqS_size hk with ⟨h1, h2, _⟩ | ⟨h1, h2⟩
  · have e : mkV T t ((xs.toList.drop off).take k.length) = .agg (xs.extract off (off + k.length)) := by
      unfold mkV; rw [h1]
      refine congrArg Value.agg ?_
      apply Array.toList_inj.1
      simp [Array.toList_extract, List.extract_eq_take_drop]
    rw [e]
    simp [part, run_isAgg T h1, run_size T h2]
  · have hlt : off < xs.size := by omega
    have e : mkV T t ((xs.toList.drop off).take k.length) = xs[off] := by
      unfold mkV; rw [h1, h2]
      rw [List.drop_eq_getElem_cons (by simpa using hlt)]
      rfl
    rw [e]
    simp [part, run_isAgg T h1, Array.getElem?_eq_getElem hlt]
theorem eqFs_run {n d : Nat} (ih : ∀ (t : Nat) (k : List Nat), eqS T n t = some k → ∀ (as bs : List Value) (r : Bool), eqVs k as bs = some r → ∀ w, (Op.equalIn d t (mkV T t as) (mkV T t bs)).run P w = .ok r w) {xs ys : Array Value} {w : World} :
    ∀ (fs : List Field) (off : Nat) (k : List Nat), (fs.all fun f => f.name != "_") = true → eqFs (eqS T n) off (fs.map fun f => (f.offset, f.type)) = some k → ∀ r, eqVs k (xs.toList.drop off) (ys.toList.drop off) = some r → (Op.eqFields d xs ys fs).run P w = .ok r w
  | [], off, k, _, h, r, hr => by
    cases h
    generalize xs.toList.drop off = a at hr
    generalize ys.toList.drop off = b at hr
    cases a <;> cases b <;> cases hr
    simp [Op.eqFields]
  | f :: fs, off, k, ha, h, r, hr => by
    rw [List.map_cons] at h
    simp only [List.all_cons, Bool.and_eq_true] at ha
    unfold eqFs at h
    split at h
    · rename_i k1 hb h1
      have ho := Nat.eq_of_beq_eq_true hb
      subst ho
      split at h
      · rename_i k2 h2
        cases h
        obtain ⟨r1, r2, e1, e2, e3⟩ := eqVs_cut hr
        obtain ⟨l1, l2⟩ := eqVs_len hr
        simp only [List.length_drop, List.length_append, Array.length_toList] at l1 l2
        obtain ⟨m1, m2⟩ := eqVs_len e1
        simp only [List.length_take, List.length_drop, Array.length_toList] at m1 m2
        have hk0 : 0 < k1.length := by
          rcases eqS_size h1 with ⟨_, _, q⟩ | ⟨_, q⟩ <;> omega
        have p1 := part_run h1 (xs := xs) (off := f.offset) (by omega) w
        have p2 := part_run h1 (xs := ys) (off := f.offset) (by omega) w
        have p3 := ih f.type k1 h1 _ _ r1 e1 w
        have hn : f.name ≠ "_" := by simpa using ha.1
        have p4 := eqFs_run ih (xs := xs) (ys := ys) (w := w) fs (f.offset + k1.length) k2 ha.2 h2 r2 (by rw [← List.drop_drop, ← List.drop_drop]; exact e2)
        rw [Op.eqFields, if_pos hn]
        simp only [Sem.run_bind, p1, p2, p3, Result.andThen_ok, Sem.run_ite]
        cases r1
        · simp [e3]
        · simp [e3, p4]
      · cases h
    · cases h
theorem equalIn_run : ∀ (n t : Nat) (k : List Nat), eqS T n t = some k → ∀ (d : Nat), n ≤ d → ∀ (as bs : List Value) (r : Bool), eqVs k as bs = some r → ∀ w, (Op.equalIn d t (mkV T t as) (mkV T t bs)).run P w = .ok r w := by
  intro n
  induction n with
  | zero => intro t k h; cases h
  | succ n ih =>
    intro t k h d hd as bs r hr w
    obtain ⟨d, rfl⟩ : ∃ d', d = d' + 1 := ⟨d - 1, by omega⟩
    obtain ⟨l1, l2⟩ := eqVs_len hr
    have one : ∀ c, k = [c] → ∃ a b, as = [a] ∧ bs = [b] ∧ eqV c a b = some r := by
      intro c hk
      subst hk
      obtain ⟨a, rfl⟩ := List.length_eq_one_iff.1 l1
      obtain ⟨b, rfl⟩ := List.length_eq_one_iff.1 l2
      unfold eqVs at hr
      split at hr
      · rename_i x y h1 h2
        cases h2
        cases hr
        exact ⟨a, b, rfl, rfl, by simpa using h1⟩
      · cases hr
    have hsz := eqS_size h
    unfold eqS at h
    split at h
    · rename_i hdd
      cases h
      obtain ⟨a, b, rfl, rfl, h1⟩ := one 0 rfl
      have hu : P.underlying t = some .bool := T.desc_ok hdd
      have hg : T.agg t = some false := by unfold Tab.agg; rw [hdd]
      unfold mkV; rw [hg]
      simp only [List.headD_cons]
      cases a <;> cases b <;> simp only [eqV, reduceCtorEq, Option.some.injEq] at h1
      subst h1
      exact run_equalIn_bool w d t _ _ hu
    · rename_i kk hdd
      cases h
      obtain ⟨a, b, rfl, rfl, h1⟩ := one 1 rfl
      have hu : P.underlying t = some (.int kk) := T.desc_ok hdd
      have hg : T.agg t = some false := by unfold Tab.agg; rw [hdd]
      unfold mkV; rw [hg]
      simp only [List.headD_cons]
      cases a <;> cases b <;> simp only [eqV, reduceCtorEq] at h1
      split at h1
      · rename_i e
        subst e
        cases h1
        rw [run_equalIn_int w d t _ kk _ _ hu, eqb_d]
        congr 1
      · cases h1
    · rename_i hdd
      cases h
      obtain ⟨a, b, rfl, rfl, h1⟩ := one 2 rfl
      have hu : P.underlying t = some .string := T.desc_ok hdd
      have hg : T.agg t = some false := by unfold Tab.agg; rw [hdd]
      unfold mkV; rw [hg]
      simp only [List.headD_cons]
      cases a <;> cases b <;> simp only [eqV, reduceCtorEq, Option.some.injEq] at h1
      subst h1
      rw [run_equalIn_string w d t _ _ hu, ba_toList_inj, eqs_d]
    · rename_i l hdd
      obtain ⟨fs, hu, hl⟩ := T.desc_ok hdd
      have hg : T.agg t = some true := by unfold Tab.agg; rw [hdd]
      cases hb : !P.stoodInHeld t && (P.fieldsOf t).toList.all fun f => f.name != "_" with
      | false => rw [hb] at h; cases h
      | true =>
        rw [hb] at h
        simp only [cond_true] at h
        simp only [Bool.and_eq_true, Bool.not_eq_true'] at hb
        have hf : P.fieldsOf t = fs := by unfold Program.fieldsOf; rw [hu]
        split at h
        · rename_i k1 k2 h1 h2
          cases hk : Nat.beq k1.length k2 && Nat.blt 0 k2 with
          | false => rw [hk] at h; cases h
          | true =>
            rw [hk] at h
            cases h
            have e : ∀ l : List Value, mkV T t l = .agg l.toArray := fun l => by unfold mkV; rw [hg]
            rw [e, e, run_equalIn_struct w d t _ _ (by rw [hf]; exact hu) hb.1]
            refine eqFs_run (n := n) (fun t k h as bs r hr w => ih t k h d (by omega) as bs r hr w) _ 0 k hb.2 (by rw [hf, hl]; exact h1) r (by simpa using hr)
        · cases h
    · cases h
/-- the scalars of a struct -/
def scL : AV → Option (List Value)
  | .agg cs => go cs
  | _ => none
where go : List AV → Option (List Value)
  | [] => some []
  | .d (.sc v) :: r => match go r with
    | some l => some (v :: l)
    | none => none
  | _ => none
theorem scL_rep {w : World} {X : Nat → Prop} {G : Ctx} {x : AV} {v : Value} {us : List Value} (hs : scL x = some us) (h : Rep w X G x v) : v = .agg us.toArray := by
  cases h with
  | agg cs vs hl hc h1 =>
    have key : ∀ (cs : List AV) (us vs : List Value), scL.go cs = some us → vs.length = cs.length → (∀ (i : Nat) (c : AV) (v : Value), cs[i]? = some c → vs[i]? = some v → Rep w X G c v) → vs = us := by
      intro cs
      induction cs with
      | nil => intro us vs h hl _; cases h; exact List.eq_nil_of_length_eq_zero hl
      | cons c cs ih =>
        intro us vs h hl hv
        cases vs with
        | nil => cases hl
        | cons v vs =>
          unfold scL.go at h
          split at h
          · rename_i e; cases e
          · rename_i u r e
            split at h
            · rename_i l hl'
              cases h
              cases e
              have h0 := hv 0 _ v rfl rfl
              rw [h0.sc_inv, ih l vs hl' (by simpa using hl) (fun i c v hc hv' => hv (i + 1) c v (by simpa using hc) (by simpa using hv'))]
            · cases h
          · cases h
    have := key cs us vs.toList hs (by simpa using hl) (fun i c v hc hv => hc |> fun hc => by exact (by assumption : ∀ (i : Nat) (c : AV) (v : Value), cs[i]? = some c → vs[i]? = some v → Rep w X G c v) i c v hc (by simpa using hv))
    rw [← this]
  | _ => cases hs

/-! ### keys of maps -/
/-- a scalar's kind -/
inductive K0 where
  | bool
  | int (k : IntKind)
  | string
/-- a key's kind -/
inductive KK where
  | bool
  | int (k : IntKind)
  | string
  | st (cs : List K0)
def K0.code : K0 → Nat
  | .bool => 0
  | .int _ => 1
  | .string => 2
def keyB0 : K0 → Value → Bool
  | .string, .string _ => true
  | .int a, .int b _ => a == b
  | .bool, .bool _ => true
  | _, _ => false
def keyBs : List K0 → List Value → Bool
  | [], [] => true
  | c :: cs, v :: vs => keyB0 c v && keyBs cs vs
  | _, _ => false
def keyB : KK → Value → Bool
  | .string, .string _ => true
  | .int a, .int b _ => a == b
  | .bool, .bool _ => true
  | .st cs, .agg vs => keyBs cs vs.toList
  | _, _ => false
def keq0 : Value → Value → Bool
  | .string a, .string b => eqs a b
  | .int _ a, .int _ b => eqb a b
  | .bool a, .bool b => a == b
  | _, _ => false
def keqs : List Value → List Value → Bool
  | [], [] => true
  | x :: xs, y :: ys => keq0 x y && keqs xs ys
  | _, _ => false
def keq : Value → Value → Bool
  | .string a, .string b => a == b
  | .int _ a, .int _ b => a == b
  | .bool a, .bool b => a == b
  | .agg a, .agg b => keqs a.toList b.toList
  | _, _ => false
theorem eqV_keq0 {c : K0} {x y : Value} (hx : keyB0 c x = true) (hy : keyB0 c y = true) : eqV c.code x y = some (keq0 x y) ∧ (keq0 x y = true → x = y) := by
  cases c <;> cases x <;> simp_all [keyB0] <;> cases y <;> simp_all [K0.code, eqV, keq0]
  · exact fun h => (eqb_t.1 h)
  · exact fun h => (eqs_t.1 h)
theorem eqVs_keqs : ∀ {cs : List K0} {xs ys : List Value}, keyBs cs xs = true → keyBs cs ys = true → eqVs (cs.map K0.code) xs ys = some (keqs xs ys) ∧ (keqs xs ys = true → xs = ys)
  | [], [], [], _, _ => ⟨rfl, fun _ => rfl⟩
  | [], _ :: _, _, h, _ => by cases h
  | [], [], _ :: _, _, h => by cases h
  | _ :: _, [], _, h, _ => by cases h
  | _ :: _, _ :: _, [], _, h => by cases h
  | c :: cs, x :: xs, y :: ys, hx, hy => by
    rw [keyBs, Bool.and_eq_true] at hx hy
    obtain ⟨h1, h2⟩ := eqV_keq0 hx.1 hy.1
    obtain ⟨h3, h4⟩ := eqVs_keqs hx.2 hy.2
    rw [List.map_cons, eqVs, h1, h3, keqs]
    refine ⟨rfl, fun h => ?_⟩
    rw [Bool.and_eq_true] at h
    rw [h2 h.1, h4 h.2]
/-- the kinds of a struct's fields, a cell each -/
def fieldsK (T : Tab P) : Nat → List (Nat × Nat) → Option (List K0)
  | _, [] => some []
  | off, (q, ft) :: r => match Nat.beq q off, T.desc ft, fieldsK T (off + 1) r with
    | true, some .bool, some l => some (.bool :: l)
    | true, some (.int k), some l => some (.int k :: l)
    | true, some .string, some l => some (.string :: l)
    | _, _, _ => none
def codesB : List Nat → List K0 → Bool
  | [], [] => true
  | c :: cs, k :: ks => Nat.beq c k.code && codesB cs ks
  | _, _ => false
theorem codesB_eq : ∀ {cs : List Nat} {ks : List K0}, codesB cs ks = true → cs = ks.map K0.code
  | [], [], _ => rfl
  | [], _ :: _, h => by cases h
  | _ :: _, [], h => by cases h
  | c :: cs, k :: ks, h => by
    rw [codesB, Bool.and_eq_true] at h
    rw [List.map_cons, codesB_eq h.2, Nat.eq_of_beq_eq_true h.1]
def Tab.keyD (T : Tab P) (t : Nat) : Option KK := match T.desc t with
  | some .string => some .string
  | some (.int k) => some (.int k)
  | some .bool => some .bool
  | some (.struct l) => match fieldsK T 0 l, eqS T 2 t with
    | some ks, some cs => bif codesB cs ks then some (.st ks) else none
    | _, _ => none
  | _ => none
def KK.td : KK → TypeDesc
  | .string => .string
  | .int k => .int k
  | .bool => .bool
  | .st _ => .bool
/-- what a key's kind says of its type -/
theorem keyD_ok {t : Nat} {d : KK} (h : T.keyD t = some d) : (P.underlying t = some d.td ∧ ∀ k, keyB d k = true → IsKey d.td k) ∨
    ∃ l ks fs, d = .st ks ∧ T.desc t = some (.struct l) ∧ P.underlying t = some (.struct fs) ∧ fs.toList.map (fun f => (f.offset, f.type)) = l ∧ fieldsK T 0 l = some ks ∧ eqS T 2 t = some (ks.map K0.code) := by
  unfold Tab.keyD at h
  split at h
  · rename_i hd; cases h; exact .inl ⟨T.desc_ok hd, fun k hk => by cases k <;> simp_all [keyB, IsKey, KK.td]⟩
  · rename_i hd; cases h; exact .inl ⟨T.desc_ok hd, fun k hk => by cases k <;> simp_all [keyB, IsKey, KK.td]⟩
  · rename_i hd; cases h; exact .inl ⟨T.desc_ok hd, fun k hk => by cases k <;> simp_all [keyB, IsKey, KK.td]⟩
  · rename_i l hd
    split at h
    · rename_i ks cs h1 h2
      cases hc : codesB cs ks with
      | false => rw [hc] at h; cases h
      | true =>
        rw [hc] at h
        cases h
        obtain ⟨fs, hu, hl⟩ := T.desc_ok hd
        exact .inr ⟨l, ks, fs, rfl, hd, hu, hl, h1, by rw [h2, codesB_eq hc]⟩
    · cases h
  · cases h
theorem keyB_agg {ks : List K0} {k : Value} (h : keyB (.st ks) k = true) : ∃ vs, k = .agg vs ∧ keyBs ks vs.toList = true := by
  cases k <;> first
    | (cases h; done)
    | exact ⟨_, rfl, h⟩
theorem scalar_chk {w : World} {c : K0} {t : Nat} {v : Value} (hd : P.underlying t = some (match c with | .bool => .bool | .int k => .int k | .string => .string)) (hv : keyB0 c v = true) (em : Bool) (n : Nat) : (Instr.checkKey em (n + 1) t v).run P w = .ok () w := by
  refine run_checkKey hd ?_ em n
  cases c <;> cases v <;> simp_all [keyB0, IsKey]
theorem fields_chk {em : Bool} {n : Nat} {xs : Array Value} {w : World} : ∀ (fs : List Field) (off : Nat) (ks : List K0), fieldsK T off (fs.map fun f => (f.offset, f.type)) = some ks → keyBs ks (xs.toList.drop off) = true →
    (forIn fs PUnit.unit fun f _ => (if f.name ≠ "_" then (do let v ← part f.type xs f.offset; Instr.checkKey em (n + 1) f.type v; pure (ForInStep.yield PUnit.unit)) else pure (ForInStep.yield PUnit.unit)) : Sem PUnit).run P w = .ok () w
  | [], _, _, _, _ => by simp
  | f :: fs, off, ks, h, hk => by
    rw [List.map_cons] at h
    unfold fieldsK at h
    have key : ∀ (c : K0) (l : List K0) (hq : Nat.beq f.offset off = true) (hd : T.desc f.type = some (match c with | .bool => .bool | .int k => .int k | .string => .string)) (hl : fieldsK T (off + 1) (fs.map fun f => (f.offset, f.type)) = some l) (hks : ks = c :: l),
        (forIn (f :: fs) PUnit.unit fun f _ => (if f.name ≠ "_" then (do let v ← part f.type xs f.offset; Instr.checkKey em (n + 1) f.type v; pure (ForInStep.yield PUnit.unit)) else pure (ForInStep.yield PUnit.unit)) : Sem PUnit).run P w = .ok () w := by
      intro c l hq hd hl hks
      subst hks
      have ho := Nat.eq_of_beq_eq_true hq
      have hlt : off < xs.size := by
        rcases Nat.lt_or_ge off xs.size with h | h
        · exact h
        · rw [List.drop_eq_nil_of_le (by simpa using h)] at hk; cases hk
      rw [List.drop_eq_getElem_cons (by simpa using hlt), keyBs, Bool.and_eq_true] at hk
      have hg : T.agg f.type = some false := by unfold Tab.agg; rw [hd]; cases c <;> rfl
      have p1 : (part f.type xs f.offset).run P w = .ok xs[off] w := by simp [part, run_isAgg T hg, ho, Array.getElem?_eq_getElem hlt]
      have p2 : (Instr.checkKey em (n + 1) f.type xs[off]).run P w = .ok () w := scalar_chk (c := c) (by have := T.desc_ok hd; cases c <;> exact this) (by simpa using hk.1) em n
      have ih := fields_chk (em := em) (n := n) (w := w) fs (off + 1) l hl hk.2
      simp only [List.forIn_cons, Sem.run_bind, Sem.run_ite, p1, p2, Result.andThen_ok, Sem.run_pure]
      split
      · exact ih
      · exact ih
    split at h
    · rename_i l hb hd hl; cases h; exact key .bool l hb hd hl rfl
    · rename_i k l hb hd hl; cases h; exact key (.int k) l hb hd hl rfl
    · rename_i l hb hd hl; cases h; exact key .string l hb hd hl rfl
    · cases h
/-- a key may be one -/
theorem chk_run {w : World} {t : Nat} {d : KK} {k : Value} (hK : T.keyD t = some d) (hk : keyB d k = true) (em : Bool) : (Instr.checkKey em 10000 t k).run P w = .ok () w := by
  rcases keyD_ok hK with ⟨h1, h2⟩ | ⟨l, ks, fs, rfl, hd, hu, hl, hf, _⟩
  · exact run_checkKey h1 (h2 k hk) em 9999
  · obtain ⟨vs, rfl, hv⟩ := keyB_agg hk
    rw [show (10000 : Nat) = 9998 + 1 + 1 from rfl, Instr.checkKey]
    simp only [Sem.run_bind, run_underlying hu, Result.andThen_ok]
    rw [← Array.forIn_toList]
    have := fields_chk (em := em) (n := 9998) (xs := vs) (w := w) fs.toList 0 ks (by rw [hl]; exact hf) (by simpa using hv)
    rw [this]
    rfl
theorem bits0 {c : K0} {v : Value} (h : keyB0 c v = true) (n : Nat) : Instr.sameBits n v v = true := by
  cases n <;> cases c <;> cases v <;> simp_all [keyB0, Instr.sameBits, bytes_beq]
theorem bitss {n : Nat} : ∀ {cs : List K0} {vs : List Value}, keyBs cs vs = true → (vs.zip vs).all (fun (x, y) => Instr.sameBits n x y) = true
  | [], [], _ => rfl
  | [], _ :: _, h => by cases h
  | _ :: _, [], h => by cases h
  | c :: cs, v :: vs, h => by
    rw [keyBs, Bool.and_eq_true] at h
    rw [List.zip_cons_cons, List.all_cons, bitss h.2, Bool.and_true]
    exact bits0 h.1 n
theorem stays_run {w : World} {d : KK} {k : Value} (hk : keyB d k = true) : (Instr.keyThatStays k k).run P w = .ok k w := by
  have hb : Instr.sameBits 10000 k k = true := by
    cases d with
    | st cs =>
      obtain ⟨vs, rfl, hv⟩ := keyB_agg hk
      rw [show (10000 : Nat) = 9999 + 1 from rfl, Instr.sameBits, beq_self_eq_true, Bool.true_and]
      exact bitss hv
    | bool => cases k <;> simp_all [keyB, Instr.sameBits]
    | int q => cases k <;> simp_all [keyB, Instr.sameBits]
    | string => cases k <;> simp_all [keyB, Instr.sameBits, bytes_beq]
  unfold Instr.keyThatStays
  rw [hb]
  simp
theorem sameNow_keq {d : KK} {k k' : Value} (hd : ∀ cs, d ≠ .st cs) (h : keyB d k = true) (h' : keyB d k' = true) : Instr.sameNow d.td k k' = some (keq k k') := by
  cases d <;> cases k <;> simp_all [keyB] <;> cases k' <;> simp_all [Instr.sameNow, keq, KK.td]
theorem keq_eq {d : KK} {k k' : Value} (h : keyB d k = true) (h' : keyB d k' = true) (e : keq k k' = true) : k = k' := by
  cases d with
  | st cs =>
    obtain ⟨vs, rfl, hv⟩ := keyB_agg h
    obtain ⟨us, rfl, hu⟩ := keyB_agg h'
    have : vs.toList = us.toList := (eqVs_keqs hv hu).2 e
    rw [Array.toList_inj.1 this]
  | _ => cases k <;> simp_all [keyB] <;> cases k' <;> simp_all [keq, bytes_beq]
/-- two keys, compared by the machine -/
theorem equal_run {w : World} {t : Nat} {ks : List K0} {k k' : Value} (hK : T.keyD t = some (.st ks)) (h : keyB (.st ks) k = true) (h' : keyB (.st ks) k' = true) : (Op.equal t k k').run P w = .ok (keq k k') w := by
  rcases keyD_ok hK with ⟨_, h2⟩ | ⟨l, ks', fs, e, hd, _, _, _, hS⟩
  · obtain ⟨vs, rfl, _⟩ := keyB_agg h
    exact (h2 _ h).elim
  · cases e
    obtain ⟨vs, rfl, hv⟩ := keyB_agg h
    obtain ⟨us, rfl, hu⟩ := keyB_agg h'
    have hg : T.agg t = some true := by unfold Tab.agg; rw [hd]
    have e : ∀ l : List Value, mkV T t l = .agg l.toArray := fun l => by unfold mkV; rw [hg]
    have := equalIn_run 2 t _ hS 10000 (by omega) vs.toList us.toList _ (eqVs_keqs hv hu).1 w
    rw [e, e] at this
    exact this
/-- where a key stands, and what it bears -/
def mat (k : Value) : List (Value × AV) → Nat → Option (Nat × AV)
  | [], _ => none
  | (k', c) :: r, i => bif keq k k' then some (i, c) else mat k r (i + 1)
def mfind (k : Value) (es : List (Value × AV)) : Option AV := (mat k es 0).map (·.2)
def mput (k : Value) (c : AV) (es : List (Value × AV)) : List (Value × AV) :=
  match mat k es 0 with
  | some (i, _) => es.set i (k, c)
  | none => es ++ [(k, c)]
/-- what is found of a key -/
def FoundAt (k : Value) (es : List (Value × AV)) (l : List MapEntry) (i : Nat) (r : Option (Nat × Value)) : Prop := match mat k es i with
  | some (j, c) => i ≤ j ∧ ∃ e k', l[j - i]? = some e ∧ es[j - i]? = some (k', c) ∧ r = some (j, e.val) ∧ k' = k
  | none => r = none
theorem FoundAt.later {k k' : Value} {c : AV} {es : List (Value × AV)} {e : MapEntry} {l : List MapEntry} {i : Nat} {r : Option (Nat × Value)} (hq : keq k k' = false) (h2 : FoundAt k es l (i + 1) r) : FoundAt k ((k', c) :: es) (e :: l) i r := by
  unfold FoundAt at *
  rw [mat, hq, cond_false]
  cases hm : mat k es (i + 1) with
  | none => rw [hm] at h2; exact h2
  | some q =>
    obtain ⟨j, c'⟩ := q
    rw [hm] at h2
    obtain ⟨g1, e', k'', g2, g3, g4, g5⟩ := h2
    refine ⟨by omega, e', k'', ?_, ?_, g4, g5⟩
    · rw [show j - i = (j - (i + 1)) + 1 by omega]; simpa using g2
    · rw [show j - i = (j - (i + 1)) + 1 by omega]; simpa using g3
theorem FoundAt.here {k k' : Value} {c : AV} {es : List (Value × AV)} {e : MapEntry} {l : List MapEntry} {i : Nat} (hq : keq k k' = true) (hk : k = k') : FoundAt k ((k', c) :: es) (e :: l) i (some (i, e.val)) := by
  unfold FoundAt
  rw [mat, hq, cond_true]
  exact ⟨Nat.le_refl i, e, k', by simp, by simp, rfl, hk.symm⟩
theorem findNow_mat {d : KK} {k : Value} (hd : ∀ cs, d ≠ .st cs) (hk : keyB d k = true) : ∀ (es : List (Value × AV)) (l : List MapEntry) (i : Nat), (∀ p ∈ es, keyB d p.1 = true) → l.length = es.length →
    (∀ (j : Nat) (p : Value × AV) (e : MapEntry), es[j]? = some p → l[j]? = some e → e.key = p.1) → ∃ r, Instr.findNow d.td k l i = some r ∧ FoundAt k es l i r
  | [], [], i, _, _, _ => ⟨none, rfl, rfl⟩
  | [], _ :: _, _, _, h, _ => by simp at h
  | _ :: _, [], _, _, h, _ => by simp at h
  | (k', c) :: es, e :: l, i, hb, hl, he => by
    have hk' : e.key = k' := he 0 (k', c) e rfl rfl
    have hb' : keyB d k' = true := hb (k', c) (by simp)
    unfold Instr.findNow
    rw [hk', sameNow_keq hd hk hb']
    cases hq : keq k k'
    · obtain ⟨r, h1, h2⟩ := findNow_mat hd hk es l (i + 1) (fun p hp => hb p (by simp [hp])) (by simpa using hl) (fun j p e hj hj' => he (j + 1) p e (by simpa using hj) (by simpa using hj'))
      exact ⟨r, h1, h2.later hq⟩
    · exact ⟨some (i, e.val), rfl, .here hq (keq_eq hk hb' hq)⟩
theorem asking_mat {t : Nat} {ks : List K0} {k : Value} (hK : T.keyD t = some (.st ks)) (hk : keyB (.st ks) k = true) : ∀ (es : List (Value × AV)) (l : List MapEntry) (i : Nat), (∀ p ∈ es, keyB (.st ks) p.1 = true) → l.length = es.length →
    (∀ (j : Nat) (p : Value × AV) (e : MapEntry), es[j]? = some p → l[j]? = some e → e.key = p.1) → ∃ r, (∀ w, (Instr.findAsking t k l i).run P w = .ok r w) ∧ FoundAt k es l i r
  | [], [], i, _, _, _ => ⟨none, fun _ => rfl, rfl⟩
  | [], _ :: _, _, _, h, _ => by simp at h
  | _ :: _, [], _, _, h, _ => by simp at h
  | (k', c) :: es, e :: l, i, hb, hl, he => by
    have hk' : e.key = k' := he 0 (k', c) e rfl rfl
    have hb' : keyB (.st ks) k' = true := hb (k', c) (by simp)
    unfold Instr.findAsking
    have heq : ∀ w, (Op.equal t k e.key).run P w = .ok (keq k k') w := fun w => by rw [hk']; exact equal_run hK hk hb'
    cases hq : keq k k'
    · obtain ⟨r, h1, h2⟩ := asking_mat hK hk es l (i + 1) (fun p hp => hb p (by simp [hp])) (by simpa using hl) (fun j p e hj hj' => he (j + 1) p e (by simpa using hj) (by simpa using hj'))
      exact ⟨r, fun w => by simp [heq w, hq, h1 w], h2.later hq⟩
    · exact ⟨some (i, e.val), fun w => by simp [heq w, hq], .here hq (keq_eq hk hb' hq)⟩
theorem find_mat {t : Nat} {d : KK} {k : Value} (hK : T.keyD t = some d) (hk : keyB d k = true) (es : List (Value × AV)) (l : List MapEntry) (hb : ∀ p ∈ es, keyB d p.1 = true) (hl : l.length = es.length)
    (he : ∀ (j : Nat) (p : Value × AV) (e : MapEntry), es[j]? = some p → l[j]? = some e → e.key = p.1) : ∃ r, (∀ w, (Instr.findKey t k l).run P w = .ok r w) ∧ FoundAt k es l 0 r := by
  rcases keyD_ok hK with ⟨h1, h2⟩ | ⟨_, ks, fs, rfl, _, hu, _⟩
  · have hd : ∀ cs, d ≠ .st cs := fun cs e => by
      subst e
      obtain ⟨vs, rfl, _⟩ := keyB_agg hk
      exact h2 _ hk
    obtain ⟨r, f1, f2⟩ := findNow_mat hd hk es l 0 hb hl he
    exact ⟨r, fun w => run_findKey h1 f1, f2⟩
  · obtain ⟨r, f1, f2⟩ := asking_mat hK hk es l 0 hb hl he
    exact ⟨r, fun w => by rw [run_findKey_eq w (by rw [hu])]; exact f1 w, f2⟩
/-- a key, as a slot holds it -/
def keyV : AV → Option Value
  | .d (.sc v) => some v
  | .agg cs => match scL.go cs with
    | some l => some (.agg l.toArray)
    | none => none
  | _ => none
theorem keyV_rep {w : World} {X : Nat → Prop} {G : Ctx} {x : AV} {v k : Value} (hs : keyV x = some k) (h : Rep w X G x v) : v = k := by
  unfold keyV at hs
  split at hs
  · cases hs; exact h.sc_inv
  · split at hs
    · rename_i l hl
      cases hs
      exact scL_rep (x := .agg _) hl h
    · cases hs
  · cases hs
end
end Go.SL
/- The layer 'SL': maps. -/
namespace Go.SL
open Go.RowKit Go.MapKept

section
variable {P : Program} {O : Org} {T : Tab P} {Q : Exit → Env → Hp → Prop} {env : Env} {h : Hp} {all rest : List Oper} {o : Oper} {rs : List Rc}

theorem LStep_makeMap0 {t kt et id : Nat} {rv : Option Operand} (ho : o.op = .makeMap t rv) (hd : o.dst = some id) (hn : dstOk (some id) O.nt = true) (hi : O.ids.contains id = false)
    (hr : ∀ env' (h' : Hp) a w G, (∀ x ∈ o.op.operands.toList, evalA env' x = evalA env x) → Rel O env' h' a w G → (Instr.makeMap t (rv.map a.eval)).run P w = .ok (.map (some w.heap.size)) (w.alloc (.map #[] 0))) :
    LStep P O o env h [] [id] (.mp id) [(id, some (.map kt et [] none))] := by
  intro env' h' he _ hf a w G r K Q hK
  have hf' := hf id (by simp)
  have hid : id ∉ O.ids := by simpa using hi
  have hrun : (execOp a.eval o).run P w = .ok (.value (.map (some w.heap.size))) (w.alloc (.map #[] 0)) := by
    simp [execOp, ho, hr env' h' a w G he r]
  have r' := r.new (ob := .map #[] 0) (id := id) (mv := .map (some w.heap.size)) (n := 0) (o := .map kt et [] none) hf' hid rfl (fun b hb => by cases hb; rfl)
    ⟨w.heap.size, #[], 0, G.set_m _ _ _, (heap_alloc w _).1, rfl, fun i k c e hi => by simp at hi, fun i j e e' hi => by simp at hi, fun e he => by simp at he, trivial⟩
  exact wp_value hrun (hK _ _ _ (r'.put (by rw [hd]; exact hn) (.mp id w.heap.size (G.set_m _ _ _))))
theorem LStep_makeMap {t kt et id : Nat} (ho : o.op = .makeMap t none) (hd : o.dst = some id) (hn : dstOk (some id) O.nt = true) (hi : O.ids.contains id = false) : LStep P O o env h [] [id] (.mp id) [(id, some (.map kt et [] none))] :=
  LStep_makeMap0 ho hd hn hi (fun _ _ _ _ _ _ _ => rfl)
/-- what a look-up finds -/
theorem map_at {a : Act} {w : World} {G : Ctx} {env' : Env} {h' : Hp} (r : Rel O env' h' a w G) {id kt et : Nat} {es : List (Value × AV)} {it : Option (Nat × List Value × Option Value)} (hh : hget h' id = some (.map kt et es it)) {t : Nat} {d : KK} {k : Value} (hK : T.keyD t = some d) (hk : keyB d k = true)
    (hb : ∀ p ∈ es, keyB d p.1 = true) : ∃ b ents clock, G.m id = .map (some b) ∧ w.heap[b]? = some (.map ents clock) ∧ ∃ q, (∀ w', (Instr.findKey t k ents.toList).run P w' = .ok q w') ∧ match mat k es 0 with
      | some (j, c) => ∃ e, ents[j]? = some e ∧ es[j]? = some (k, c) ∧ q = some (j, e.val) ∧ e.key = k ∧ Rep w (XX O h' G) G c e.val ∧ noid c = true
      | none => q = none := by
  obtain ⟨b, ents, clock, e1, e2, e3, e4, _⟩ := r.obj id _ hh
  obtain ⟨q, f1, f2⟩ := find_mat hK hk es ents.toList hb (by simpa using e3) (fun j p e hj hj' => (e4 j p.1 p.2 e hj (by rw [← Array.getElem?_toList]; exact hj')).1)
  refine ⟨b, ents, clock, e1, e2, q, f1, ?_⟩
  unfold FoundAt at f2
  cases hm : mat k es 0 with
  | none => rw [hm] at f2; exact f2
  | some p =>
    obtain ⟨j, c⟩ := p
    rw [hm] at f2
    obtain ⟨_, e, k', g1, g2, g3, rfl⟩ := f2
    rw [Nat.sub_zero] at g1 g2
    rw [Array.getElem?_toList] at g1
    have := e4 j k' c e g2 g1
    exact ⟨e, g1, g2, g3, this.1, this.2.1, this.2.2⟩

variable {t kt et id : Nat} {x i : Operand} {es : List (Value × AV)} {it : Option (Nat × List Value × Option Value)} {dk : KK} {k : Value} {c : AV}
/-- with ', ok' -/
theorem LStep_lookupOk (ho : o.op = .lookup t x i true) (hd : dstOk o.dst O.nt = true) (hT : T.desc t = some (.map kt et)) (hK : T.keyD kt = some dk) (hx : evalA env x = .mp id) (hi : keyV (evalA env i) = some k) (hk : keyB dk k = true)
    (hh : hget h id = some (.map kt et es it)) (hb : ∀ p ∈ es, keyB dk p.1 = true) (hf : mfind k es = some c) : LStep P O o env h [id] [] (.tup [c, .d (.sc (.bool true))]) [] := by
  intro env' h' he hTs _ a w G r K Q hKK
  have h1 := evalA_rep r.env x
  have h2 := evalA_rep r.env i
  rw [he x (by simp [ho, Op.operands]), hx] at h1
  rw [he i (by simp [ho, Op.operands])] at h2
  replace h2 := keyV_rep hi h2
  obtain ⟨b, ents, clock, e1, e2, q, f1, f2⟩ := map_at r ((hTs id (by simp)).trans hh) hK hk hb
  unfold mfind at hf
  cases hm : mat k es 0 with
  | none => rw [hm] at hf; cases hf
  | some p =>
    obtain ⟨j, c'⟩ := p
    rw [hm] at hf f2
    simp only [Option.map_some, Option.some.injEq] at hf
    subst hf
    obtain ⟨e, g1, g2, rfl, g4, g5, g6⟩ := f2
    generalize hv : a.eval x = v at h1
    cases h1 with
    | mp _ b' hb' =>
      obtain rfl : b = b' := by rw [e1] at hb'; cases hb'; rfl
      refine wp_value (v := .tuple #[e.val, .bool true]) (w' := w) ?_ (hKK _ w G (r.put hd (.tup _ _ rfl (fun n y u hy hu => ?_))))
      · simp [execOp, ho, hv, h2, Instr.lookup, run_underlying (T.desc_ok hT), Go.MapKept.run_getObj_map e2, chk_run hK hk, f1]
      · match n, hy, hu with
        | 0, hy, hu => simp at hy hu; subst hy; subst hu; exact g5
        | 1, hy, hu => simp at hy hu; subst hy; subst hu; exact .d _ _ (.sc _ rfl)
        | n + 2, hy, _ => simp at hy
end
end Go.SL
