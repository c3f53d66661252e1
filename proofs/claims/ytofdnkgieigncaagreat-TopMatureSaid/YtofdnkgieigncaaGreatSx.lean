/- The layer 'SL': a region whose order is left open, and one of whose operations may meet an object that another one has turned already ('m[k] += v' at a key that is new). -/
import Derived.Test.YtofdnkgieigncaaGreatSw
namespace Go.SL
open Go.RowKit

/-- A chain whose operations' steps are St's. -/
inductive ChainG (St : Nat → Oper → Env → Hp → List Nat → List Nat → AV → Hp → Prop) (P : Program) (O : Org) (all : List Oper) : Nat → List Oper → Env → Hp → List Rc → Env → Hp → Prop
  | nil (k : Nat) (env : Env) (h : Hp) : ChainG St P O all k [] env h [] env h
  | step (k : Nat) (o : Oper) (rest : List Oper) (env : Env) (h : Hp) (Ts Ns : List Nat) (av : AV) (u : Hp) (rs : List Rc) (env' : Env) (h' : Hp) (hw : wantedA all env o = some true) (hs : St k o env h Ts Ns av u)
      (hf : ∀ id ∈ Ns, freshAt id env h) (hr : ChainG St P O all (k + 1) rest (upd env o.dst av) (u ++ h) rs env' h') : ChainG St P O all k (o :: rest) env h (⟨o.dst, av, Ts, Ns, u⟩ :: rs) env' h'
  | skip (k : Nat) (o : Oper) (rest : List Oper) (env : Env) (h : Hp) (rs : List Rc) (env' : Env) (h' : Hp) (hw : wantedA all env o = some false) (hd : dstOk o.dst O.nt = true)
      (hr : ChainG St P O all (k + 1) rest (upd env o.dst (.tup [])) h rs env' h') : ChainG St P O all k (o :: rest) env h (⟨o.dst, .tup [], [], [], []⟩ :: rs) env' h'
/-- one operation of a chain, met in the text's order -/
def MetG (St : Nat → Oper → Env → Hp → List Nat → List Nat → AV → Hp → Prop) (i : Nat) (_P : Program) (O : Org) (all : List Oper) (o : Oper) (r : Rc) (env : Env) (h : Hp) : Prop :=
  r.dst = o.dst ∧ ((wantedA all env o = some true ∧ St i o env h r.Ts r.Ns r.av r.u) ∨ (wantedA all env o = some false ∧ dstOk o.dst O.nt = true ∧ r.av = .tup [] ∧ r.u = []))
theorem ChainG.met {St : Nat → Oper → Env → Hp → List Nat → List Nat → AV → Hp → Prop} {k : Nat} {P : Program} {O : Org} {all rest : List Oper} {env env' : Env} {h h' : Hp} {rs : List Rc} (c : ChainG St P O all k rest env h rs env' h') :
    rest.length = rs.length ∧ env' = foldE (fun _ => true) 0 rs env ∧ h' = foldH (fun _ => true) 0 rs h ∧
      ∀ i o r, rest[i]? = some o → rs[i]? = some r → MetG St (k + i) P O all o r (foldE (fun j => decide (j < i)) 0 rs env) (foldH (fun j => decide (j < i)) 0 rs h) := by
  induction c with
  | nil k env h => exact ⟨rfl, rfl, rfl, fun i o r hi => by simp at hi⟩
  | step k o rest env h Ts Ns av u rs env' h' hw hs hf _ ih =>
    obtain ⟨i1, i2, i3, i4⟩ := ih
    refine ⟨by simp [i1], ?_, ?_, fun i o' r' hi hr => ?_⟩
    · show env' = foldE _ 1 rs _
      rw [foldE_shift]; exact i2
    · show h' = foldH _ 1 rs _
      rw [foldH_shift]; exact i3
    · cases i with
      | zero =>
        simp only [List.getElem?_cons_zero, Option.some.injEq] at hi hr
        subst hi; subst hr
        rw [foldE_none (by intro j; simp), foldH_none (by intro j; simp)]
        exact ⟨rfl, .inl ⟨hw, hs⟩⟩
      | succ i =>
        have := i4 i o' r' (by simpa using hi) (by simpa using hr)
        show MetG St (k + (i + 1)) P O all o' r' (foldE _ (0 + 1) rs _) (foldH _ (0 + 1) rs _)
        rw [foldE_shift, foldH_shift, show k + (i + 1) = k + 1 + i by omega]
        simpa using this
  | skip k o rest env h rs env' h' hw hd _ ih =>
    obtain ⟨i1, i2, i3, i4⟩ := ih
    refine ⟨by simp [i1], ?_, ?_, fun i o' r' hi hr => ?_⟩
    · show env' = foldE _ 1 rs _
      rw [foldE_shift]; exact i2
    · show h' = foldH _ 1 rs _
      rw [foldH_shift]; exact i3
    · cases i with
      | zero =>
        simp only [List.getElem?_cons_zero, Option.some.injEq] at hi hr
        subst hi; subst hr
        rw [foldE_none (by intro j; simp), foldH_none (by intro j; simp)]
        exact ⟨rfl, .inr ⟨hw, hd, rfl, rfl⟩⟩
      | succ i =>
        have := i4 i o' r' (by simpa using hi) (by simpa using hr)
        show MetG St (k + (i + 1)) P O all o' r' (foldE _ (0 + 1) rs _) (foldH _ (0 + 1) rs _)
        rw [foldE_shift, foldH_shift, show k + (i + 1) = k + 1 + i by omega]
        simpa using this

section
variable {P : Program} {O : Org} {Q : Exit → Env → Hp → Prop} {env : Env} {h : Hp} {all : List Oper}

theorem any_goG {St : Nat → Oper → Env → Hp → List Nat → List Nat → AV → Hp → Prop} {rs : List Rc} {env' : Env} {h' : Hp} (c : ChainG St P O all 0 all env h rs env' h')
    (hSt : ∀ i o r, all[i]? = some o → rs[i]? = some r → St i o (foldE (fun j => decide (j < i)) 0 rs env) (foldH (fun j => decide (j < i)) 0 rs h) r.Ts r.Ns r.av r.u → ∀ L, Down all L → Needs o L → L i = false →
      (∀ id ∈ r.Ts, hget (foldH L 0 rs h) id = hget (foldH (fun j => decide (j < i)) 0 rs h) id) → ∃ hX Ts', LStep P O o (foldE (fun j => decide (j < i)) 0 rs env) hX Ts' r.Ns r.av r.u ∧ ∀ id ∈ Ts', hget (foldH L 0 rs h) id = hget hX id) (hc : chk all env h rs = true) (q : Q .normal env' h') :
    ∀ (fuel : Nat) (A : Array Bool) (a : Act) (w : World) (G : Ctx), A.size = all.length → Down all (LA A) → openN all.length A ≤ fuel →
      Rel O (foldE (LA A) 0 rs env) (foldH (LA A) 0 rs h) a w G → wpAny P .any all.toArray (lift O Q) fuel A a w := by
  obtain ⟨hlen, henv, hh, hmet⟩ := c.met
  unfold chk at hc
  simp only [Bool.and_eq_true] at hc
  obtain ⟨⟨hc1, hc2⟩, hc3⟩ := hc
  have hms := masks_ok (all := all) all [] (fun i => by simp) (fun j m h => by simp at h) (by simp)
  have hml := masks_length all []
  -- two operations, and what is told of them
  have pair : ∀ i j oi oj ri rj, i < j → all[i]? = some oi → all[j]? = some oj → rs[i]? = some ri → rs[j]? = some rj →
      (∀ L, Down all L → Needs oj L → confl all oi oj ri rj = true → L i = true) ∧ newOk rj.Ns ri = true ∧ (newOk ri.Ns rj = true ∨ ∀ L, Down all L → Needs oj L → L i = true) := by
    intro i j oi oj ri rj hij h1 h2 h3 h4
    have hmi : ∃ m, (masks all [])[i]? = some m := ⟨_, List.getElem?_eq_getElem (by have := (List.getElem?_eq_some_iff.1 h1).1; simp at hml; omega)⟩
    have hmj : ∃ m, (masks all [])[j]? = some m := ⟨_, List.getElem?_eq_getElem (by have := (List.getElem?_eq_some_iff.1 h2).1; simp at hml; omega)⟩
    obtain ⟨mi, hmi⟩ := hmi
    obtain ⟨mj, hmj⟩ := hmj
    have := chkPairs_ok _ 0 hc2 i j (oi, ri, mi) (oj, rj, mj) hij (by simp [List.getElem?_zip_eq_some, h1, h3, hmi]) (by simp [List.getElem?_zip_eq_some, h2, h4, hmj])
    unfold pairOk at this
    simp only [Bool.and_eq_true, Nat.zero_add, Bool.or_eq_true, Bool.not_eq_true'] at this
    refine ⟨fun L hL hN hcf => ?_, this.1.2, this.2.imp id (fun h L hL hN => hms j mj hmj oj h2 i h L hL hN)⟩
    rcases this.1.1 with h | h
    · rw [hcf] at h; cases h
    · exact hms j mj hmj oj h2 i h L hL hN
  have done : ∀ A : Array Bool, A.size = all.length → Region.ready .any all.toArray A = [] → ∀ j, j < all.length → LA A j = true := by
    intro A hA hr j
    induction j using Nat.strongRecOn with
    | _ j ih =>
      intro hj
      cases hl : LA A j
      · exfalso
        have : j ∈ Region.ready .any all.toArray A := by
          rw [mem_ready]
          refine ⟨?_, all[j], by simp [hj], fun e he hb => ?_⟩
          · unfold LA at hl
            simp only [Array.getD_eq_getD_getElem?] at hl ⊢
            rw [Array.getElem?_eq_getElem (by omega)] at hl ⊢
            exact hl
          · have hlt := chkEdges_ok _ 0 hc1 j all[j] (List.getElem?_eq_getElem hj) e (Array.mem_toList_iff.2 he) hb
            exact ih e.on (by omega) (by omega)
        rw [hr] at this
        cases this
      · rfl
  have fin : ∀ (A : Array Bool) (a : Act) (w : World) (G : Ctx), A.size = all.length → Region.ready .any all.toArray A = [] → Rel O (foldE (LA A) 0 rs env) (foldH (LA A) 0 rs h) a w G → lift O Q .normal a w := by
    intro A a w G hA hr r
    have hd := done A hA hr
    have hall : ∀ j r, rs[j]? = some r → LA A j = true := fun j r hj => hd j (by have := (List.getElem?_eq_some_iff.1 hj).1; omega)
    refine ⟨env', h', G, r.weak (fun t => .inl ?_) (fun id o ho => ?_), q⟩
    · rw [henv]
      exact lk_foldE rs 0 env env (fun j r hj _ => by simp [hall j r hj]) rfl
    · rw [hh] at ho
      rw [← ho]
      exact hget_foldH rs 0 h h (fun j r hj _ => by simp [hall j r hj]) rfl
  intro fuel
  induction fuel with
  | zero =>
    intro A a w G hA hD hf r
    have hall : ∀ j, j < all.length → LA A j = true := by
      intro j hj
      have h0 : openN all.length A = 0 := by omega
      unfold openN at h0
      rw [List.countP_eq_zero] at h0
      have := h0 j (by simp [hj])
      simpa using this
    have hr : Region.ready .any all.toArray A = [] := by
      refine List.eq_nil_iff_forall_not_mem.2 (fun j hj => ?_)
      rw [mem_ready] at hj
      obtain ⟨h1, o, h2, _⟩ := hj
      have hlt : j < all.length := by
        have := (Array.getElem?_eq_some_iff.1 h2).1
        simpa using this
      have h3 := hall j hlt
      unfold LA at h3
      simp only [Array.getD_eq_getD_getElem?] at h1 h3
      rw [Array.getElem?_eq_getElem (by omega)] at h1 h3
      simp at h1 h3
      rw [h1] at h3; cases h3
    exact ⟨hr, fin A a w G hA hr r⟩
  | succ fuel ih =>
    intro A a w G hA hD hf r
    refine ⟨fun hr => fin A a w G hA hr r, fun i hi => ?_⟩
    rw [mem_ready] at hi
    obtain ⟨hi0, o, ho, hne⟩ := hi
    have ho' : all[i]? = some o := by simpa using ho
    have hilt : i < all.length := (List.getElem?_eq_some_iff.1 ho').1
    have hLi : LA A i = false := by
      unfold LA
      simp only [Array.getD_eq_getD_getElem?] at hi0 ⊢
      rw [Array.getElem?_eq_getElem (by omega)] at hi0 ⊢
      exact hi0
    have hN : Needs o (LA A) := fun e he hb => hne e (Array.mem_toList_iff.1 he) hb
    obtain ⟨rc, hrc⟩ : ∃ rc, rs[i]? = some rc := ⟨_, List.getElem?_eq_getElem (by omega)⟩
    obtain ⟨hdst, hm⟩ := hmet i o rc ho' hrc
    -- those before and behind
    have apart : ∀ j rj oj, rs[j]? = some rj → all[j]? = some oj → LA A j ≠ decide (j < i) → j ≠ i → (j < i → confl all oj o rj rc = false) ∧ (i < j → confl all o oj rc rj = false) := by
      intro j rj oj h1 h2 h3 h4
      constructor
      · intro hlt
        cases hcf : confl all oj o rj rc
        · rfl
        · have := (pair j i oj o rj rc hlt h2 ho' h1 hrc).1 _ hD hN hcf
          exact absurd (by rw [this]; simp [hlt]) h3
      · intro hlt
        cases hcf : confl all o oj rc rj
        · rfl
        · have hLj : LA A j = true := by
            cases hl : LA A j
            · exact absurd (by rw [hl]; simp; omega) h3
            · rfl
          have := (pair i j o oj rc rj hlt ho' h2 hrc h1).1 _ hD (hD j oj h2 hLj) hcf
          rw [hLi] at this; cases this
    have oper : ∀ j rj, rs[j]? = some rj → ∃ oj, all[j]? = some oj := fun j rj hj => ⟨_, List.getElem?_eq_getElem (by have := (List.getElem?_eq_some_iff.1 hj).1; omega)⟩
    have agreeE : ∀ t ∈ looksL all o, lk (foldE (LA A) 0 rs env) t = lk (foldE (fun j => decide (j < i)) 0 rs env) t := by
      intro t ht
      refine lk_foldE rs 0 env env (fun j rj hj hd => ?_) rfl
      rw [Nat.zero_add]
      by_cases hji : j = i
      · subst hji; rw [hLi]; simp
      · obtain ⟨oj, hoj⟩ := oper j rj hj
        cases hne : (LA A j == decide (j < i))
        · exfalso
          have hne' : LA A j ≠ decide (j < i) := by simpa using hne
          obtain ⟨a1, a2⟩ := apart j rj oj hj hoj hne' hji
          rcases Nat.lt_or_gt_of_ne hji with hlt | hlt
          · have := a1 hlt
            unfold confl at this
            simp only [Bool.or_eq_false_iff] at this
            have := this.1.1.1.1
            rw [hd] at this
            exact absurd (hasN_mem.2 ht) (by simpa [hasD] using this)
          · have := a2 hlt
            unfold confl at this
            simp only [Bool.or_eq_false_iff] at this
            have := this.1.1.1.2
            rw [hd] at this
            exact absurd (hasN_mem.2 ht) (by simpa [hasD] using this)
        · simpa using hne
    have agreeH : ∀ id ∈ rc.Ts, hget (foldH (LA A) 0 rs h) id = hget (foldH (fun j => decide (j < i)) 0 rs h) id := by
      intro t ht
      refine hget_foldH rs 0 h h (fun j rj hj hd => ?_) rfl
      rw [Nat.zero_add]
      by_cases hji : j = i
      · subst hji; rw [hLi]; simp
      · obtain ⟨oj, hoj⟩ := oper j rj hj
        cases hne : (LA A j == decide (j < i))
        · exfalso
          have hne' : LA A j ≠ decide (j < i) := by simpa using hne
          obtain ⟨a1, a2⟩ := apart j rj oj hj hoj hne' hji
          rcases Nat.lt_or_gt_of_ne hji with hlt | hlt
          · have := a1 hlt
            unfold confl at this
            simp only [Bool.or_eq_false_iff] at this
            have := this.1.2
            rw [List.any_eq_false] at this
            have := this t hd
            simp only [Bool.or_eq_true, not_or] at this
            exact this.2 (hasN_mem.2 ht)
          · have := a2 hlt
            unfold confl at this
            simp only [Bool.or_eq_false_iff] at this
            have := this.2
            rw [List.any_eq_false] at this
            exact this t hd (hasN_mem.2 ht)
        · simpa using hne
    obtain ⟨hop, hwt⟩ := operand_agree agreeE
    -- the state behind
    have hA' : (A.setIfInBounds i true).size = all.length := by simp [hA]
    have hL' : ∀ j, LA (A.setIfInBounds i true) j = if j = i then true else LA A j := by
      intro j
      unfold LA
      simp only [Array.getD_eq_getD_getElem?]
      by_cases e : j = i
      · subst e
        rw [if_pos rfl, Array.getElem?_setIfInBounds_self_of_lt (by omega)]
        rfl
      · rw [if_neg e, Array.getElem?_setIfInBounds_ne (fun x => e x.symm)]
    have hD' : Down all (LA (A.setIfInBounds i true)) := by
      intro j oj hoj hl e he hb
      rw [hL'] at hl ⊢
      by_cases hei : e.on = i
      · rw [if_pos hei]
      · rw [if_neg hei]
        by_cases e' : j = i
        · subst e'
          rw [ho'] at hoj
          cases hoj
          exact hN e he hb
        · rw [if_neg e'] at hl
          exact hD j oj hoj hl e he hb
    have hf' : openN all.length (A.setIfInBounds i true) ≤ fuel := by
      have : openN all.length (A.setIfInBounds i true) < openN all.length A := by
        refine countP_lt_of _ i (by simp [hilt]) (by simp [hLi]) (by simp [hL']) (fun x hx => ?_)
        simp only [hL'] at hx
        by_cases e : x = i
        · simp [e] at hx
        · simpa [e] using hx
      omega
    -- those behind it that are listed have nothing to do with it
    have noConf : ∀ j rj oj, rs[j]? = some rj → all[j]? = some oj → i < j → LA A j = true → confl all o oj rc rj = false := by
      intro j rj oj h1 h2 hlt hl
      exact (apart j rj oj h1 h2 (by rw [hl]; simp; omega) (by omega)).2 hlt
    have hstepE : ∀ t, lk (foldE (LA (A.setIfInBounds i true)) 0 rs env) t = lk (upd (foldE (LA A) 0 rs env) rc.dst rc.av) t := by
      have hrs : rs = rs.take i ++ rc :: rs.drop (i + 1) := by
        have hlt := (List.getElem?_eq_some_iff.1 hrc)
        obtain ⟨h1, h2⟩ := hlt
        rw [← h2, ← List.drop_eq_getElem_cons h1, List.take_append_drop]
      intro t
      rw [lk_upd]
      have foldE_app : ∀ (L : Nat → Bool) (x y : List Rc) (k : Nat) (e : Env), foldE L k (x ++ y) e = foldE L (k + x.length) y (foldE L k x e) := by
        intro L x
        induction x with
        | nil => intro y k e; rfl
        | cons r x ih' => intro y k e; show foldE L (k + 1) (x ++ y) _ = _; rw [ih']; simp [foldE]; congr 1; omega
      by_cases hd : rc.dst = some t
      · rw [if_pos hd]
        rw [hrs, foldE_app]
        unfold foldE
        have hlen' : (rs.take i).length = i := by simp; omega
        rw [hlen', Nat.zero_add, hL' i, if_pos rfl]
        rw [cond_true]
        have : ∀ (y : List Rc) (k : Nat) (e : Env), (∀ j r, y[j]? = some r → LA (A.setIfInBounds i true) (k + j) = true → r.dst ≠ some t) → lk (foldE (LA (A.setIfInBounds i true)) k y e) t = lk e t := by
          intro y
          induction y with
          | nil => intro k e _; rfl
          | cons r y ih' =>
            intro k e hy
            unfold foldE
            rw [ih' (k + 1) _ (fun j r' hj hl => hy (j + 1) r' (by simpa using hj) (by rw [show k + (j + 1) = k + 1 + j by omega]; exact hl))]
            cases hk : LA (A.setIfInBounds i true) k
            · rfl
            · show lk (upd e r.dst r.av) t = lk e t
              rw [lk_upd, if_neg (hy 0 r rfl (by simpa using hk))]
        rw [this _ _ _ (fun j r' hj hl hd' => ?_), lk_upd, if_pos hd]
        have hj' : rs[i + 1 + j]? = some r' := by rw [List.getElem?_drop] at hj; exact hj
        obtain ⟨oj, hoj⟩ := oper _ _ hj'
        rw [hL', if_neg (by omega)] at hl
        have := noConf (i + 1 + j) r' oj hj' hoj (by omega) hl
        unfold confl at this
        simp only [Bool.or_eq_false_iff] at this
        have := this.1.1.2
        rw [hd, hd'] at this
        simp [hasD, hasN] at this
      · rw [if_neg hd]
        refine lk_foldE rs 0 env env (fun j rj hj hdj => ?_) rfl
        rw [Nat.zero_add, hL']
        by_cases e : j = i
        · subst e
          rw [hrc] at hj
          cases hj
          exact absurd hdj hd
        · rw [if_neg e]
    have hstepH : ∀ id, hget (foldH (LA (A.setIfInBounds i true)) 0 rs h) id = hget (rc.u ++ foldH (LA A) 0 rs h) id := by
      have hrs : rs = rs.take i ++ rc :: rs.drop (i + 1) := by
        have hlt := (List.getElem?_eq_some_iff.1 hrc)
        obtain ⟨h1, h2⟩ := hlt
        rw [← h2, ← List.drop_eq_getElem_cons h1, List.take_append_drop]
      intro t
      rw [hget_append]
      have foldH_app : ∀ (L : Nat → Bool) (x y : List Rc) (k : Nat) (e : Hp), foldH L k (x ++ y) e = foldH L (k + x.length) y (foldH L k x e) := by
        intro L x
        induction x with
        | nil => intro y k e; rfl
        | cons r x ih' => intro y k e; show foldH L (k + 1) (x ++ y) _ = _; rw [ih']; simp [foldH]; congr 1; omega
      by_cases hd : t ∈ keysH rc.u
      · rw [if_pos hd]
        rw [hrs, foldH_app]
        unfold foldH
        have hlen' : (rs.take i).length = i := by simp; omega
        rw [hlen', Nat.zero_add, hL' i, if_pos rfl]
        rw [cond_true]
        have : ∀ (y : List Rc) (k : Nat) (e : Hp), (∀ j r, y[j]? = some r → LA (A.setIfInBounds i true) (k + j) = true → t ∉ keysH r.u) → hget (foldH (LA (A.setIfInBounds i true)) k y e) t = hget e t := by
          intro y
          induction y with
          | nil => intro k e _; rfl
          | cons r y ih' =>
            intro k e hy
            unfold foldH
            rw [ih' (k + 1) _ (fun j r' hj hl => hy (j + 1) r' (by simpa using hj) (by rw [show k + (j + 1) = k + 1 + j by omega]; exact hl))]
            cases hk : LA (A.setIfInBounds i true) k
            · rfl
            · show hget (r.u ++ e) t = hget e t
              rw [hget_append, if_neg (hy 0 r rfl (by simpa using hk))]
        rw [this _ _ _ (fun j r' hj hl hd' => ?_), hget_append, if_pos hd]
        have hj' : rs[i + 1 + j]? = some r' := by rw [List.getElem?_drop] at hj; exact hj
        obtain ⟨oj, hoj⟩ := oper _ _ hj'
        rw [hL', if_neg (by omega)] at hl
        have := noConf (i + 1 + j) r' oj hj' hoj (by omega) hl
        unfold confl at this
        simp only [Bool.or_eq_false_iff] at this
        have := this.1.2
        rw [List.any_eq_false] at this
        have := this t hd
        simp only [Bool.or_eq_true, not_or] at this
        exact this.1 (hasN_mem.2 hd')
      · rw [if_neg hd]
        refine hget_foldH rs 0 h h (fun j rj hj hdj => ?_) rfl
        rw [Nat.zero_add, hL']
        by_cases e : j = i
        · subst e
          rw [hrc] at hj
          cases hj
          exact absurd hdj hd
        · rw [if_neg e]
    have next : ∀ a' w' G', Rel O (upd (foldE (LA A) 0 rs env) rc.dst rc.av) (rc.u ++ foldH (LA A) 0 rs h) a' w' G' → wpAny P .any all.toArray (lift O Q) fuel (A.setIfInBounds i true) a' w' := by
      intro a' w' G' r'
      exact ih _ a' w' G' hA' hD' hf' (r'.weak (fun t => .inl (hstepE t)) (fun id o ho => by rw [← hstepH]; exact ho))
    unfold wpOp
    rw [ho]
    simp only
    rcases hm with ⟨hw, hs⟩ | ⟨hw, hdk, hav, hu⟩
    · rw [← hwt] at hw
      rw [if_pos (wantedA_ok r hw)]
      obtain ⟨hX, Ts', hs', agr⟩ := hSt i o rc ho' hrc (by simpa using hs) (LA A) hD hN hLi agreeH
      refine .inl (hs' _ _ hop agr (fun id hid => ?_) a w G r _ _ (fun v w' G' r' => next _ _ _ (by rw [hdst]; exact r')))
      have h0 : freshE id env = true ∧ freshH id h = true := by
        rw [List.all_eq_true] at hc3
        have := hc3 rc (List.mem_of_getElem? hrc)
        rw [List.all_eq_true] at this
        have := this id hid
        simpa using this
      have hnew : ∀ j rj, rs[j]? = some rj → LA A j = true → fresh id rj.av = true ∧ freshH id rj.u = true := by
        intro j rj hj hl
        obtain ⟨oj, hoj⟩ := oper j rj hj
        have : newOk rc.Ns rj = true := by
          rcases Nat.lt_trichotomy j i with hlt | e | hlt
          · exact (pair j i oj o rj rc hlt hoj ho' hj hrc).2.1
          · subst e; rw [hLi] at hl; cases hl
          · rcases (pair i j o oj rc rj hlt ho' hoj hrc hj).2.2 with h | h
            · exact h
            · have := h _ hD (hD j oj hoj hl)
              rw [hLi] at this; cases this
        unfold newOk at this
        rw [List.all_eq_true] at this
        have := this id hid
        simpa using this
      exact freshAt_of (freshE_foldE rs 0 env h0.1 (fun j rj hj hl => (hnew j rj hj (by simpa using hl)).1)) (freshH_foldH rs 0 h h0.2 (fun j rj hj hl => (hnew j rj hj (by simpa using hl)).2))
    · rw [← hwt] at hw
      rw [if_neg (by rw [wantedA_ok r hw]; exact Bool.false_ne_true)]
      refine next _ _ G ?_
      rw [hu, hav, hdst]
      exact r.put hdk (.tup [] #[] rfl (fun i c v hc _ => by simp at hc))


/-! ### one operation reads softly -/
def StS (P : Program) (O : Org) (i0 s : Nat) (ob : AObj) (i : Nat) (o : Oper) (env : Env) (h : Hp) (Ts Ns : List Nat) (av : AV) (u : Hp) : Prop :=
  if i = i0 then Ns = [] ∧ u = [] ∧ LStep P O o env h (s :: Ts) [] av [] ∧ LStep P O o env ((s, some ob) :: h) (s :: Ts) [] av [] else LStep P O o env h Ts Ns av u
/-- those that turn the object s stand in order with the operation i0, but for j0 -/
def chkS (all : List Oper) (rs : List Rc) (i0 j0 s : Nat) : Bool :=
  Nat.blt i0 j0 && (List.range rs.length).all fun k => match rs[k]? with
    | some r => !(hasN (keysH r.u) s) || (bif Nat.blt k i0 then ((masks all []).getD i0 0).testBit k else bif Nat.beq k j0 then true else bif Nat.blt k j0 then ((masks all []).getD k 0).testBit i0 && Nat.blt i0 k else ((masks all []).getD k 0).testBit i0 && ((masks all []).getD k 0).testBit j0)
    | none => true
theorem foldH_last {L : Nat → Bool} {s : Nat} : ∀ (rs : List Rc) (k : Nat) (e : Hp) (j : Nat) (r : Rc), rs[j]? = some r → L (k + j) = true → s ∈ keysH r.u → (∀ n r', rs[n]? = some r' → j < n → s ∈ keysH r'.u → L (k + n) = false) → hget (foldH L k rs e) s = hget r.u s
  | [], _, _, _, _, h, _, _, _ => by simp at h
  | r0 :: rs, k, e, 0, r, h, hl, hs, ha => by
    simp only [List.getElem?_cons_zero, Option.some.injEq] at h
    subst h
    unfold foldH
    rw [Nat.add_zero] at hl
    rw [hl, cond_true]
    have : hget (foldH L (k + 1) rs (r0.u ++ e)) s = hget (foldH (fun _ => false) (k + 1) rs (r0.u ++ e)) s := by
      refine hget_foldH rs (k + 1) _ _ (fun j r' hj hd => ?_) rfl
      have := ha (j + 1) r' (by simpa using hj) (by omega) hd
      rw [show k + (j + 1) = k + 1 + j by omega] at this
      exact this
    rw [this, foldH_none (fun _ => rfl), hget_append, if_pos hs]
  | r0 :: rs, k, e, j + 1, r, h, hl, hs, ha => by
    unfold foldH
    exact foldH_last rs (k + 1) _ j r (by simpa using h) (by rw [show k + 1 + j = k + (j + 1) by omega]; exact hl) hs
      (fun n r' hn hlt hd => by have := ha (n + 1) r' (by simpa using hn) (by omega) hd; rw [show k + (n + 1) = k + 1 + n by omega] at this; exact this)
/-- A region whose order is left open, one of whose operations reads softly. -/
theorem AW_regionG {id i0 j0 s : Nat} {ob : AObj} (hm : P.follows .mixedOrders = true)
    (H : ∃ rs env' h', ChainG (StS P O i0 s ob) P O all 0 all env h rs env' h' ∧ chk all env h rs = true ∧ chkS all rs i0 j0 s = true ∧ (∃ r, rs[j0]? = some r ∧ hget r.u s = some ob ∧ s ∈ keysH r.u) ∧ Q .normal env' h') :
    AW P O (.region id all.toArray true) Q env h := by
  obtain ⟨rs, env', h', c, hc, hcs, ⟨rj, hrj, hob, hkj⟩, q⟩ := H
  have hlen : all.length = rs.length := c.met.1
  intro a w G r
  refine wp_region_any hm ?_
  have hms := masks_ok (all := all) all [] (fun i => by simp) (fun j m h => by simp at h) (by simp)
  have hml := masks_length all []
  have hmask : ∀ k o, all[k]? = some o → ∀ i, ((masks all []).getD k 0).testBit i = true → ∀ L, Down all L → Needs o L → L i = true := by
    intro k o ho i ht
    have hk : ∃ m, (masks all [])[k]? = some m := ⟨_, List.getElem?_eq_getElem (by have := (List.getElem?_eq_some_iff.1 ho).1; simp at hml; omega)⟩
    obtain ⟨m, hk⟩ := hk
    rw [List.getD_eq_getElem?_getD, hk, Option.getD_some] at ht
    exact hms k m hk o ho i ht
  unfold chkS at hcs
  simp only [Bool.and_eq_true, List.all_eq_true] at hcs
  obtain ⟨hij, hcs⟩ := hcs
  rw [Nat.blt_eq] at hij
  have hord : ∀ k r, rs[k]? = some r → s ∈ keysH r.u → (k < i0 → ((masks all []).getD i0 0).testBit k = true) ∧ (i0 ≤ k → k ≠ j0 → i0 < k ∧ ((masks all []).getD k 0).testBit i0 = true ∧ (j0 < k → ((masks all []).getD k 0).testBit j0 = true)) := by
    intro k r hk hs
    have := hcs k (by have := (List.getElem?_eq_some_iff.1 hk).1; simp [this])
    rw [hk] at this
    simp only [hasN_mem.2 hs, Bool.not_true, Bool.false_or] at this
    constructor
    · intro hlt
      rw [show Nat.blt k i0 = true by rw [Nat.blt_eq]; exact hlt, cond_true] at this
      exact this
    · intro hle hne
      have h1 : Nat.blt k i0 = false := by
        cases hb : Nat.blt k i0
        · rfl
        · rw [Nat.blt_eq] at hb; omega
      have h2 : Nat.beq k j0 = false := by
        cases hb : Nat.beq k j0
        · rfl
        · exact absurd (Nat.eq_of_beq_eq_true hb) hne
      rw [h1, cond_false, h2, cond_false] at this
      cases hb : Nat.blt k j0 with
      | true =>
        rw [hb, cond_true, Bool.and_eq_true, Nat.blt_eq] at this
        rw [Nat.blt_eq] at hb
        exact ⟨this.2, this.1, fun hx => by omega⟩
      | false =>
        rw [hb, cond_false, Bool.and_eq_true] at this
        have : j0 ≤ k := by
          rcases Nat.lt_or_ge k j0 with hx | hx
          · rw [show Nat.blt k j0 = true by rw [Nat.blt_eq]; exact hx] at hb; cases hb
          · exact hx
        refine ⟨by omega, ?_, fun _ => ?_⟩ <;> simp_all
  refine any_goG c (fun i o rc ho hrc hst L hD hN hLi agr => ?_) (by simpa using hc) q _ _ a _ G (by simp) (fun j o hj hl => ?_) ?_ ?_
  · unfold StS at hst
    by_cases hi : i = i0
    · subst hi
      rw [if_pos rfl] at hst
      obtain ⟨e1, e2, f1, f2⟩ := hst
      have before : ∀ k r, rs[k]? = some r → s ∈ keysH r.u → k < i → L k = true := fun k r hk hs hlt => hmask i o ho k ((hord k r hk hs).1 hlt) L hD hN
      have behind : ∀ k r, rs[k]? = some r → s ∈ keysH r.u → i ≤ k → k ≠ j0 → L k = false := by
        intro k r hk hs hle hne
        obtain ⟨_, g2, _⟩ := (hord k r hk hs).2 hle hne
        cases hl : L k
        · rfl
        · have hlt := (List.getElem?_eq_some_iff.1 hk).1
          have ho' := List.getElem?_eq_getElem (show k < all.length by omega)
          have := hmask k _ ho' i g2 L hD (hD k _ ho' hl)
          rw [hLi] at this; cases this
      rw [e1, e2]
      cases hlj : L j0 with
      | false =>
        have hss : hget (foldH L 0 rs h) s = hget (foldH (fun j => decide (j < i)) 0 rs h) s := by
          refine hget_foldH rs 0 h h (fun k r hk hs => ?_) rfl
          rw [Nat.zero_add]
          rcases Nat.lt_or_ge k i with hlt | hge
          · rw [before k r hk hs hlt]; simp [hlt]
          · by_cases hne : k = j0
            · subst hne; rw [hlj]; simp; omega
            · rw [behind k r hk hs hge hne]; simp; omega
        refine ⟨_, _, f1, fun id hid => ?_⟩
        rcases List.mem_cons.1 hid with e | hid
        · rw [e]; exact hss
        · exact agr id hid
      | true =>
        have hss : hget (foldH L 0 rs h) s = some ob := by
          rw [foldH_last rs 0 h j0 rj hrj (by rw [Nat.zero_add]; exact hlj) hkj (fun n r' hn hlt hd => by rw [Nat.zero_add]; exact behind n r' hn hd (by omega) (by omega)), hob]
        refine ⟨_, _, f2, fun id hid => ?_⟩
        rw [hget_cons]
        by_cases e : s = id
        · subst e; rw [if_pos rfl]; exact hss
        · rw [if_neg e]
          rcases List.mem_cons.1 hid with e' | hid
          · exact absurd e'.symm e
          · exact agr id hid
    · rw [if_neg hi] at hst
      exact ⟨_, _, hst, agr⟩
  · exfalso
    unfold LA at hl
    simp [Array.getD_eq_getD_getElem?] at hl
    cases hq : (Array.replicate all.length false)[j]? with
    | none => rw [hq] at hl; cases hl
    | some b =>
      rw [hq] at hl
      obtain ⟨_, e⟩ := Array.getElem?_eq_some_iff.1 hq
      simp at e hl
      rw [hl] at e; cases e
  · unfold openN
    refine Nat.le_trans List.countP_le_length (by simp)
  · have hf : ∀ j, LA (Array.replicate all.toArray.size false) j = false := by
      intro j
      unfold LA
      rw [Array.getD_eq_getD_getElem?]
      cases hq : (Array.replicate all.toArray.size false)[j]? with
      | none => rfl
      | some b =>
        obtain ⟨_, e⟩ := Array.getElem?_eq_some_iff.1 hq
        simp at e
        rw [← e]; rfl
    rw [foldE_none hf, foldH_none hf]
    exact r.drew
/-- A chain, built up: the records that are there, the last first. -/
def EvG (P : Program) (O : Org) (i0 j0 s : Nat) (ob : AObj) (e0 : Env) (h0 : Hp) (all : List Oper) (k : Nat) (rest : List Oper) (env : Env) (h : Hp) (rs : List Rc) (Q : Exit → Env → Hp → Prop) : Prop :=
  ∃ rs' env' h', ChainG (StS P O i0 s ob) P O all k rest env h rs' env' h' ∧ chk all e0 h0 (rs.reverse ++ rs') = true ∧ chkS all (rs.reverse ++ rs') i0 j0 s = true ∧
    (∃ r, (rs.reverse ++ rs')[j0]? = some r ∧ hget r.u s = some ob ∧ s ∈ keysH r.u) ∧ Q .normal env' h'
theorem AW_regionG' {id : Nat} (i0 j0 s : Nat) (ob : AObj) (hm : P.follows .mixedOrders = true) (H : EvG P O i0 j0 s ob env h all 0 all env h [] Q) : AW P O (.region id all.toArray true) Q env h := by
  obtain ⟨rs, env', h', h1, h2, h3, h4, h5⟩ := H
  exact AW_regionG hm ⟨rs, env', h', h1, by simpa using h2, by simpa using h3, by simpa using h4, h5⟩
variable {i0 j0 s k : Nat} {ob : AObj} {e0 : Env} {h0 : Hp} {rest : List Oper} {o : Oper} {rs : List Rc}
theorem Eg_nil (hc : chk all e0 h0 rs.reverse = true) (hc2 : chkS all rs.reverse i0 j0 s = true) (hj : ∃ r, rs.reverse[j0]? = some r ∧ hget r.u s = some ob ∧ s ∈ keysH r.u) (H : Q .normal env h) : EvG P O i0 j0 s ob e0 h0 all k [] env h rs Q :=
  ⟨[], env, h, .nil k env h, by simpa using hc, by simpa using hc2, by simpa using hj, H⟩
theorem Eg_step {Ts Ns : List Nat} {av : AV} {u : Hp} (hk : Nat.beq k i0 = false) (hw : wantedA all env o = some true) (hs : LStep P O o env h Ts Ns av u) (hf : newB Ns env h = true)
    (K : EvG P O i0 j0 s ob e0 h0 all (k + 1) rest (upd env o.dst av) (u ++ h) (⟨o.dst, av, Ts, Ns, u⟩ :: rs) Q) : EvG P O i0 j0 s ob e0 h0 all k (o :: rest) env h rs Q := by
  obtain ⟨rs', env', h', h1, h2, h3, h4, h5⟩ := K
  have hne : ¬ k = i0 := fun e => by subst e; rw [Nat.beq_refl] at hk; cases hk
  rw [List.reverse_cons, List.append_assoc, List.singleton_append] at h2 h3 h4
  exact ⟨_, env', h', .step k o rest env h Ts Ns av u rs' env' h' hw (by unfold StS; rw [if_neg hne]; exact hs) (newB_at hf) h1, h2, h3, h4, h5⟩
theorem Eg_soft {Ts : List Nat} {av : AV} (hk : Nat.beq k i0 = true) (hw : wantedA all env o = some true) (hs : LStep P O o env h (s :: Ts) [] av []) (hs2 : LStep P O o env ((s, some ob) :: h) (s :: Ts) [] av [])
    (K : EvG P O i0 j0 s ob e0 h0 all (k + 1) rest (upd env o.dst av) h (⟨o.dst, av, Ts, [], []⟩ :: rs) Q) : EvG P O i0 j0 s ob e0 h0 all k (o :: rest) env h rs Q := by
  obtain ⟨rs', env', h', h1, h2, h3, h4, h5⟩ := K
  have he : k = i0 := Nat.eq_of_beq_eq_true hk
  rw [List.reverse_cons, List.append_assoc, List.singleton_append] at h2 h3 h4
  exact ⟨_, env', h', .step k o rest env h Ts [] av [] rs' env' h' hw (by unfold StS; rw [if_pos he]; exact ⟨rfl, rfl, hs, hs2⟩) (fun _ h => by cases h) h1, h2, h3, h4, h5⟩
theorem Eg_q {t : Nat} {av : AV} {Ts : List Nat} (hk : Nat.beq k i0 = false) (hd : o.dst = some t) (hw : wantedA all env o = some true) (hs : LStep P O o env h Ts [] av [])
    (K : EvG P O i0 j0 s ob e0 h0 all (k + 1) rest ((t, av) :: env) h (⟨some t, av, Ts, [], []⟩ :: rs) Q) : EvG P O i0 j0 s ob e0 h0 all k (o :: rest) env h rs Q :=
  Eg_step hk hw hs rfl (by rw [hd]; exact K)
theorem Eg_r {t : Nat} {av : AV} {Ts : List Nat} (hk : Nat.beq k i0 = true) (hd : o.dst = some t) (hw : wantedA all env o = some true) (hs : LStep P O o env h (s :: Ts) [] av []) (hs2 : LStep P O o env ((s, some ob) :: h) (s :: Ts) [] av [])
    (K : EvG P O i0 j0 s ob e0 h0 all (k + 1) rest ((t, av) :: env) h (⟨some t, av, Ts, [], []⟩ :: rs) Q) : EvG P O i0 j0 s ob e0 h0 all k (o :: rest) env h rs Q :=
  Eg_soft hk hw hs hs2 (by rw [hd]; exact K)
theorem Eg_x {t i : Nat} {ob' : Option AObj} {av : AV} {Ts Ns : List Nat} (hk : Nat.beq k i0 = false) (hd : o.dst = some t) (hw : wantedA all env o = some true) (hs : LStep P O o env h Ts Ns av [(i, ob')]) (hf : newB Ns env h = true)
    (K : EvG P O i0 j0 s ob e0 h0 all (k + 1) rest ((t, av) :: env) ((i, ob') :: h) (⟨some t, av, Ts, Ns, [(i, ob')]⟩ :: rs) Q) : EvG P O i0 j0 s ob e0 h0 all k (o :: rest) env h rs Q :=
  Eg_step hk hw hs hf (by rw [hd]; exact K)
theorem Eg_n {i : Nat} {ob' : Option AObj} {av : AV} {Ts Ns : List Nat} (hk : Nat.beq k i0 = false) (hd : o.dst = none) (hw : wantedA all env o = some true) (hs : LStep P O o env h Ts Ns av [(i, ob')]) (hf : newB Ns env h = true)
    (K : EvG P O i0 j0 s ob e0 h0 all (k + 1) rest env ((i, ob') :: h) (⟨none, av, Ts, Ns, [(i, ob')]⟩ :: rs) Q) : EvG P O i0 j0 s ob e0 h0 all k (o :: rest) env h rs Q :=
  Eg_step hk hw hs hf (by rw [hd]; exact K)
theorem gG (K : EvG P O i0 j0 s ob e0 h0 all k (o :: rest) env h rs Q) : EvG P O i0 j0 s ob e0 h0 all k (o :: rest) env h rs Q := K
end
section
open Go.MapKept
variable {P : Program} {O : Org} {T : Tab P} {env : Env} {h : Hp} {o : Oper}
variable {t kt et id : Nat} {x i : Operand} {es : List (Value × AV)} {it : Option (Nat × List Value × Option Value)} {dk : KK} {k : Value} {c : AV}
/-- a look-up, found or not -/
theorem LStep_lookupD {v : Value} (ho : o.op = .lookup t x i false) (hd : dstOk o.dst O.nt = true) (hT : T.desc t = some (.map kt et)) (hK : T.keyD kt = some dk) (hx : evalA env x = .mp id) (hi : keyV (evalA env i) = some k) (hk : keyB dk k = true)
    (hh : hget h id = some (.map kt et es it)) (hz : (lkT T.inf et).map (·.2.2) = some v) (h1 : v.oneCell' = true) (hb : ∀ p ∈ es, keyB dk p.1 = true) (hf : (mfind k es).getD (.d (.sc v)) = c) : LStep P O o env h [id] [] c [] := by
  cases hm : mfind k es with
  | none =>
    rw [hm, Option.getD_none] at hf
    exact hf ▸ LStep_lookup0 ho hd hT hK hx hi hk hh hb hz h1 hm
  | some c' =>
    rw [hm, Option.getD_some] at hf
    exact hf ▸ LStep_lookup ho hd hT hK hx hi hk hh hb hm
theorem LStep_lookupF {v : Value} {kt' et' : Nat} (ho : o.op = .lookup t x i false) (hd : dstOk o.dst O.nt = true) (hT : T.desc t = some (.map kt et)) (hK : T.keyD kt = some dk) (hx : evalA env x = .mp id) (hi : keyV (evalA env i) = some k) (hk : keyB dk k = true)
    (hh : hget h id = some (.mapF kt' et' es)) (hz : (lkT T.inf et).map (·.2.2) = some v) (h1 : v.oneCell' = true) (hb : ∀ p ∈ es, keyB dk p.1 = true) (hf : (mfind k es).getD (.d (.sc v)) = c) : LStep P O o env h [id] [] c [] := by
  refine .quiet hd (fun env' h' he hTs a w G r => ?_)
  have h1' := evalA_rep r.env x
  have h2 := evalA_rep r.env i
  rw [he x (by simp [ho, Op.operands]), hx] at h1'
  rw [he i (by simp [ho, Op.operands])] at h2
  replace h2 := keyV_rep hi h2
  obtain ⟨b, ents, e1, e2, e3, e4, e5⟩ := r.obj id _ ((hTs id (by simp)).trans hh)
  obtain ⟨q, f1, f2⟩ := find_mat hK hk es ents.toList hb (by simpa using e3) (fun j p e hj hj' => (e4 j p.1 p.2 e hj (by rw [← Array.getElem?_toList]; exact hj')).1)
  generalize hv : a.eval x = xv at h1'
  cases h1' with
  | mp _ b' hb' =>
    obtain rfl : b = b' := by rw [e1] at hb'; cases hb'; rfl
    unfold mfind at hf
    unfold FoundAt at f2
    cases hm : mat k es 0 with
    | none =>
      rw [hm] at hf f2
      subst f2
      simp only [Option.map_none, Option.getD_none] at hf
      subst hf
      have hzr : (zeroValue et).run P w = .ok v w := by
        cases hl : lkT T.inf et with
        | none => rw [hl] at hz; cases hz
        | some p =>
          obtain ⟨s, b, z⟩ := p
          rw [hl] at hz
          cases hz
          obtain ⟨i, e1, _, _, e4⟩ := T.inf_ok _ (lkT_mem hl)
          simp [zeroValue, typeInfo, e1, e4]
      refine ⟨v, ?_, .d _ _ (.sc _ h1)⟩
      simp [execOp, ho, hv, h2, Instr.lookup, run_underlying (T.desc_ok hT), Go.MapKept.run_getObj_map e2, chk_run hK hk, f1, hzr]
    | some p =>
      obtain ⟨j, c'⟩ := p
      rw [hm] at hf f2
      simp only [Option.map_some, Option.getD_some] at hf
      subst hf
      obtain ⟨_, e, k', g1, g2, rfl, rfl⟩ := f2
      rw [Nat.sub_zero] at g1 g2
      rw [Array.getElem?_toList] at g1
      refine ⟨e.val, ?_, (e4 j k' c' e g2 g1).2.1⟩
      simp [execOp, ho, hv, h2, Instr.lookup, run_underlying (T.desc_ok hT), Go.MapKept.run_getObj_map e2, chk_run hK hk, f1]
/-- a map compared with nil -/
theorem run_eqlNilMap {t k e : TypeId} (hT : P.underlying t = some (.map k e)) (w : World) (b : Nat) : (Op.equal t (.map (some b)) (.map none)).run P w = .ok false w := by
  unfold Op.equal
  rw [show Op.maxDepth = 9999 + 1 from rfl, Op.equalIn]
  simp only [Sem.run_bind, run_underlying hT, Result.andThen_ok]
  simp
theorem LStep_eqNilMap {tt yt ke el : Nat} (ho : o.op = .binOp .eql tt x (.const (.map none)) yt) (hd : dstOk o.dst O.nt = true) (hT : T.desc tt = some (.map ke el)) (hx : evalA env x = .mp id) : LStep P O o env h [] [] (.d (.sc (.bool false))) [] := by
  refine .quiet hd (fun env' h' he hTs a w G r => ?_)
  have h1 := evalA_rep r.env x
  rw [he x (by simp [ho, Op.operands]), hx] at h1
  generalize hv : a.eval x = v at h1
  cases h1 with
  | mp _ b hb =>
    refine ⟨.bool false, ?_, .d _ _ (.sc _ rfl)⟩
    have hy : a.eval (.const (.map none)) = .map none := rfl
    simp [execOp, ho, hv, hy, eqGuard, binOp, run_eqlNilMap (P := P) (T.desc_ok hT) w b]
end
end Go.SL
