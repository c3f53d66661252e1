import Derived.Test.YtfgmnhlopgaanaaQ6
namespace Go.Proofs.Ytfgmnhlopgaanaa
open Go.SL

/-! ### structures that are built with a nil slice within -/
section
variable {P : Program} {O : Org} {o : Oper} {env : Env} {h : Hp}
theorem coeL_agg {xs ys : List AV} (hc : CoeL xs ys) {w : World} {X : Nat → Prop} {G : Ctx} {v : Value} (hr : Rep w X G (.agg xs) v) : Rep w X G (.agg ys) v := by
  obtain ⟨h1, h2⟩ := hc.at
  cases hr with
  | agg cs vs hs hv h1' =>
    exact .agg _ vs (by omega) (fun i y v hy hi => by
      obtain ⟨x, hx, hxy⟩ := h2 i y hy
      exact hxy.rep (hv i x v hx hi)) h1'
theorem lstep_coeR {Ts Ns : List Nat} {av av2 : AV} {u : Hp} (H : LStep P O o env h Ts Ns av u) (hc : ∀ w X G v, Rep w X G av v → Rep w X G av2 v) : LStep P O o env h Ts Ns av2 u := by
  intro env' h' ho ht hf a w G r K Q hK
  refine H env' h' ho ht hf a w G r K Q (fun v w' G' r' => hK v w' G' ⟨r'.size, r'.dfr, fun s => ?_, r'.obj, r'.dist, r'.ext, r'.own, r'.xlt, r'.ids⟩)
  have h1 := r'.env s
  revert h1
  generalize (a.put o.dst v).tmps.getD s undef = x
  cases o.dst with
  | none => exact id
  | some d =>
    show Rep _ _ _ (lk ((d, av) :: env') s) _ → Rep _ _ _ (lk ((d, av2) :: env') s) _
    rw [lk_cons, lk_cons]
    by_cases e : d = s
    · rw [if_pos e, if_pos e]; exact hc _ _ _ _
    · rw [if_neg e, if_neg e]; exact id
theorem LStep_buildC {T : Tab P} {t : Nat} {parts : Array (Nat × Operand)} {l pl : List (Nat × Nat)} {zs out out' : List AV} (ho : o.op = .build t parts) (hT : T.desc t = some (.struct l)) (hpl : placesOf T l = some pl) (hz : T.zeroC t = some zs)
    (hf : fillA pl zs (parts.toList.map fun p => (p.1, evalA env p.2)) = some out) (hd : dstOk o.dst O.nt = true) (hc : CoeL out out') : LStep P O o env h [] [] (.agg out') [] :=
  lstep_coeR (LStep_build (T := T) ho hT hpl hz hf hd) (fun _ _ _ _ hr => coeL_agg hc hr)
end

/-! ### what books are, mended -/
theorem num_first {l : List Post} (h : (nums l).Nodup) {p : Post} : p ∈ l ↔ firstP p.number l = some p := by
  constructor
  · intro hp
    cases hq : firstP p.number l with
    | none => exact absurd (List.mem_map.2 ⟨p, hp, rfl⟩) (firstP_none.1 hq)
    | some q =>
      obtain ⟨h1, h2⟩ := firstP_some hq
      rw [num_inj h h1 hp h2]
  · intro hp
    exact (firstP_some hp).1
theorem rowL_mem_iff {l : List Post} {p : Post} : p ∈ rowL l ↔ firstP p.number l = some p := by rw [num_first (rowL_nodup l), rowL_first]
theorem unlike_nil {a b : List Post} : unlikeN a b = [] ↔ ∀ n p q, firstP n a = some p → firstP n b = some q → p = q := by
  unfold unlikeN
  rw [List.map_eq_nil_iff, List.filter_eq_nil_iff]
  constructor
  · intro h n p q hp hq
    obtain ⟨_, hn⟩ := firstP_some hp
    have := h p (rowL_mem_iff.2 (by rw [hn]; exact hp))
    unfold unlk at this
    rw [hn, hq] at this
    exact likeB_iff.1 (by simpa using this)
  · intro h p hp
    rw [rowL_mem_iff] at hp
    unfold unlk
    cases hq : firstP p.number b with
    | none => simp
    | some q =>
      have := h _ p q hp hq
      subst this
      simp [likeB_iff.2 rfl]
theorem unlike_comm {a b : List Post} (h : unlikeN a b = []) : unlikeN b a = [] := unlike_nil.2 (fun n p q hp hq => (unlike_nil.1 h n q p hq hp).symm)
theorem sorted_ext {l m : List Post} (hl : (nums l).Nodup) (sl : l.Pairwise (fun x y => x.number ≤ y.number)) (hm : (nums m).Nodup) (sm : m.Pairwise (fun x y => x.number ≤ y.number)) (h : ∀ p, p ∈ l ↔ p ∈ m) : l = m := by
  have nl : l.Nodup := List.Pairwise.imp (fun h e => h (by rw [e])) (List.pairwise_map.1 hl)
  have nm : m.Nodup := List.Pairwise.imp (fun h e => h (by rw [e])) (List.pairwise_map.1 hm)
  have hp : l.Perm m := (List.perm_ext_iff_of_nodup nl nm).2 h
  exact hp.eq_of_pairwise (le := fun x y => x.number ≤ y.number) (fun x y hx hy h1 h2 => num_inj hl hx ((h y).2 hy) (by omega)) sl sm
theorem mixM_mem {a b : List Post} {p : Post} : p ∈ isortP (mixL a b) ↔ firstP p.number (a ++ b) = some p := by rw [(isortP_perm _).mem_iff, mixL_eq, rowL_mem_iff]
theorem mixM_nodup (a b : List Post) : (nums (isortP (mixL a b))).Nodup := ((isortP_perm _).map _).nodup_iff.2 (mixL_nodup a b)
theorem mixM_first (a b : List Post) (n : Int) : firstP n (isortP (mixL a b)) = (firstP n a).or (firstP n b) := by
  rw [← firstP_app]
  refine Option.ext fun p => ?_
  constructor
  · intro h
    obtain ⟨h1, h2⟩ := firstP_some h
    rw [← h2]
    exact mixM_mem.1 h1
  · intro h
    obtain ⟨_, h2⟩ := firstP_some h
    rw [← h2] at h ⊢
    exact (num_first (mixM_nodup a b)).1 (mixM_mem.2 h)
theorem mixM_ext {a b c d : List Post} (h : ∀ n, firstP n (a ++ b) = firstP n (c ++ d)) : isortP (mixL a b) = isortP (mixL c d) :=
  sorted_ext (mixM_nodup a b) (isortP_sorted _) (mixM_nodup c d) (isortP_sorted _) (fun p => by rw [mixM_mem, mixM_mem, h])
theorem mendR_comm (a b : List Post) : mendR b a = mendR a b := by
  unfold mendR
  by_cases h : unlikeN a b = []
  · rw [if_pos h, if_pos (unlike_comm h)]
    have e : isortP (mixL b a) = isortP (mixL a b) := mixM_ext (fun n => by
      have h1 := unlike_nil.1 h n
      rw [firstP_app, firstP_app]
      cases hp : firstP n a with
      | none => cases firstP n b <;> rfl
      | some p =>
        cases hq : firstP n b with
        | none => rfl
        | some q => rw [h1 p q hp hq])
    rw [e]
  · rw [if_neg h, if_neg (fun x => h (unlike_comm x))]
theorem rowL_id {l : List Post} (h : (nums l).Nodup) : rowL l = l := by
  revert h
  refine list_snoc (p := fun l => (nums l).Nodup → rowL l = l) (fun _ => rfl) (fun l p ih h => ?_) l
  unfold nums at h
  rw [List.map_append, List.nodup_append] at h
  obtain ⟨h1, _, h3⟩ := h
  rw [rowL_snoc, ih h1, if_neg (fun hm : p.number ∈ nums l => h3 _ hm p.number (by simp) rfl)]
theorem lacks_first {a : List Post} {p q : Post} (h : firstP p.number a = some q) : lacks a p = false := by unfold lacks; rw [h]; rfl
structure StaysM (a b M : List Post) : Prop where
  u1 : unlikeN M a = []
  m1 : isortP (mixL M a) = M
  u2 : unlikeN b M = []
  m2 : isortP (mixL b M) = M
  o1 : onlyL a M = []
  o2 : onlyL b M = []
  u3 : unlikeN M b = []
  l1 : (onlyL M a).length = (onlyL b a).length
  l2 : (onlyL M b).length = (onlyL a b).length
  lt : M.Pairwise (fun x y => x.number < y.number)
theorem stays_mix {a b : List Post} (h : unlikeN a b = []) : StaysM a b (isortP (mixL a b)) := by
  have fM := mixM_first a b
  have hu := unlike_nil.1 h
  have hrow := rowL_id (mixM_nodup a b)
  have hper := isortP_perm (mixL a b)
  have hnd := mixM_nodup a b
  have hso := isortP_sorted (mixL a b)
  have e1 : isortP (mixL (isortP (mixL a b)) a) = isortP (mixL a b) := mixM_ext (fun n => by
    rw [firstP_app, firstP_app, fM]
    cases firstP n a <;> cases firstP n b <;> rfl)
  have e2 : isortP (mixL b (isortP (mixL a b))) = isortP (mixL a b) := mixM_ext (fun n => by
    have h1 := hu n
    rw [firstP_app, firstP_app, fM]
    cases hp : firstP n a with
    | none => cases firstP n b <;> rfl
    | some p =>
      cases hq : firstP n b with
      | none => rfl
      | some q => rw [h1 p q hp hq]; rfl)
  generalize isortP (mixL a b) = M at *
  have u2 : unlikeN b M = [] := unlike_nil.2 (fun n p q hp hq => by
    rw [fM, hp] at hq
    cases hr : firstP n a with
    | none => rw [hr] at hq; simpa using hq
    | some r => rw [hr] at hq; have := hu n r p hr hp; subst this; simpa using hq)
  refine ⟨unlike_nil.2 (fun n p q hp hq => ?_), e1, u2, e2, ?_, ?_, unlike_comm u2, ?_, ?_, ?_⟩
  · rw [fM, hq] at hp
    simpa using hp.symm
  · unfold onlyL
    rw [List.filter_eq_nil_iff]
    intro p hp
    rw [rowL_mem_iff] at hp
    rw [lacks_first (q := p) (by rw [fM, hp]; rfl)]
    simp
  · unfold onlyL
    rw [List.filter_eq_nil_iff]
    intro p hp
    rw [rowL_mem_iff] at hp
    cases hr : firstP p.number a with
    | none => rw [lacks_first (q := p) (by rw [fM, hp, hr]; rfl)]; simp
    | some r => rw [lacks_first (q := r) (by rw [fM, hp, hr]; rfl)]; simp
  · have e : onlyL M a = M.filter (lacks a) := by unfold onlyL; rw [hrow]
    rw [e, (hper.filter _).length_eq]
    unfold mixL
    rw [List.filter_append]
    have z1 : (rowL a).filter (lacks a) = [] := by
      rw [List.filter_eq_nil_iff]
      intro p hp
      rw [lacks_first (rowL_mem_iff.1 hp)]
      simp
    have z2 : (onlyL b a).filter (lacks a) = onlyL b a := by
      unfold onlyL
      rw [List.filter_filter]
      simp
    rw [z1, z2, List.nil_append]
  · have e : onlyL M b = M.filter (lacks b) := by unfold onlyL; rw [hrow]
    rw [e, (hper.filter _).length_eq]
    unfold mixL
    rw [List.filter_append]
    have z2 : (onlyL b a).filter (lacks b) = [] := by
      rw [List.filter_eq_nil_iff]
      intro p hp
      rw [lacks_first (rowL_mem_iff.1 (onlyL_mem.1 hp).1)]
      simp
    rw [z2, List.append_nil]
    rfl
  · have h1 : M.Pairwise (fun x y => x.number ≠ y.number) := List.pairwise_map.1 hnd
    exact (hso.and h1).imp (fun h => by omega)
end Go.Proofs.Ytfgmnhlopgaanaa
