import Derived.Test.YtbekoielblcbmaaY4
namespace Go.Proofs.Ytbekoielblcbmaa
open Go.SL
/-! ### acts on ledgers that stand alike -/
theorem aput_mem {κ α : Type} [DecidableEq κ] {k : κ} {c : α} {l : List (κ × α)} (hn : (akeys l).Nodup) (p : κ × α) : p ∈ aput k c l ↔ (p = (k, c) ∨ (p ∈ l ∧ p.1 ≠ k)) := by
  have hn2 : (akeys (aput k c l)).Nodup := nodup_put hn
  obtain ⟨a, b⟩ := p
  constructor
  · intro h
    have h1 := aget_of_mem hn2 h
    rw [aget_put] at h1
    split at h1
    · rename_i e
      cases h1
      exact .inl (by rw [e])
    · rename_i e
      exact .inr ⟨aget_mem h1, fun q => e q.symm⟩
  · rintro (h | ⟨h, e⟩)
    · cases h
      exact aget_mem (by rw [aget_put, if_pos rfl])
    · exact aget_mem (by rw [aget_put, if_neg (fun q => e q.symm)]; exact aget_of_mem hn h)
theorem nodup_of_keys {κ α : Type} {l : List (κ × α)} (h : (akeys l).Nodup) : l.Nodup := by
  induction l with
  | nil => exact List.nodup_nil
  | cons p l ih =>
    rw [akeys_cons, List.nodup_cons] at h
    exact List.nodup_cons.2 ⟨fun hm => h.1 (List.mem_map.2 ⟨p, hm, rfl⟩), ih h.2⟩
theorem perm_of_mem {α : Type} : ∀ {l m : List α}, l.Nodup → m.Nodup → (∀ x, x ∈ l ↔ x ∈ m) → l.Perm m
  | [], m, _, _, h => by
    cases m with
    | nil => exact List.Perm.refl _
    | cons a m => exact absurd ((h a).2 List.mem_cons_self) (by simp)
  | a :: l, m, hl, hm, h => by
    have ha : a ∈ m := (h a).1 List.mem_cons_self
    obtain ⟨m1, m2, rfl⟩ := List.append_of_mem ha
    rw [List.nodup_cons] at hl
    have hm' : (a :: (m1 ++ m2)).Nodup := (List.perm_middle.nodup_iff).1 hm
    rw [List.nodup_cons] at hm'
    refine (List.Perm.cons a (perm_of_mem hl.2 hm'.2 (fun x => ⟨fun hx => ?_, fun hx => ?_⟩))).trans List.perm_middle.symm
    · have := (h x).1 (List.mem_cons_of_mem _ hx)
      have hne : x ≠ a := fun e => hl.1 (e ▸ hx)
      simpa [hne] using this
    · have : x ∈ a :: l := (h x).2 (by rcases List.mem_append.1 hx with q | q <;> simp [q])
      rcases List.mem_cons.1 this with e | e
      · exact absurd (e ▸ hx) hm'.1
      · exact e
theorem aput_perm {κ α : Type} [DecidableEq κ] {l m : List (κ × α)} (h : l.Perm m) (hn : (akeys l).Nodup) (k : κ) (c : α) : (aput k c l).Perm (aput k c m) := by
  have hm : (akeys m).Nodup := (h.map Prod.fst).nodup_iff.1 hn
  refine perm_of_mem (nodup_of_keys (nodup_put hn)) (nodup_of_keys (nodup_put hm)) (fun x => ?_)
  rw [aput_mem hn, aput_mem hm, h.mem_iff]
theorem adel_mem {κ α : Type} [DecidableEq κ] {k : κ} {l : List (κ × α)} (hn : (akeys l).Nodup) (p : κ × α) : p ∈ adel k l ↔ (p ∈ l ∧ p.1 ≠ k) := by
  obtain ⟨a, b⟩ := p
  have hn2 : (akeys (adel k l)).Nodup := nodup_del hn
  constructor
  · intro h
    have h1 := aget_of_mem hn2 h
    rw [aget_del _ _ _ hn] at h1
    split at h1
    · cases h1
    · rename_i e
      exact ⟨aget_mem h1, fun q => e q.symm⟩
  · rintro ⟨h, e⟩
    exact aget_mem (by rw [aget_del _ _ _ hn, if_neg (fun q => e q.symm)]; exact aget_of_mem hn h)
theorem adel_perm {κ α : Type} [DecidableEq κ] {l m : List (κ × α)} (h : l.Perm m) (hn : (akeys l).Nodup) (k : κ) : (adel k l).Perm (adel k m) := by
  have hm : (akeys m).Nodup := (h.map Prod.fst).nodup_iff.1 hn
  refine perm_of_mem (nodup_of_keys (nodup_del hn)) (nodup_of_keys (nodup_del hm)) (fun x => ?_)
  rw [adel_mem hn, adel_mem hm, h.mem_iff]
theorem eqv_get {s t : Led} (h : s.Eqv t) (hs : s.Ok) (k : K2) : aget k t.A = aget k s.A := (aget_perm h.A hs.nA k).symm
theorem eqv_hold {s t : Led} (h : s.Eqv t) (hs : s.Ok) (k : ByteArray) : aget k t.H = aget k s.H := (aget_perm h.H hs.nH k).symm
theorem enterS_eqv {s t : Led} (h : s.Eqv t) (x : ByteArray) (l : List Ent) : (enterS s x l).Eqv (enterS t x l) :=
  ⟨h.A.map _, by show s.P ++ _ = t.P ++ _; rw [h.P], h.H⟩
theorem refS_eqv {s t : Led} (h : s.Eqv t) (hs : s.Ok) (l : List Ent) : refS t.A l = refS s.A l := by
  have e1 : miss t.A = miss s.A := by funext e; unfold miss; rw [eqv_get h hs]
  have e2 : over t.A = over s.A := by funext e; unfold over balA; rw [eqv_get h hs]
  have e3 : lackA t.A = lackA s.A := by funext e; unfold lackA frA; rw [eqv_get h hs]
  unfold refS
  rw [e1, e2, e3]
theorem postE_eqv {s t : Led} (h : s.Eqv t) (hs : s.Ok) (x : ByteArray) (l : List Ent) : postE t x l = postE s x l := by
  unfold postE
  rw [refS_eqv h hs, h.P]
theorem lessS_eqv {s t : Led} (h : s.Eqv t) (hs : s.Ok) (x : Hld) (m : Int) : (lessS s x m).Eqv (lessS t x m) := by
  unfold lessS
  rw [eqv_get h hs]
  refine ⟨aput_perm h.A hs.nA _ _, h.P, ?_⟩
  show (if _ then _ else _ : List (ByteArray × Hld)).Perm (if _ then _ else _)
  split
  · exact adel_perm h.H hs.nH _
  · exact aput_perm h.H hs.nH _ _
theorem holdE_eqv {s t : Led} (h : s.Eqv t) (hs : s.Ok) (id n c : ByteArray) (m : Int) : holdE t id n c m = holdE s id n c m := by
  unfold holdE frA
  rw [eqv_get h hs, eqv_hold h hs, h.H.length_eq]
theorem holdS_eqv {s t : Led} (h : s.Eqv t) (hs : s.Ok) (id n c : ByteArray) (m : Int) : (holdS s id n c m).Eqv (holdS t id n c m) := by
  unfold holdS
  rw [holdE_eqv h hs, eqv_get h hs]
  split
  · exact ⟨aput_perm h.A hs.nA _ _, h.P, aput_perm h.H hs.nH _ _⟩
  · exact h
theorem takeE_eqv {s t : Led} (h : s.Eqv t) (hs : s.Ok) (id to : ByteArray) (m : Int) : takeE t id to m = takeE s id to m := by
  unfold takeE takeH balA
  rw [eqv_hold h hs]
  cases aget id s.H with
  | none => rfl
  | some x => simp only [eqv_get h hs, h.P]
theorem takeS_eqv {s t : Led} (h : s.Eqv t) (hs : s.Ok) (id to : ByteArray) (m : Int) : (takeS s id to m).Eqv (takeS t id to m) := by
  unfold takeS
  rw [eqv_hold h hs]
  cases aget id s.H with
  | none => exact h
  | some x => exact enterS_eqv (lessS_eqv h hs x m) _ _
theorem letS_eqv {s t : Led} (h : s.Eqv t) (hs : s.Ok) (id : ByteArray) : (letS s id).Eqv (letS t id) := by
  unfold letS
  rw [eqv_hold h hs]
  cases aget id s.H with
  | none => exact h
  | some x => exact lessS_eqv h hs x _
theorem openS_eqv {s t : Led} (h : s.Eqv t) (hs : s.Ok) (n c : ByteArray) (f : Int) : (openS s n c f).1.Eqv (openS t n c f).1 := by
  unfold openS
  rw [eqv_get h hs, h.A.length_eq]
  split
  · exact h
  split
  · exact h
  split
  · exact h
  split
  · exact h
  exact ⟨aput_perm h.A hs.nA _ _, h.P, h.H⟩
theorem doS_eqv {s t : Led} (h : s.Eqv t) (hs : s.Ok) (x : Act) : (doS s x).Eqv (doS t x) := by
  unfold doS
  rw [postE_eqv h hs, takeE_eqv h hs]
  split
  · exact openS_eqv h hs _ _ _
  split
  · split
    · exact enterS_eqv h _ _
    · exact h
  split
  · exact holdS_eqv h hs _ _ _ _
  split
  · split
    · exact takeS_eqv h hs _ _ _
    · exact h
  exact letS_eqv h hs _
theorem playS_eqv {s t : Led} (h : s.Eqv t) (hs : s.Ok) (l : List Act) : (playS s l).Eqv (playS t l) := by
  unfold playS
  induction l generalizing s t with
  | nil => exact h
  | cons x l ih => exact ih (doS_eqv h hs x) (doS_ok hs x)
theorem playS_append (s : Led) (l m : List Act) : playS s (l ++ m) = playS (playS s l) m := by simp [playS]
end Go.Proofs.Ytbekoielblcbmaa
