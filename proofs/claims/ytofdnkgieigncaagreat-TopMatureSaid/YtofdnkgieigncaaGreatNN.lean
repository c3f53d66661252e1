import Derived.Test.YtofdnkgieigncaaGreatNJ
import Derived.Test.YtofdnkgieigncaaGreatTf
import Derived.Test.YtofdnkgieigncaaGreatSp
import Derived.Test.YtofdnkgieigncaaGreatSq
import Derived.Test.YtofdnkgieigncaaGreatH1
namespace Go.Proofs.YtofdnkgieigncaaGreat
open Go.SL
/-! ### keys: currency, from, to -/
def k3V (k : DK) : Value := .agg [.string k.1, .string k.2.1, .string k.2.2].toArray
theorem k3V_keq (a b : DK) : keq (k3V a) (k3V b) = decide (b = a) := by
  show (eqs a.1 b.1 && (eqs a.2.1 b.2.1 && (eqs a.2.2 b.2.2 && true))) = _
  rw [Bool.eq_iff_iff]
  simp only [Bool.and_eq_true, Bool.and_true, eqs_t, decide_eq_true_eq]
  constructor
  · rintro ⟨h1, h2, h3⟩; exact Prod.ext h1.symm (Prod.ext h2.symm h3.symm)
  · rintro rfl; exact ⟨rfl, rfl, rfl⟩
theorem k3V_inj (a b : DK) (h : k3V a = k3V b) : a = b := by
  unfold k3V at h
  injection h with h
  have h' := congrArg Array.toList h
  simp at h'
  exact Prod.ext h'.1 (Prod.ext h'.2.1 h'.2.2)
def kC (k : DK) : List AV := [.d (.sc (.string k.1)), .d (.sc (.string k.2.1)), .d (.sc (.string k.2.2))]
theorem k3_rep (k : DK) : ∀ w X G, Rep w X G (.agg [.d (.sc (.string k.1)), .d (.sc (.string k.2.1)), .d (.sc (.string k.2.2))]) (k3V k) := fun w X G => by
  refine .agg _ _ rfl (fun i c v hc hv => ?_) (fun i v hv => ?_)
  · match i, hc, hv with
    | 0, hc, hv => cases hc; cases hv; exact .d _ _ (.sc _ rfl)
    | 1, hc, hv => cases hc; cases hv; exact .d _ _ (.sc _ rfl)
    | 2, hc, hv => cases hc; cases hv; exact .d _ _ (.sc _ rfl)
  · match i, hv with
    | 0, hv => cases hv; rfl
    | 1, hv => cases hv; rfl
    | 2, hv => cases hv; rfl
theorem keyK3 : Tryz.tab.keyD 192 = some (.st [.string, .string, .string]) := by kernel_rfl
theorem k3V_keyB (k : DK) : keyB (.st [.string, .string, .string]) (k3V k) = true := rfl
theorem k3_keys (l : List (DK × Int)) : ∀ p ∈ emap k3V iV l, keyB (.st [.string, .string, .string]) p.1 = true := emap_keys (q := fun v => keyB (.st [.string, .string, .string]) v = true) k3V_keyB
/-! ### netted: refused -/
theorem all_may {l : List Db} (h : l.all mayD = true) : ∀ d ∈ l, mayD d = true := fun d hd => List.all_eq_true.1 h d hd
theorem may_one {l : List Db} (h : l.all mayD = true) : ∀ d ∈ l, 1 ≤ d.2 := fun d hd => (mayD_t (all_may h d hd)).2.2.2.1
theorem may_bd {l : List Db} (h : l.all mayD = true) : ∀ d ∈ l, 0 ≤ d.2 ∧ d.2 ≤ 1099511627776 := fun d hd => by
  have := mayD_t (all_may h d hd)
  omega
theorem owM_bd {l : List Db} (hl : l.length ≤ 4096) (h : l.all mayD = true) (k : DK) : 0 ≤ (aget k (owM l)).getD 0 ∧ (aget k (owM l)).getD 0 ≤ 4503599627370496 := by
  obtain ⟨h1, h2, h3⟩ := owM_spec l (may_one h)
  rw [h2, owA_getD (h3 k)]
  have := ow_in (B := 1099511627776) (by omega) (may_bd h) k
  omega
theorem owM_len (l : List Db) : (owM l).length ≤ l.length := by
  refine list_snocN (C := fun l => (owM l).length ≤ l.length) l (by simp [owM]) (fun l d ih => ?_)
  rw [owM_snoc, List.length_append, List.length_singleton]
  have : (akeys (aput d.1 ((aget d.1 (owM l)).getD 0 + d.2) (owM l))).length ≤ (akeys (owM l)).length + 1 := by
    rw [akeys_put]; split
    · omega
    · rw [List.length_append]; simp
  simp only [akeys, List.length_map] at this
  omega
theorem all_takeN {l : List Db} (h : l.all mayD = true) (k : Nat) : (l.take k).all mayD = true := List.all_eq_true.2 (fun d hd => all_may h d (List.mem_of_mem_take hd))
/-! ### the second loop: plain -/
structure NetLp (l : List Db) (m : List (DK × Int)) (todo V : List DK) : Prop where
  st : NetSt l V m
  nd : todo.Nodup
  sub : ∀ k ∈ todo, k ∈ akeys m
  vis : ∀ k ∈ akeys m, k ∈ V ∨ k ∈ todo
  new : ∀ k ∈ todo, k ∉ V
theorem mem_akeys {κ α : Type} [DecidableEq κ] {k : κ} {l : List (κ × α)} : k ∈ akeys l ↔ ∃ c, aget k l = some c := by
  constructor
  · intro h
    cases hq : aget k l with
    | none => exact absurd h (aget_none.1 hq)
    | some c => exact ⟨c, rfl⟩
  · rintro ⟨c, hc⟩
    exact Decidable.byContradiction (fun hn => by rw [aget_none.2 hn] at hc; cases hc)
theorem owA_some {n m : Int} (h : owA n = some m) : n = m ∧ 0 < m := by
  unfold owA at h
  split at h
  · rename_i h0; have := Option.some.inj h; exact ⟨this, by omega⟩
  · cases h
theorem NetSt.val {l : List Db} (h1 : ∀ d ∈ l, 1 ≤ d.2) {V : List DK} {m : List (DK × Int)} (h : NetSt l V m) {k : DK} {n : Int} (hk : aget k m = some n) : 0 < n ∧ n ≤ ow l k := by
  have hb := ow_nn h1 (bk k)
  by_cases hv : k ∈ V ∨ bk k ∈ V
  · have := (h.at' k).1 hv
    rw [hk] at this
    obtain ⟨e, hp⟩ := owA_some this.symm
    unfold netI at e
    exact ⟨hp, by omega⟩
  · have := (h.at' k).2 (fun q => hv (.inl q)) (fun q => hv (.inr q))
    rw [hk] at this
    obtain ⟨e, hp⟩ := owA_some this.symm
    exact ⟨hp, by omega⟩
theorem ne_bk {l : List Db} (hne : ∀ d ∈ l, d.1.2.1 ≠ d.1.2.2) {k : DK} (h : ow l k ≠ 0) : k ≠ bk k := by
  obtain ⟨d, hd, e⟩ := ow_pos_in h
  intro q
  refine hne d hd ?_
  rw [e]
  have := congrArg (fun x : DK => x.2.1) q
  exact this
theorem NetLp.skip {l : List Db} (h1 : ∀ d ∈ l, 1 ≤ d.2) {m : List (DK × Int)} {a b V : List DK} {k : DK} (h : NetLp l m (a ++ k :: b) V) (hb : aget (bk k) m = none) : NetLp l m (a ++ b) (k :: V) := by
  have hk : k ∈ akeys m := h.sub k (by simp)
  have hn : (a ++ b).Nodup ∧ k ∉ a ++ b := by
    have := h.nd
    rw [List.perm_middle.nodup_iff, List.nodup_cons] at this
    exact ⟨this.2, this.1⟩
  refine ⟨h.st.skip h1 hk hb, hn.1, fun x hx => h.sub x ?_, fun x hx => ?_, fun x hx => ?_⟩
  · rcases List.mem_append.1 hx with q | q
    · exact List.mem_append_left _ q
    · exact List.mem_append_right _ (List.mem_cons_of_mem _ q)
  · rcases h.vis x hx with q | q
    · exact .inl (List.mem_cons_of_mem _ q)
    · rcases List.mem_append.1 q with q | q
      · exact .inr (List.mem_append_left _ q)
      · rcases List.mem_cons.1 q with q | q
        · exact .inl (by rw [q]; exact List.mem_cons_self)
        · exact .inr (List.mem_append_right _ q)
  · intro hq
    rcases List.mem_cons.1 hq with q | q
    · exact hn.2 (q ▸ hx)
    · refine h.new x ?_ q
      rcases List.mem_append.1 hx with q | q
      · exact List.mem_append_left _ q
      · exact List.mem_append_right _ (List.mem_cons_of_mem _ q)
/-- what is still to come, when an entry is less by 'both' -/
def tdL (kk : DK) (z : Int) (td : List DK) : List DK := if z = 0 then td.filter fun x => decide (x ≠ kk) else td
theorem tdL_mem {kk x : DK} {z : Int} {td : List DK} (h : x ∈ tdL kk z td) : x ∈ td ∧ (z = 0 → x ≠ kk) := by
  unfold tdL at h
  split at h
  · rename_i h0
    obtain ⟨a, b⟩ := List.mem_filter.1 h
    exact ⟨a, fun _ => of_decide_eq_true b⟩
  · rename_i h0; exact ⟨h, fun e => absurd e h0⟩
theorem mem_tdL {kk x : DK} {z : Int} {td : List DK} (h : x ∈ td) (hne : x ≠ kk ∨ z ≠ 0) : x ∈ tdL kk z td := by
  unfold tdL
  split
  · rename_i h0
    exact List.mem_filter.2 ⟨h, by rw [decide_eq_true_eq]; exact hne.resolve_right (fun q => q h0)⟩
  · exact h
theorem NetLp.both {l : List Db} (h1 : ∀ d ∈ l, 1 ≤ d.2) (hne : ∀ d ∈ l, d.1.2.1 ≠ d.1.2.2) {m : List (DK × Int)} {a b V : List DK} {k : DK} {n c : Int} (h : NetLp l m (a ++ k :: b) V) (hk : aget k m = some n) (hb : aget (bk k) m = some c) :
    NetLp l (lessA (bk k) (min n c) (lessA k (min n c) m)) (tdL (bk k) (c - min n c) (tdL k (n - min n c) (a ++ b))) (k :: V) := by
  obtain ⟨p1, p2⟩ := h.st.val h1 hk
  obtain ⟨q1, q2⟩ := h.st.val h1 hb
  have hkb : k ≠ bk k := ne_bk hne (by omega)
  have hkV : k ∉ V := h.new k (by simp)
  have hbV : bk k ∉ V := fun hv => by
    have e1 := (h.st.at' k).1 (.inr hv)
    have e2 := (h.st.at' (bk k)).1 (.inl hv)
    rw [hk] at e1
    rw [hb, netI_bk] at e2
    have := owA_some e1.symm
    have := owA_some e2.symm
    omega
  have hn : (a ++ b).Nodup ∧ k ∉ a ++ b := by
    have := h.nd
    rw [List.perm_middle.nodup_iff, List.nodup_cons] at this
    exact ⟨this.2, this.1⟩
  have hst := h.st.both hkb hk hb p1 q1 hkV hbV
  obtain ⟨s1, s2⟩ := lessA_spec k (min n c) h.st.nd
  obtain ⟨t1, t2⟩ := lessA_spec (bk k) (min n c) s1
  have gb : aget (bk k) (lessA k (min n c) m) = some c := by rw [s2, if_neg hkb]; exact hb
  have sub1 : ∀ x, x ∈ tdL (bk k) (c - min n c) (tdL k (n - min n c) (a ++ b)) → x ∈ a ++ b ∧ (c - min n c = 0 → x ≠ bk k) := fun x hx => by
    obtain ⟨u1, u2⟩ := tdL_mem hx
    exact ⟨(tdL_mem u1).1, u2⟩
  have inab : ∀ x, x ∈ a ++ b → x ∈ a ++ k :: b := fun x hx => by
    rcases List.mem_append.1 hx with q | q
    · exact List.mem_append_left _ q
    · exact List.mem_append_right _ (List.mem_cons_of_mem _ q)
  have fd : ∀ (kk : DK) (z : Int) (td : List DK), td.Nodup → (tdL kk z td).Nodup := fun kk z td hd => by
    unfold tdL
    split
    · exact List.Pairwise.filter _ hd
    · exact hd
  refine ⟨hst, fd _ _ _ (fd _ _ _ hn.1), fun x hx => ?_, fun x hx => ?_, fun x hx => ?_⟩
  · obtain ⟨u1, u2⟩ := sub1 x hx
    have hxk : x ≠ k := fun e => hn.2 (e ▸ u1)
    rw [mem_akeys, t2]
    by_cases e : bk k = x
    · rw [if_pos e, gb, Option.getD_some]
      split
      · rename_i h0; exact absurd e.symm (u2 h0)
      · exact ⟨_, rfl⟩
    · rw [if_neg e, s2, if_neg (fun q => hxk q.symm)]
      exact mem_akeys.1 (h.sub x (inab x u1))
  · rw [mem_akeys, t2] at hx
    obtain ⟨v, hx⟩ := hx
    by_cases e : bk k = x
    · rw [if_pos e, gb, Option.getD_some] at hx
      split at hx
      · cases hx
      · rename_i h0
        subst e
        rcases h.vis (bk k) (mem_akeys.2 ⟨_, hb⟩) with q | q
        · exact absurd q hbV
        · refine .inr (mem_tdL (mem_tdL ?_ (.inl fun e => hkb e.symm)) (.inr h0))
          rcases List.mem_append.1 q with q | q
          · exact List.mem_append_left _ q
          · rcases List.mem_cons.1 q with q | q
            · exact absurd q.symm hkb
            · exact List.mem_append_right _ q
    · rw [if_neg e, s2] at hx
      by_cases e2 : k = x
      · exact .inl (by rw [← e2]; exact List.mem_cons_self)
      · rw [if_neg e2] at hx
        rcases h.vis x (mem_akeys.2 ⟨_, hx⟩) with q | q
        · exact .inl (List.mem_cons_of_mem _ q)
        · refine .inr (mem_tdL (mem_tdL ?_ (.inl fun q => e2 q.symm)) (.inl fun q => e q.symm))
          rcases List.mem_append.1 q with q | q
          · exact List.mem_append_left _ q
          · rcases List.mem_cons.1 q with q | q
            · exact absurd q.symm e2
            · exact List.mem_append_right _ q
  · obtain ⟨u1, _⟩ := sub1 x hx
    intro hq
    rcases List.mem_cons.1 hq with q | q
    · exact hn.2 (q ▸ u1)
    · exact h.new x (inab x u1) q
theorem tdL_len (kk : DK) (z : Int) (td : List DK) : (tdL kk z td).length ≤ td.length := by
  unfold tdL
  split
  · exact List.length_filter_le _ _
  · exact Nat.le_refl _
theorem NetLp.zero {l : List Db} (h1 : ∀ d ∈ l, 1 ≤ d.2) : NetLp l (owM l) (akeys (owM l)) [] := by
  have h := NetSt.zero h1
  exact ⟨h, h.nd, fun k hk => hk, fun k hk => .inr hk, fun k _ hk => by cases hk⟩
theorem map_split {α β : Type} {f : α → β} : ∀ {l : List α} {pre post : List β} {y : β}, l.map f = pre ++ y :: post → ∃ a x b, l = a ++ x :: b ∧ pre = a.map f ∧ y = f x ∧ post = b.map f
  | [], pre, post, y, h => by simp at h
  | x :: l, [], post, y, h => by
    rw [List.map_cons, List.nil_append, List.cons.injEq] at h
    exact ⟨[], x, l, rfl, rfl, h.1.symm, h.2.symm⟩
  | x :: l, p :: pre, post, y, h => by
    rw [List.map_cons, List.cons_append, List.cons.injEq] at h
    obtain ⟨a, z, b, h1, h2, h3, h4⟩ := map_split h.2
    exact ⟨x :: a, z, b, by rw [h1]; rfl, by rw [h2, ← h.1]; rfl, h3, h4⟩
theorem st_set {es : List (Value × AV)} {st : List Nat} {ck j : Nat} {x : Value × AV} (h : StOk es st ck) : StOk (es.set j x) st ck := ⟨by rw [h.len]; simp, h.nd, h.lt⟩
theorem aput_lenE {k : DK} {c : Int} {m : List (DK × Int)} (h : k ∈ akeys m) : (aput k c m).length = m.length := by
  have : (akeys (aput k c m)).length = (akeys m).length := by rw [akeys_put, if_pos h]
  simpa [akeys] using this
theorem lessA_len {k : DK} {z : Int} {m : List (DK × Int)} (h : k ∈ akeys m) : (lessA k z m).length ≤ m.length := by
  unfold lessA
  split
  · exact Nat.le_trans (del_sub _ _).length_le (Nat.le_of_eq (aput_lenE h))
  · exact Nat.le_of_eq (aput_lenE h)
theorem perm_midN {α : Type} {acc a b m : List α} {p : α} (hp : (acc ++ (a ++ p :: b)).Perm m) : ((acc ++ [p]) ++ (a ++ b)).Perm m := by
  refine List.Perm.trans ?_ hp
  rw [List.append_assoc]
  exact List.Perm.append_left acc (by simpa using (List.perm_middle (a := p) (l₁ := a) (l₂ := b)).symm)
def badN (l : List Db) : Prop := ∃ k, 1099511627776 < netI l k
def nettedR (l : List Db) (r : AV) (h' : Hp) : Prop := (badN l ∧ r = .tup [.d (.sc (.map none)), .d (.sc (.int .i64 3))]) ∨
  (¬ badN l ∧ ∃ m : List (DK × Int), ((akeys m).Nodup ∧ (∀ k, aget k m = owA (netI l k)) ∧ m.length ≤ l.length) ∧ r = .tup [.mp 18, .d (.sc (.int .i64 0))] ∧ SubH [(18, some (.map 192 2 (emap k3V iV m) none))] h')
set_option maxRecDepth 10000 in
set_option maxHeartbeats 8000000 in
theorem netted_ac (l : List Db) (hl : l.length ≤ 4096) (h : l.all mayD = true) : AC Tryz.prog 46 [.d (.sl 4 (l.map dbE))] [] [] (nettedR l) := by
  have c := mayAll_ac l hl
  rw [h] at c
  refine AC_enter Tryz.func46 rfl Tryz.ntmps46 (rv := [.tmp 2, .tmp 3]) rfl rfl (by simp) (fun w X G => ?_)
  repeat' (first | ((with_reducible refine gA ?_); (first | refine AW_seq ?_ | refine AW_region ?_ | refine AW_condF rfl ?_ | refine AW_block ?_ | refine AW_skip ?_)) | ((with_reducible refine gS ?_); refine Es_s (T := Tryz.tab) rfl rfl rfl rfl ?_) | (((with_reducible refine gS ?_); apply Es_q); rfl; rfl; refine LStep_call (c) rfl rfl rfl rfl) | (((with_reducible refine gS ?_); apply Es_xs); rfl; rfl; refine LStep_makeMapF (T := Tryz.tab) (kt := 192) rfl rfl rfl rfl rfl; rfl) | (((with_reducible refine gS ?_); apply Es_q); rfl; rfl; refine LStep_lenM (T := Tryz.tab) rfl rfl rfl rfl) | (with_reducible refine Es_nil ?_) | (with_reducible refine then_n ?_))
  refine AW_forE (S := Nat) (fun k => k ≤ l.length) (fun k => [(21, .d (.sc (.int .i64 (k : Nat))))]) (fun k => [(18, some (.mapF 192 2 (emap k3V iV (owM (l.take k)))))]) (fun k => l.length - k) 0 (by omega) (by (repeat' (first | exact trivial | exact rfl | (refine ⟨Or.inl rfl, ?_⟩) | (refine ⟨Or.inr rfl, ?_⟩) | (refine ⟨Or.inr trivial, ?_⟩) | (refine ⟨rfl, ?_⟩) | (refine ⟨?_, ?_⟩)))) (by (repeat' (first | exact trivial | exact rfl | (refine ⟨Or.inl rfl, ?_⟩) | (refine ⟨Or.inr rfl, ?_⟩) | (refine ⟨Or.inr trivial, ?_⟩) | (refine ⟨rfl, ?_⟩) | (refine ⟨?_, ?_⟩)))) ?_
  intro k hk
  by_cases hlt : k < l.length
  · obtain ⟨e, he, _⟩ := drop_at hlt
    have h2 := may_bd h e (List.mem_of_getElem? he)
    have g1 := owM_bd (l := l.take k) (Nat.le_trans (take_len_le l k) hl) (all_takeN h k) e.1
    have t1 := owM_snoc (l.take k) e
    rw [← take_at he] at t1
    obtain ⟨⟨xc, xf, xt⟩, n⟩ := e
    dsimp only at t1 h2 g1
    clear c h
    generalize owM (l.take k) = m at *
    have f1 : (mfind (k3V (xc, xf, xt)) (emap k3V iV m)).getD (iV 0) = iV ((aget (xc, xf, xt) m).getD 0) := by rw [mfind_emap k3V_keq]; cases aget (xc, xf, xt) m <;> rfl
    have f2 : (mfind (k3V (xc, xf, xt)) (emap k3V iV (aput (xc, xf, xt) ((aget (xc, xf, xt) m).getD 0) m))).getD (iV 0) = iV ((aget (xc, xf, xt) m).getD 0) := by rw [mfind_emap k3V_keq, aget_put, if_pos rfl]; rfl
    have f3 := mentry_emap (cv := iV) k3V_keq (xc, xf, xt) 0 m
    have f4 : (emap k3V iV (aput (xc, xf, xt) ((aget (xc, xf, xt) m).getD 0) m))[aidx (xc, xf, xt) m]? = some (k3V (xc, xf, xt), iV ((aget (xc, xf, xt) m).getD 0)) := by
      unfold emap; rw [List.getElem?_map, (aput_set (xc, xf, xt) _ 0 m).2]; rfl
    have f5 : (emap k3V iV (aput (xc, xf, xt) ((aget (xc, xf, xt) m).getD 0) m)).set (aidx (xc, xf, xt) m) (k3V (xc, xf, xt), iV ((aget (xc, xf, xt) m).getD 0 + n)) = emap k3V iV (owM (l.take (k + 1))) := by
      rw [emap_set, (aput_set (xc, xf, xt) _ _ m).1, t1]
    generalize (aget (xc, xf, xt) m).getD 0 = v at *
    repeat' (first | ((with_reducible refine gA ?_); refine AW_regionG' 8 12 18 (.mapF 192 2 (emap k3V iV (aput (xc, xf, xt) v m))) Tryz.mixed ?_) | ((with_reducible refine gG ?_); first | (refine Eg_q rfl rfl rfl (LStep_simp (T := Tryz.tab) rfl rfl) ?_) | (refine Eg_q rfl rfl rfl (LStep_buildN (T := Tryz.tab) rfl rfl rfl rfl rfl rfl rfl) ?_) | (refine Eg_q rfl rfl rfl (LStep_add rfl rfl rfl rfl ?_) ?_; (refine IntWalk.i64_in _ ?_; omega)) | (refine Eg_r rfl rfl rfl (LStep_lookupF (T := Tryz.tab) rfl rfl rfl keyK3 rfl rfl rfl rfl rfl rfl (k3_keys _) f1) (LStep_lookupF (T := Tryz.tab) rfl rfl rfl keyK3 rfl rfl rfl rfl rfl rfl (k3_keys _) f2) ?_) | (refine Eg_x rfl rfl rfl (LStep_mapEntry (T := Tryz.tab) rfl rfl rfl keyK3 rfl rfl rfl rfl rfl rfl (k3_keys _) f3) rfl ?_) | (refine Eg_n rfl rfl rfl (LStep_entryStore rfl rfl rfl rfl rfl rfl rfl f4) rfl ?_)) | (refine Eg_nil (by kernel_rfl) (by kernel_rfl) ⟨_, rfl, rfl, List.mem_cons_self⟩ ?_) | ((with_reducible refine gA ?_); (first | refine AW_seq ?_ | refine AW_region ?_ | (refine AW_cond rfl (fun hc => ?_) (fun hc => ?_) <;> try (exfalso; simp only [cmpL] at hc; omega)) | refine AW_block ?_ | refine AW_skip ?_)) | ((with_reducible refine gS ?_); refine Es_s (T := Tryz.tab) rfl rfl rfl rfl ?_) | (((with_reducible refine gS ?_); apply Es_q); rfl; rfl; (first | (refine LStep_add rfl rfl rfl rfl ?_; (refine IntWalk.i64_in _ ?_; first | omega | (simp only [cmps] at *; omega))) | (refine LStep_indexM (T := Tryz.tab) (c := ?_) rfl rfl rfl rfl rfl rfl ?_; rotate_left; assumption))) | (refine Es_skip rfl ?_ rfl ?_; (first | rfl | (refine w_tf ?_; assumption) | (refine w_ft ?_; assumption))) | (((with_reducible refine gS ?_); apply Es_xs); rfl; rfl; refine LStep_allocN (T := Tryz.tab) rfl rfl rfl rfl rfl rfl; rfl) | (((with_reducible refine gS ?_); apply Es_xn); rfl; rfl; (refine LStep_storeN (T := Tryz.tab) rfl rfl rfl rfl rfl rfl rfl ?_ rfl; (refine Nat.le_of_ble_eq_true ?_; rfl)); rfl) | (with_reducible refine Es_nil ?_) | (with_reducible refine then_n ?_) | (with_reducible refine block_n ?_))
    all_goals first
      | (refine ⟨k + 1, by omega, by omega, by (repeat' (first | exact trivial | exact rfl | (refine ⟨Or.inl rfl, ?_⟩) | (refine ⟨Or.inr rfl, ?_⟩) | (refine ⟨Or.inr trivial, ?_⟩) | (refine ⟨rfl, ?_⟩) | (refine ⟨?_, ?_⟩))), by (repeat' (first | exact trivial | exact rfl | (refine ⟨Or.inl rfl, ?_⟩) | (refine ⟨Or.inr rfl, ?_⟩) | (refine ⟨Or.inr trivial, ?_⟩) | (refine ⟨rfl, ?_⟩) | (refine ⟨?_, ?_⟩))), ?_, by (repeat' (first | exact trivial | exact rfl | (refine ⟨Or.inl rfl, ?_⟩) | (refine ⟨Or.inr rfl, ?_⟩) | (refine ⟨Or.inr trivial, ?_⟩) | (refine ⟨rfl, ?_⟩) | (refine ⟨?_, ?_⟩)))⟩
         rw [← f5]; (repeat' (first | exact trivial | exact rfl | (refine ⟨Or.inl rfl, ?_⟩) | (refine ⟨Or.inr rfl, ?_⟩) | (refine ⟨Or.inr trivial, ?_⟩) | (refine ⟨rfl, ?_⟩) | (refine ⟨?_, ?_⟩))))
      | trace_state
  · have : k = l.length := by omega
    subst this
    rw [List.take_length]
    have hb0 := owM_len l
    have hLp := NetLp.zero (may_one h)
    have hone := may_one h
    have hbd := fun k => ow_in (B := 1099511627776) (by omega) (may_bd h) k
    have hne : ∀ d ∈ l, d.1.2.1 ≠ d.1.2.2 := fun d hd => (mayD_t (all_may h d hd)).2.2.1
    clear c
    generalize owM l = M0 at *
    repeat' (first | ((with_reducible refine gA ?_); refine AW_unF (m := 18) rfl ?_) | ((with_reducible refine gA ?_); (first | refine AW_seq ?_ | refine AW_region ?_ | (refine AW_cond rfl (fun hc => ?_) (fun hc => ?_) <;> try (exfalso; simp only [cmpL] at hc; omega)) | refine AW_block ?_ | refine AW_exit ?_)) | ((with_reducible refine gS ?_); refine Es_s (T := Tryz.tab) rfl rfl rfl rfl ?_) | (((with_reducible refine gS ?_); apply Es_xg); rfl; rfl; refine LStep_range (T := Tryz.tab) rfl rfl rfl rfl rfl rfl rfl; rfl) | (with_reducible refine Es_nil ?_) | (with_reducible refine then_n ?_) | (with_reducible refine then_e ?_) | ((with_reducible refine block_e ?_ ?_); rfl))
    refine AW_weaken (E := [(4, .mp 18), (41, .it 41)]) (H := [(18, some (.map 192 2 (emap k3V iV M0) (some (41, (akeys M0).map k3V, none))))]) ?_ (by (repeat' (first | exact trivial | exact rfl | (refine ⟨Or.inl rfl, ?_⟩) | (refine ⟨Or.inr rfl, ?_⟩) | (refine ⟨Or.inr trivial, ?_⟩) | (refine ⟨rfl, ?_⟩) | (refine ⟨?_, ?_⟩)))) (by unfold akeys emap; simp only [List.map_map]; (repeat' (first | exact trivial | exact rfl | (refine ⟨Or.inl rfl, ?_⟩) | (refine ⟨Or.inr rfl, ?_⟩) | (refine ⟨Or.inr trivial, ?_⟩) | (refine ⟨rfl, ?_⟩) | (refine ⟨?_, ?_⟩))))
    refine AW_forE (S := List (DK × Int) × List DK × List DK × Option Value) (fun s => NetLp l s.1 s.2.1 s.2.2.1 ∧ s.1.length ≤ l.length) (fun _ => []) (fun s => [(18, some (.map 192 2 (emap k3V iV s.1) (some (41, s.2.1.map k3V, s.2.2.2))))]) (fun s => s.2.1.length) (M0, akeys M0, [], none) ⟨hLp, hb0⟩ (by (repeat' (first | exact trivial | exact rfl | (refine ⟨Or.inl rfl, ?_⟩) | (refine ⟨Or.inr rfl, ?_⟩) | (refine ⟨Or.inr trivial, ?_⟩) | (refine ⟨rfl, ?_⟩) | (refine ⟨?_, ?_⟩)))) (by (repeat' (first | exact trivial | exact rfl | (refine ⟨Or.inl rfl, ?_⟩) | (refine ⟨Or.inr rfl, ?_⟩) | (refine ⟨Or.inr trivial, ?_⟩) | (refine ⟨rfl, ?_⟩) | (refine ⟨?_, ?_⟩)))) ?_
    intro ⟨m, td, V, cur⟩ ⟨hp, hml⟩
    dsimp only at hp hml ⊢
    have hkA := emap_nodup (cv := iV) k3V_inj hp.st.nd
    have hn3 : (td.map k3V).Nodup := by
      have := hp.nd
      rw [List.nodup_iff_pairwise_ne, List.pairwise_map]
      exact (List.nodup_iff_pairwise_ne.1 this).imp (fun h e => h (k3V_inj _ _ e))
    refine AW_seq ?_
    refine AW_region ?_
    refine Es_next 18 rfl rfl rfl rfl rfl rfl hkA hn3 (fun h0 => ?_) (fun pre kv post h0 => ?_)
    rotate_left
    · obtain ⟨a, k, b, rfl, rfl, rfl, rfl⟩ := map_split h0
      obtain ⟨n, hn⟩ := mem_akeys.1 (hp.sub k (by simp))
      have hmem : (k3V k, iV n) ∈ emap k3V iV m := List.mem_map.2 ⟨(k, n), aget_mem hn, rfl⟩
      obtain ⟨v1, v2⟩ := hp.st.val hone hn
      have v3 := (hbd k).2
      cases hb : aget (bk k) m with
      | none =>
        have hsk := hp.skip hone hb
        have s1 : (mfind (k3V (k.1, k.2.2, k.2.1)) (emap k3V iV m)).getD (iV 0) = iV 0 := by rw [mfind_emap k3V_keq]; rw [show (k.1, k.2.2, k.2.1) = bk k from rfl, hb]; rfl
        have hmn : minI n 0 = 0 := by unfold minI; rw [if_pos v1]
        repeat' (first | ((with_reducible refine gA ?_); (first | refine AW_seq ?_ | refine AW_region ?_ | refine AW_condT rfl ?_ | (refine AW_cond rfl (fun hc => ?_) (fun hc => ?_) <;> try (exfalso; simp only [cmpL] at hc; omega)) | refine AW_block ?_ | refine AW_skip ?_ | refine AW_exit ?_)) | ((with_reducible refine gS ?_); refine Es_s (T := Tryz.tab) rfl rfl rfl rfl ?_) | (((with_reducible refine gS ?_); apply Es_q); rfl; rfl; (first | refine LStep_entry (kav := .agg (kC k)) 18 hmem rfl rfl rfl rfl hkA (k3_rep k) | refine LStep_lookupD (T := Tryz.tab) rfl rfl rfl keyK3 rfl rfl rfl rfl rfl rfl (k3_keys _) s1 | refine LStep_min rfl rfl rfl rfl hmn)) | (((with_reducible refine gS ?_); apply Es_q); rfl; rfl; refine LStep_buildN (T := Tryz.tab) rfl rfl rfl rfl rfl rfl rfl) | (refine Es_skip rfl ?_ rfl ?_; (first | rfl | (refine w_tf ?_; assumption) | (refine w_ft ?_; assumption))) | (((with_reducible refine gS ?_); apply Es_xs); rfl; rfl; refine LStep_allocN (T := Tryz.tab) rfl rfl rfl rfl rfl rfl; rfl) | (((with_reducible refine gS ?_); apply Es_xn); rfl; rfl; (refine LStep_storeN (T := Tryz.tab) rfl rfl rfl rfl rfl rfl rfl ?_ rfl; (refine Nat.le_of_ble_eq_true ?_; rfl)); rfl) | (with_reducible refine Es_nil ?_) | (with_reducible refine then_n ?_) | (with_reducible refine then_e ?_) | ((with_reducible refine block_e ?_ ?_); rfl))
        all_goals first
          | (refine ⟨(m, a ++ b, k :: V, some (k3V k)), ⟨hsk, hml⟩, by simp, by (repeat' (first | exact trivial | exact rfl | (refine ⟨Or.inl rfl, ?_⟩) | (refine ⟨Or.inr rfl, ?_⟩) | (refine ⟨Or.inr trivial, ?_⟩) | (refine ⟨rfl, ?_⟩) | (refine ⟨?_, ?_⟩))), by (repeat' (first | exact trivial | exact rfl | (refine ⟨Or.inl rfl, ?_⟩) | (refine ⟨Or.inr rfl, ?_⟩) | (refine ⟨Or.inr trivial, ?_⟩) | (refine ⟨rfl, ?_⟩) | (refine ⟨?_, ?_⟩))), ?_, by (repeat' (first | exact trivial | exact rfl | (refine ⟨Or.inl rfl, ?_⟩) | (refine ⟨Or.inr rfl, ?_⟩) | (refine ⟨Or.inr trivial, ?_⟩) | (refine ⟨rfl, ?_⟩) | (refine ⟨?_, ?_⟩)))⟩
             dsimp only; rw [List.map_append]; (repeat' (first | exact trivial | exact rfl | (refine ⟨Or.inl rfl, ?_⟩) | (refine ⟨Or.inr rfl, ?_⟩) | (refine ⟨Or.inr trivial, ?_⟩) | (refine ⟨rfl, ?_⟩) | (refine ⟨?_, ?_⟩))))
          | trace_state
      | some c =>
        have hbo := hp.both hone hne hn hb
        obtain ⟨w1, w2⟩ := hp.st.val hone hb
        have w3 := (hbd (bk k)).2
        have hkb : k ≠ bk k := ne_bk hne (by omega)
        have s1 : (mfind (k3V (k.1, k.2.2, k.2.1)) (emap k3V iV m)).getD (iV 0) = iV c := by rw [mfind_emap k3V_keq]; rw [show (k.1, k.2.2, k.2.1) = bk k from rfl, hb]; rfl
        have hmn : minI n c = min n c := by unfold minI; split <;> omega
        have hz0 : eqb (min n c) 0 = false := by rw [eqb_f]; omega
        repeat' (first | ((with_reducible refine gA ?_); (first | refine AW_seq ?_ | refine AW_region ?_ | refine AW_condT rfl ?_ | (refine AW_condN rfl ?_ ?_; assumption) | refine AW_block ?_ | refine AW_skip ?_)) | ((with_reducible refine gS ?_); refine Es_s (T := Tryz.tab) rfl rfl rfl rfl ?_) | (((with_reducible refine gS ?_); apply Es_q); rfl; rfl; (first | refine LStep_entry (kav := .agg (kC k)) 18 hmem rfl rfl rfl rfl hkA (k3_rep k) | refine LStep_lookupD (T := Tryz.tab) rfl rfl rfl keyK3 rfl rfl rfl rfl rfl rfl (k3_keys _) s1 | refine LStep_min rfl rfl rfl rfl hmn | refine LStep_buildArr (T := Tryz.tab) rfl rfl rfl rfl rfl rfl)) | (((with_reducible refine gS ?_); apply Es_q); rfl; rfl; refine LStep_buildN (T := Tryz.tab) rfl rfl rfl rfl rfl rfl rfl) | (refine Es_skip rfl ?_ rfl ?_; (first | rfl | (refine w_tf ?_; assumption) | (refine w_ft ?_; assumption))) | (((with_reducible refine gS ?_); apply Es_xs); rfl; rfl; refine LStep_allocN (T := Tryz.tab) rfl rfl rfl rfl rfl rfl; rfl) | (((with_reducible refine gS ?_); apply Es_xn); rfl; rfl; (refine LStep_storeN (T := Tryz.tab) rfl rfl rfl rfl rfl rfl rfl ?_ rfl; (refine Nat.le_of_ble_eq_true ?_; rfl)); rfl) | (with_reducible refine Es_nil ?_) | (with_reducible refine then_n ?_))
        have hab : (a ++ b).Nodup := by
          have := hp.nd
          rw [List.perm_middle.nodup_iff, List.nodup_cons] at this
          exact this.2
        have hbm : min n c ≤ n ∧ min n c ≤ c ∧ 0 < min n c := by omega
        generalize hB : min n c = B at *
        -- the two entries
        let mm : Nat → List (DK × Int) := fun i => if i = 0 then m else if i = 1 then lessA k B m else lessA (bk k) B (lessA k B m)
        let tt : Nat → List DK := fun i => if i = 0 then a ++ b else if i = 1 then tdL k (n - B) (a ++ b) else tdL (bk k) (c - B) (tdL k (n - B) (a ++ b))
        have hkin : k ∈ akeys m := mem_akeys.2 ⟨_, hn⟩
        obtain ⟨sa1, sa2⟩ := lessA_spec k B hp.st.nd
        have gb : aget (bk k) (lessA k B m) = some c := by rw [sa2, if_neg hkb]; exact hb
        have hml2 : (lessA (bk k) B (lessA k B m)).length ≤ l.length := Nat.le_trans (lessA_len (mem_akeys.2 ⟨_, gb⟩)) (Nat.le_trans (lessA_len hkin) hml)
        have key : ∀ i, i < 2 → ∃ (kk : DK) (v : Int), (akeys (mm i)).Nodup ∧ aget kk (mm i) = some v ∧ B ≤ v ∧ v ≤ 4503599627370496 ∧ (mm i).length ≤ l.length ∧ (tt i).Nodup ∧ mm (i + 1) = lessA kk B (mm i) ∧ tt (i + 1) = tdL kk (v - B) (tt i) ∧ ((kC k ++ kC (bk k)).drop (i * 3)).take 3 = kC kk := by
          intro i hi
          have : i = 0 ∨ i = 1 := by omega
          rcases this with rfl | rfl
          · exact ⟨k, n, hp.st.nd, hn, hbm.1, by omega, hml, hab, rfl, rfl, rfl⟩
          · refine ⟨bk k, c, sa1, gb, hbm.2.1, by omega, Nat.le_trans (lessA_len hkin) hml, ?_, rfl, rfl, rfl⟩
            show (tdL k (n - B) (a ++ b)).Nodup
            unfold tdL
            split
            · exact List.Pairwise.filter _ hab
            · exact hab
        refine AW_weaken (E := [(4, .mp 18), (41, .it 41), (10, .d (.sc (.int .i64 B))), (63, .agg (kC k ++ kC (bk k))), (64, .d (.sc (.int .i64 ((0 : Nat) : Int))))]) (H := [(18, some (.map 192 2 (emap k3V iV m) (some (41, (a ++ b).map k3V, some (k3V k)))))]) ?_ (by (repeat' (first | exact trivial | exact rfl | (refine ⟨Or.inl rfl, ?_⟩) | (refine ⟨Or.inr rfl, ?_⟩) | (refine ⟨Or.inr trivial, ?_⟩) | (refine ⟨rfl, ?_⟩) | (refine ⟨?_, ?_⟩)))) (by rw [List.map_append]; (repeat' (first | exact trivial | exact rfl | (refine ⟨Or.inl rfl, ?_⟩) | (refine ⟨Or.inr rfl, ?_⟩) | (refine ⟨Or.inr trivial, ?_⟩) | (refine ⟨rfl, ?_⟩) | (refine ⟨?_, ?_⟩))))
        refine AW_forE (S := Nat × Option Value) (fun z => z.1 ≤ 2) (fun z => [(64, .d (.sc (.int .i64 (z.1 : Nat))))]) (fun z => [(18, some (.map 192 2 (emap k3V iV (mm z.1)) (some (41, (tt z.1).map k3V, z.2))))]) (fun z => 2 - z.1) (0, some (k3V k)) (by dsimp only; omega) (by (repeat' (first | exact trivial | exact rfl | (refine ⟨Or.inl rfl, ?_⟩) | (refine ⟨Or.inr rfl, ?_⟩) | (refine ⟨Or.inr trivial, ?_⟩) | (refine ⟨rfl, ?_⟩) | (refine ⟨?_, ?_⟩)))) (by (repeat' (first | exact trivial | exact rfl | (refine ⟨Or.inl rfl, ?_⟩) | (refine ⟨Or.inr rfl, ?_⟩) | (refine ⟨Or.inr trivial, ?_⟩) | (refine ⟨rfl, ?_⟩) | (refine ⟨?_, ?_⟩)))) ?_
        intro ⟨i, cur2⟩ hi2
        dsimp only at hi2 ⊢
        by_cases hlt2 : i < 2
        · obtain ⟨kk, v, q1, q2, q3, q4, q5, q6, q7, q8, q9⟩ := key i hlt2
          have i1 : Nat.blt i 2 = true := by rw [Nat.blt_eq]; exact hlt2
          have i2 : Nat.ble (i * 3 + 3) (kC k ++ kC (bk k)).length = true := by rw [Nat.ble_eq]; show i * 3 + 3 ≤ 6; omega
          have g1 : ltb (i : Nat) 2 = true := by rw [ltb_t]; omega
          generalize mm i = M at *
          generalize tt i = U at *
          refine AW_toS 18 rfl (fun st ck hst => ?_)
          have hidx : M[aidx kk M]? = some (kk, v) := by
            have := (aput_set kk v v M).2
            rwa [aput_same q2] at this
          have hje : (emap k3V iV M)[aidx kk M]? = some (k3V kk, iV v) := by unfold emap; rw [List.getElem?_map, hidx]; rfl
          have hmat : mat (k3V kk) (emap k3V iV M) 0 = some (aidx kk M, iV v) := by rw [mat_emap k3V_keq, q2, Nat.zero_add]; rfl
          obtain ⟨s0, hs0⟩ : ∃ s0, st[aidx kk M]? = some s0 := ⟨_, List.getElem?_eq_getElem (by rw [hst.len]; exact (List.getElem?_eq_some_iff.1 hje).1)⟩
          have hsu : ∀ n, n < aidx kk M → st[n]? ≠ some s0 := fun n hn e => by have := hst.nd _ _ _ e hs0; omega
          have hsetE : (emap k3V iV M).set (aidx kk M) (k3V kk, iV (v - B)) = emap k3V iV (aput kk (v - B) M) := by rw [emap_set, aput_some q2]
          have hkset : ∀ p ∈ (emap k3V iV M).set (aidx kk M) (k3V kk, iV (v - B)), keyB (.st [.string, .string, .string]) p.1 = true := by rw [hsetE]; exact k3_keys _
          have hfset : (mfind (k3V kk) ((emap k3V iV M).set (aidx kk M) (k3V kk, iV (v - B)))).getD (iV 0) = iV (v - B) := by rw [hsetE, mfind_emap k3V_keq, aget_put, if_pos rfl]; rfl
          have hnset : (((emap k3V iV M).set (aidx kk M) (k3V kk, iV (v - B))).map (·.1)).Nodup := by rw [hsetE]; exact emap_nodup k3V_inj (nodup_put q1)
          have hiset : (mat (k3V kk) ((emap k3V iV M).set (aidx kk M) (k3V kk, iV (v - B))) 0).isSome = true := by rw [hsetE, mat_emap k3V_keq, aget_put, if_pos rfl]; rfl
          have hdset : mdel (k3V kk) ((emap k3V iV M).set (aidx kk M) (k3V kk, iV (v - B))) = emap k3V iV (adel kk (aput kk (v - B) M)) := by rw [hsetE, mdel_emap k3V_keq]
          have hLA : lessA kk B M = if v - B = 0 then adel kk (aput kk (v - B) M) else aput kk (v - B) M := by unfold lessA; rw [q2, Option.getD_some]
          by_cases hz : v - B = 0
          · have e0 : eqb (v - B) 0 = true := by rw [eqb_t]; exact hz
            have hit : ∀ k', k' ∈ (U.filter fun x => decide (x ≠ kk)).map k3V ↔ k' ∈ U.map k3V ∧ k' ≠ k3V kk := fun k' => by
              simp only [List.mem_map, List.mem_filter, decide_eq_true_eq]
              constructor
              · rintro ⟨x, ⟨h1, h2⟩, rfl⟩
                exact ⟨⟨x, h1, rfl⟩, fun e => h2 (k3V_inj _ _ e)⟩
              · rintro ⟨⟨x, h1, rfl⟩, h2⟩
                exact ⟨x, ⟨h1, fun e => h2 (by rw [e])⟩, rfl⟩
            repeat' (first | ((with_reducible refine gA ?_); refine AW_unS 18 (st_set hst) rfl ?_) | ((with_reducible refine gA ?_); (first | refine AW_seq ?_ | refine AW_region ?_ | refine AW_regionD Tryz.mixed ?_ | (refine AW_condY rfl ?_ ?_; assumption) | refine AW_block ?_ | refine AW_skip ?_)) | (first | ((with_reducible refine gS ?_); refine Es_s (T := Tryz.tab) rfl rfl rfl rfl ?_) | ((with_reducible refine gD ?_); refine Ed_s (T := Tryz.tab) rfl rfl rfl rfl ?_)) | ((first | ((with_reducible refine gS ?_); apply Es_q) | ((with_reducible refine gD ?_); apply Ed_q)); rfl; rfl; (first | refine LStep_idxArrA (T := Tryz.tab) (k := i) rfl rfl rfl rfl rfl rfl rfl i1 i2 q9 | refine LStep_lookupE (T := Tryz.tab) rfl rfl rfl keyK3 rfl rfl rfl rfl (k3_keys _) hmat | refine LStep_mapEntryE (T := Tryz.tab) rfl rfl rfl keyK3 rfl rfl rfl rfl (k3_keys _) hmat hs0 | refine LStep_lookupD (T := Tryz.tab) rfl rfl rfl keyK3 rfl rfl rfl rfl rfl rfl hkset hfset)) | ((first | ((with_reducible refine gS ?_); apply Es_xn) | ((with_reducible refine gD ?_); apply Ed_xn)); rfl; rfl; (first | refine LStep_entryStoreS (j := aidx kk M) rfl rfl rfl rfl rfl rfl rfl hje hs0 hsu | refine LStep_deleteT (T := Tryz.tab) (i0 := 41) (todo' := (U.filter fun x => decide (x ≠ kk)).map k3V) rfl rfl rfl keyK3 rfl rfl rfl rfl hkset hnset hiset hit); rfl) | ((first | ((with_reducible refine gS ?_); apply Es_q) | ((with_reducible refine gD ?_); apply Ed_q)); rfl; rfl; (first | (refine LStep_add rfl rfl rfl rfl ?_; (refine IntWalk.i64_in _ ?_; first | omega | (simp only [cmps] at *; omega))) | (refine LStep_sub rfl rfl rfl rfl ?_; (refine IntWalk.i64_in _ ?_; first | omega | (simp only [cmps] at *; omega))))) | (refine Es_skip rfl ?_ rfl ?_; (first | rfl | (refine w_tf ?_; assumption) | (refine w_ft ?_; assumption))) | (((with_reducible refine gS ?_); apply Es_xs); rfl; rfl; refine LStep_allocN (T := Tryz.tab) rfl rfl rfl rfl rfl rfl; rfl) | (((with_reducible refine gS ?_); apply Es_xn); rfl; rfl; (refine LStep_storeN (T := Tryz.tab) rfl rfl rfl rfl rfl rfl rfl ?_ rfl; (refine Nat.le_of_ble_eq_true ?_; rfl)); rfl) | (with_reducible refine Es_nil ?_) | ((with_reducible refine Ed_nil ?_ ?_); kernel_rfl) | (with_reducible refine then_n ?_) | (with_reducible refine block_n ?_))
            all_goals first
              | (refine ⟨(i + 1, none), by dsimp only; omega, by dsimp only; omega, by (repeat' (first | exact trivial | exact rfl | (refine ⟨Or.inl rfl, ?_⟩) | (refine ⟨Or.inr rfl, ?_⟩) | (refine ⟨Or.inr trivial, ?_⟩) | (refine ⟨rfl, ?_⟩) | (refine ⟨?_, ?_⟩))), by (repeat' (first | exact trivial | exact rfl | (refine ⟨Or.inl rfl, ?_⟩) | (refine ⟨Or.inr rfl, ?_⟩) | (refine ⟨Or.inr trivial, ?_⟩) | (refine ⟨rfl, ?_⟩) | (refine ⟨?_, ?_⟩))), ?_, by (repeat' (first | exact trivial | exact rfl | (refine ⟨Or.inl rfl, ?_⟩) | (refine ⟨Or.inr rfl, ?_⟩) | (refine ⟨Or.inr trivial, ?_⟩) | (refine ⟨rfl, ?_⟩) | (refine ⟨?_, ?_⟩)))⟩
                 dsimp only; rw [q7, q8, hLA]; unfold tdL; rw [if_pos hz, if_pos hz, ← hdset]; (repeat' (first | exact trivial | exact rfl | (refine ⟨Or.inl rfl, ?_⟩) | (refine ⟨Or.inr rfl, ?_⟩) | (refine ⟨Or.inr trivial, ?_⟩) | (refine ⟨rfl, ?_⟩) | (refine ⟨?_, ?_⟩))))
              | trace_state
          · have e0 : eqb (v - B) 0 = false := by rw [eqb_f]; exact hz
            repeat' (first | ((with_reducible refine gA ?_); refine AW_unS 18 (st_set hst) rfl ?_) | ((with_reducible refine gA ?_); (first | refine AW_seq ?_ | refine AW_region ?_ | refine AW_regionD Tryz.mixed ?_ | (refine AW_condY rfl ?_ ?_; assumption) | (refine AW_condN rfl ?_ ?_; assumption) | refine AW_block ?_ | refine AW_skip ?_)) | (first | ((with_reducible refine gS ?_); refine Es_s (T := Tryz.tab) rfl rfl rfl rfl ?_) | ((with_reducible refine gD ?_); refine Ed_s (T := Tryz.tab) rfl rfl rfl rfl ?_)) | ((first | ((with_reducible refine gS ?_); apply Es_q) | ((with_reducible refine gD ?_); apply Ed_q)); rfl; rfl; (first | refine LStep_idxArrA (T := Tryz.tab) (k := i) rfl rfl rfl rfl rfl rfl rfl i1 i2 q9 | refine LStep_lookupE (T := Tryz.tab) rfl rfl rfl keyK3 rfl rfl rfl rfl (k3_keys _) hmat | refine LStep_mapEntryE (T := Tryz.tab) rfl rfl rfl keyK3 rfl rfl rfl rfl (k3_keys _) hmat hs0 | refine LStep_lookupD (T := Tryz.tab) rfl rfl rfl keyK3 rfl rfl rfl rfl rfl rfl hkset hfset)) | ((first | ((with_reducible refine gS ?_); apply Es_xn) | ((with_reducible refine gD ?_); apply Ed_xn)); rfl; rfl; refine LStep_entryStoreS (j := aidx kk M) rfl rfl rfl rfl rfl rfl rfl hje hs0 hsu; rfl) | ((first | ((with_reducible refine gS ?_); apply Es_q) | ((with_reducible refine gD ?_); apply Ed_q)); rfl; rfl; (first | (refine LStep_add rfl rfl rfl rfl ?_; (refine IntWalk.i64_in _ ?_; first | omega | (simp only [cmps] at *; omega))) | (refine LStep_sub rfl rfl rfl rfl ?_; (refine IntWalk.i64_in _ ?_; first | omega | (simp only [cmps] at *; omega))))) | (refine Es_skip rfl ?_ rfl ?_; (first | rfl | (refine w_tf ?_; assumption) | (refine w_ft ?_; assumption))) | (((with_reducible refine gS ?_); apply Es_xs); rfl; rfl; refine LStep_allocN (T := Tryz.tab) rfl rfl rfl rfl rfl rfl; rfl) | (((with_reducible refine gS ?_); apply Es_xn); rfl; rfl; (refine LStep_storeN (T := Tryz.tab) rfl rfl rfl rfl rfl rfl rfl ?_ rfl; (refine Nat.le_of_ble_eq_true ?_; rfl)); rfl) | (with_reducible refine Es_nil ?_) | ((with_reducible refine Ed_nil ?_ ?_); kernel_rfl) | (with_reducible refine then_n ?_) | (with_reducible refine block_n ?_))
            all_goals first
              | (refine ⟨(i + 1, cur2), by dsimp only; omega, by dsimp only; omega, by (repeat' (first | exact trivial | exact rfl | (refine ⟨Or.inl rfl, ?_⟩) | (refine ⟨Or.inr rfl, ?_⟩) | (refine ⟨Or.inr trivial, ?_⟩) | (refine ⟨rfl, ?_⟩) | (refine ⟨?_, ?_⟩))), by (repeat' (first | exact trivial | exact rfl | (refine ⟨Or.inl rfl, ?_⟩) | (refine ⟨Or.inr rfl, ?_⟩) | (refine ⟨Or.inr trivial, ?_⟩) | (refine ⟨rfl, ?_⟩) | (refine ⟨?_, ?_⟩))), ?_, by (repeat' (first | exact trivial | exact rfl | (refine ⟨Or.inl rfl, ?_⟩) | (refine ⟨Or.inr rfl, ?_⟩) | (refine ⟨Or.inr trivial, ?_⟩) | (refine ⟨rfl, ?_⟩) | (refine ⟨?_, ?_⟩)))⟩
                 dsimp only; rw [q7, q8, hLA]; unfold tdL; rw [if_neg hz, if_neg hz, ← hsetE]; (repeat' (first | exact trivial | exact rfl | (refine ⟨Or.inl rfl, ?_⟩) | (refine ⟨Or.inr rfl, ?_⟩) | (refine ⟨Or.inr trivial, ?_⟩) | (refine ⟨rfl, ?_⟩) | (refine ⟨?_, ?_⟩))))
              | trace_state
        · have : i = 2 := by omega
          subst this
          have g1 : ltb ((2 : Nat) : Int) 2 = false := by rw [ltb_f]; omega
          repeat' (first | ((with_reducible refine gA ?_); (first | refine AW_seq ?_ | refine AW_region ?_ | (refine AW_condN rfl ?_ ?_; assumption) | refine AW_exit ?_)) | ((with_reducible refine gS ?_); refine Es_s (T := Tryz.tab) rfl rfl rfl rfl ?_) | (with_reducible refine Es_nil ?_) | (with_reducible refine then_n ?_) | (with_reducible refine then_e ?_) | (with_reducible refine block_n ?_) | ((with_reducible refine block_e ?_ ?_); rfl))
          all_goals first
            | (refine ⟨(lessA (bk k) B (lessA k B m), tdL (bk k) (c - B) (tdL k (n - B) (a ++ b)), k :: V, cur2), ⟨hbo, hml2⟩, ?_, by (repeat' (first | exact trivial | exact rfl | (refine ⟨Or.inl rfl, ?_⟩) | (refine ⟨Or.inr rfl, ?_⟩) | (refine ⟨Or.inr trivial, ?_⟩) | (refine ⟨rfl, ?_⟩) | (refine ⟨?_, ?_⟩))), by (repeat' (first | exact trivial | exact rfl | (refine ⟨Or.inl rfl, ?_⟩) | (refine ⟨Or.inr rfl, ?_⟩) | (refine ⟨Or.inr trivial, ?_⟩) | (refine ⟨rfl, ?_⟩) | (refine ⟨?_, ?_⟩))), by (repeat' (first | exact trivial | exact rfl | (refine ⟨Or.inl rfl, ?_⟩) | (refine ⟨Or.inr rfl, ?_⟩) | (refine ⟨Or.inr trivial, ?_⟩) | (refine ⟨rfl, ?_⟩) | (refine ⟨?_, ?_⟩))), by (repeat' (first | exact trivial | exact rfl | (refine ⟨Or.inl rfl, ?_⟩) | (refine ⟨Or.inr rfl, ?_⟩) | (refine ⟨Or.inr trivial, ?_⟩) | (refine ⟨rfl, ?_⟩) | (refine ⟨?_, ?_⟩)))⟩
               have h1 := tdL_len (bk k) (c - B) (tdL k (n - B) (a ++ b))
               have h2 := tdL_len k (n - B) (a ++ b)
               dsimp only
               simp only [List.length_append, List.length_cons] at h1 h2 ⊢
               omega)
            | trace_state
    · have htd : td = [] := by simpa using h0
      subst htd
      have hdone := hp.st.done hone (fun k hk => by
        rcases hp.vis k hk with q | q
        · exact q
        · cases q)
      have hnd := hp.st.nd
      clear hLp hb0 hp
      repeat' (first | ((with_reducible refine gA ?_); refine AW_noIt 18 (show hget _ 18 = some (.map _ _ _ (some (41, _, _))) from rfl) ?_) | ((with_reducible refine gA ?_); (first | refine AW_seq ?_ | refine AW_region ?_ | refine AW_condF rfl ?_ | refine AW_block ?_ | refine AW_exit ?_)) | ((with_reducible refine gS ?_); refine Es_s (T := Tryz.tab) rfl rfl rfl rfl ?_) | (((with_reducible refine gS ?_); apply Es_xg); rfl; rfl; refine LStep_range (T := Tryz.tab) rfl rfl rfl rfl rfl rfl rfl; rfl) | (with_reducible refine Es_nil ?_) | (with_reducible refine then_n ?_) | (with_reducible refine then_e ?_) | ((with_reducible refine block_e ?_ ?_); rfl))
      refine AW_weaken (E := [(4, .mp 18), (82, .it 82)]) (H := [(18, some (.map 192 2 (emap k3V iV m) (some (82, (emap k3V iV m).map (·.1), none))))]) ?_ (by (repeat' (first | exact trivial | exact rfl | (refine ⟨Or.inl rfl, ?_⟩) | (refine ⟨Or.inr rfl, ?_⟩) | (refine ⟨Or.inr trivial, ?_⟩) | (refine ⟨rfl, ?_⟩) | (refine ⟨?_, ?_⟩)))) (by (repeat' (first | exact trivial | exact rfl | (refine ⟨Or.inl rfl, ?_⟩) | (refine ⟨Or.inr rfl, ?_⟩) | (refine ⟨Or.inr trivial, ?_⟩) | (refine ⟨rfl, ?_⟩) | (refine ⟨?_, ?_⟩))))
      refine AW_forE (S := List (DK × Int) × List (DK × Int) × Option Value) (fun t => (t.2.1 ++ t.1).Perm m ∧ ∀ p ∈ t.2.1, p.2 ≤ 1099511627776) (fun _ => [])
        (fun t => [(18, some (.map 192 2 (emap k3V iV m) (some (82, (emap k3V iV t.1).map (·.1), t.2.2))))]) (fun s => s.1.length) (m, [], none) ⟨List.Perm.refl _, fun p hp => by cases hp⟩ (by (repeat' (first | exact trivial | exact rfl | (refine ⟨Or.inl rfl, ?_⟩) | (refine ⟨Or.inr rfl, ?_⟩) | (refine ⟨Or.inr trivial, ?_⟩) | (refine ⟨rfl, ?_⟩) | (refine ⟨?_, ?_⟩)))) (by (repeat' (first | exact trivial | exact rfl | (refine ⟨Or.inl rfl, ?_⟩) | (refine ⟨Or.inr rfl, ?_⟩) | (refine ⟨Or.inr trivial, ?_⟩) | (refine ⟨rfl, ?_⟩) | (refine ⟨?_, ?_⟩)))) ?_
      intro ⟨mt, acc, cur3⟩ ⟨hp, hacc⟩
      dsimp only at hp hacc ⊢
      have hn4 : ((emap k3V iV mt).map (·.1)).Nodup := by
        have h1 : (emap k3V iV (acc ++ mt)).Perm (emap k3V iV m) := hp.map _
        have h2 := (h1.map (·.1)).nodup_iff.2 hkA
        rw [etodo_join, List.nodup_append] at h2
        exact h2.2.1
      refine AW_seq ?_
      refine AW_region ?_
      refine Es_next 18 rfl rfl rfl rfl rfl rfl hkA hn4 (fun h0 => ?_) (fun pre k post h0 => ?_)
      rotate_left
      · obtain ⟨a, p, b, rfl, rfl, rfl, rfl⟩ := etodo_split h0
        have hpm : p ∈ m := hp.mem_iff.1 (by simp)
        have hmem : (k3V p.1, iV p.2) ∈ emap k3V iV m := List.mem_map.2 ⟨p, hpm, rfl⟩
        have hpe := owA_some ((hdone p.1).symm.trans (aget_of_mem hnd hpm))
        obtain ⟨kk, n⟩ := p
        dsimp only at hpe
        by_cases hz : 1099511627776 < n
        · have g1 : ltb 1099511627776 n = true := by rw [ltb_t]; exact hz
          repeat' (first | ((with_reducible refine gA ?_); (first | refine AW_seq ?_ | refine AW_region ?_ | refine AW_condT rfl ?_ | (refine AW_condY rfl ?_ ?_; assumption) | refine AW_block ?_ | refine AW_ret ?_ | refine AW_skip ?_)) | ((with_reducible refine gS ?_); refine Es_s (T := Tryz.tab) rfl rfl rfl rfl ?_) | (((with_reducible refine gS ?_); apply Es_q); rfl; rfl; refine LStep_entry (kav := .agg (kC kk)) 18 hmem rfl rfl rfl rfl hkA (k3_rep kk)) | (with_reducible refine Es_nil ?_) | (with_reducible refine then_n ?_) | (with_reducible refine then_r ?_) | (with_reducible refine block_r ?_) | ((with_reducible refine gR ?_); first | refine ret1 rfl ?_ | refine ret2 rfl rfl ?_ | refine ret0 ?_ | refine end1 rfl ?_ | refine end0 ?_))
          all_goals first
            | exact .inl ⟨⟨kk, by omega⟩, rfl⟩
            | trace_state
        · have g1 : ltb 1099511627776 n = false := by rw [ltb_f]; omega
          repeat' (first | ((with_reducible refine gA ?_); (first | refine AW_seq ?_ | refine AW_region ?_ | refine AW_condT rfl ?_ | (refine AW_condN rfl ?_ ?_; assumption) | refine AW_block ?_ | refine AW_skip ?_)) | ((with_reducible refine gS ?_); refine Es_s (T := Tryz.tab) rfl rfl rfl rfl ?_) | (((with_reducible refine gS ?_); apply Es_q); rfl; rfl; refine LStep_entry (kav := .agg (kC kk)) 18 hmem rfl rfl rfl rfl hkA (k3_rep kk)) | (with_reducible refine Es_nil ?_) | (with_reducible refine then_n ?_) | (with_reducible refine block_n ?_))
          all_goals first
            | (refine ⟨(a ++ b, acc ++ [(kk, n)], some (k3V kk)), ⟨perm_midN hp, fun q hq => ?_⟩, by simp, by (repeat' (first | exact trivial | exact rfl | (refine ⟨Or.inl rfl, ?_⟩) | (refine ⟨Or.inr rfl, ?_⟩) | (refine ⟨Or.inr trivial, ?_⟩) | (refine ⟨rfl, ?_⟩) | (refine ⟨?_, ?_⟩))), by (repeat' (first | exact trivial | exact rfl | (refine ⟨Or.inl rfl, ?_⟩) | (refine ⟨Or.inr rfl, ?_⟩) | (refine ⟨Or.inr trivial, ?_⟩) | (refine ⟨rfl, ?_⟩) | (refine ⟨?_, ?_⟩))), ?_, by (repeat' (first | exact trivial | exact rfl | (refine ⟨Or.inl rfl, ?_⟩) | (refine ⟨Or.inr rfl, ?_⟩) | (refine ⟨Or.inr trivial, ?_⟩) | (refine ⟨rfl, ?_⟩) | (refine ⟨?_, ?_⟩)))⟩
               · rcases List.mem_append.1 hq with r | r
                 · exact hacc q r
                 · rw [List.mem_singleton.1 r]; dsimp only; omega
               · dsimp only; rw [etodo_join]; (repeat' (first | exact trivial | exact rfl | (refine ⟨Or.inl rfl, ?_⟩) | (refine ⟨Or.inr rfl, ?_⟩) | (refine ⟨Or.inr trivial, ?_⟩) | (refine ⟨rfl, ?_⟩) | (refine ⟨?_, ?_⟩))))
            | trace_state
      · have hm0 := etodo_nil h0
        subst hm0
        rw [List.append_nil] at hp
        have hgood : ¬ badN l := fun ⟨k, hk⟩ => by
          have h1 := hdone k
          rw [owA_pos (by omega)] at h1
          have h2 := hacc _ (hp.mem_iff.2 (aget_mem h1))
          dsimp only at h2
          omega
        repeat' (first | ((with_reducible refine gRc ?_); refine AW_noIt 18 rfl ?_) | ((with_reducible refine gA ?_); (first | refine AW_seq ?_ | refine AW_region ?_ | refine AW_condF rfl ?_ | refine AW_ret ?_ | refine AW_exit ?_)) | ((with_reducible refine gS ?_); refine Es_s (T := Tryz.tab) rfl rfl rfl rfl ?_) | (with_reducible refine Es_nil ?_) | (with_reducible refine then_n ?_) | (with_reducible refine then_e ?_) | ((with_reducible refine block_e ?_ ?_); rfl) | ((with_reducible refine gR ?_); first | refine ret1 rfl ?_ | refine ret2 rfl rfl ?_ | refine ret0 ?_ | refine end1 rfl ?_ | refine end0 ?_))
        all_goals first
          | exact .inr ⟨hgood, m, ⟨hnd, hdone, hml⟩, rfl, rfl, trivial⟩
          | trace_state
theorem nettedOk_ac (l : List Db) (hl : l.length ≤ 4096) (h : l.all mayD = true) (hb : ¬ badN l) : AC Tryz.prog 46 [.d (.sl 4 (l.map dbE))] [] []
    (fun r h' => ∃ m : List (DK × Int), ((akeys m).Nodup ∧ (∀ k, aget k m = owA (netI l k)) ∧ m.length ≤ l.length) ∧ r = .tup [.mp 18, .d (.sc (.int .i64 0))] ∧ SubH [(18, some (.map 192 2 (emap k3V iV m) none))] h') :=
  (netted_ac l hl h).mono (fun _ _ hr => hr.elim (fun q => absurd q.1 hb) (fun q => q.2))
end Go.Proofs.YtofdnkgieigncaaGreat
namespace Go.Proofs.YtofdnkgieigncaaGreat
open Go.SL
/-! ### cmp at strings; orders -/
theorem isNaNs_ac (a : ByteArray) : AC Tryz.prog 103 [.d (.sc (.string a))] [] [] (fun r _ => r = .d (.sc (.bool false))) := by
  refine AC_enter Tryz.func103 rfl Tryz.ntmps103 (rv := [.tmp 2]) rfl rfl (by simp) (fun w X G => ?_)
  repeat' (first | ((with_reducible refine gA ?_); (first | refine AW_seq ?_ | refine AW_region ?_ | refine AW_ret ?_)) | (((with_reducible refine gS ?_); apply Es_q); rfl; rfl; refine LStep_neqSF rfl rfl rfl rfl rfl) | ((with_reducible refine gS ?_); refine Es_s (T := Tryz.tab) rfl rfl rfl rfl ?_) | (with_reducible refine Es_nil ?_) | (with_reducible refine then_n ?_) | ((with_reducible refine gR ?_); first | refine ret1 rfl ?_ | refine ret2 rfl rfl ?_ | refine ret0 ?_ | refine end1 rfl ?_ | refine end0 ?_))
  rfl
set_option maxRecDepth 10000 in
theorem compareS_ac (a b : ByteArray) : AC Tryz.prog 53 [.d (.sc (.string a)), .d (.sc (.string b))] [] [] (fun r _ => r = .d (.sc (.int .i64 (cmpS a b)))) := by
  refine AC_enter Tryz.func53 rfl Tryz.ntmps53 (rv := [.tmp 4]) rfl rfl (by simp) (fun w X G => ?_)
  repeat' (first | ((with_reducible refine gA ?_); (first | refine AW_seq ?_ | refine AW_region ?_ | refine AW_condF rfl ?_ | (refine AW_cond rfl (fun hc => ?_) (fun hc => ?_) <;> try (exfalso; simp only [cmpL] at hc; omega)) | refine AW_ret ?_ | refine AW_skip ?_)) | ((with_reducible refine gS ?_); refine Es_s (T := Tryz.tab) rfl rfl rfl rfl ?_) | (((with_reducible refine gS ?_); apply Es_q); rfl; rfl; (first | refine LStep_call (isNaNs_ac _) rfl rfl rfl rfl | refine LStep_gtrS rfl rfl rfl rfl)) | (with_reducible refine Es_nil ?_) | (with_reducible refine then_n ?_) | (with_reducible refine then_r ?_) | ((with_reducible refine gR ?_); first | refine ret1 rfl ?_ | refine ret2 rfl rfl ?_ | refine ret0 ?_ | refine end1 rfl ?_ | refine end0 ?_))
  · have h : lts a b = true := by assumption
    rw [cmpS, if_pos h]
  · have h : lts a b = false := by assumption
    have h2 : lts b a = true := by assumption
    rw [cmpS, if_neg (by rw [h]; simp), if_pos h2]
  · have h : lts a b = false := by assumption
    have h2 : lts b a = false := by assumption
    rw [cmpS, if_neg (by rw [h]; simp), if_neg (by rw [h2]; simp)]
set_option maxRecDepth 10000 in
theorem or3_ac (a b c : Int) : AC Tryz.prog 52 [.d (.sl 1 [[.sc (.int .i64 a)], [.sc (.int .i64 b)], [.sc (.int .i64 c)]])] [] [] (fun r _ => r = .d (.sc (.int .i64 (if a ≠ 0 then a else if b ≠ 0 then b else c)))) := by
  refine AC_enter Tryz.func52 rfl Tryz.ntmps52 (rv := [.tmp 2]) rfl rfl (by simp) (fun w X G => ?_)
  repeat' (first | ((with_reducible refine gA ?_); (first | refine AW_seq ?_ | refine AW_region ?_ | refine AW_block ?_)) | ((with_reducible refine gS ?_); refine Es_s (T := Tryz.tab) rfl rfl rfl rfl ?_) | (((with_reducible refine gS ?_); apply Es_q); rfl; rfl; refine LStep_wrap (T := Tryz.tab) rfl rfl) | (with_reducible refine Es_nil ?_) | (with_reducible refine then_n ?_))
  refine AW_forE (S := Nat) (fun k => k ≤ 3 ∧ (0 < k → a = 0) ∧ (1 < k → b = 0) ∧ (2 < k → c = 0)) (fun k => [(8, .d (.sc (.int .i64 (k : Nat))))]) (fun _ => []) (fun k => 3 - k) 0 ⟨by omega, by omega, by omega, by omega⟩ (by (repeat' (first | exact trivial | exact rfl | (refine ⟨Or.inl rfl, ?_⟩) | (refine ⟨Or.inr rfl, ?_⟩) | (refine ⟨Or.inr trivial, ?_⟩) | (refine ⟨rfl, ?_⟩) | (refine ⟨?_, ?_⟩)))) (by (repeat' (first | exact trivial | exact rfl | (refine ⟨Or.inl rfl, ?_⟩) | (refine ⟨Or.inr rfl, ?_⟩) | (refine ⟨Or.inr trivial, ?_⟩) | (refine ⟨rfl, ?_⟩) | (refine ⟨?_, ?_⟩)))) ?_
  intro k ⟨hk, hf, hg, hh⟩
  match k, hk with
  | 0, _ =>
    repeat' (first | ((with_reducible refine gA ?_); (first | refine AW_seq ?_ | refine AW_region ?_ | (refine AW_cond rfl (fun hc => ?_) (fun hc => ?_) <;> try (exfalso; simp only [cmpL] at hc; omega)) | refine AW_block ?_ | refine AW_ret ?_ | refine AW_skip ?_)) | ((with_reducible refine gS ?_); refine Es_s (T := Tryz.tab) rfl rfl rfl rfl ?_) | (((with_reducible refine gS ?_); apply Es_q); rfl; rfl; (first | (refine LStep_add rfl rfl rfl rfl ?_; (refine IntWalk.i64_in _ ?_; first | omega | (simp only [cmps] at *; omega))) | (refine LStep_index (T := Tryz.tab) (c := ?_) rfl rfl rfl rfl rfl rfl ?_ ?_; rotate_left; omega; (first | assumption | rfl)))) | (with_reducible refine Es_nil ?_) | (with_reducible refine then_n ?_) | (with_reducible refine then_r ?_) | (with_reducible refine block_n ?_) | (with_reducible refine block_r ?_) | ((with_reducible refine gR ?_); first | refine ret1 rfl ?_ | refine ret2 rfl rfl ?_ | refine ret0 ?_ | refine end1 rfl ?_ | refine end0 ?_))
    all_goals simp only [cmps] at *
    all_goals first
      | (rw [if_pos (by omega)]; done)
      | (refine ⟨1, ?_, by omega, by (repeat' (first | exact trivial | exact rfl | (refine ⟨Or.inl rfl, ?_⟩) | (refine ⟨Or.inr rfl, ?_⟩) | (refine ⟨Or.inr trivial, ?_⟩) | (refine ⟨rfl, ?_⟩) | (refine ⟨?_, ?_⟩))), by (repeat' (first | exact trivial | exact rfl | (refine ⟨Or.inl rfl, ?_⟩) | (refine ⟨Or.inr rfl, ?_⟩) | (refine ⟨Or.inr trivial, ?_⟩) | (refine ⟨rfl, ?_⟩) | (refine ⟨?_, ?_⟩))), by (repeat' (first | exact trivial | exact rfl | (refine ⟨Or.inl rfl, ?_⟩) | (refine ⟨Or.inr rfl, ?_⟩) | (refine ⟨Or.inr trivial, ?_⟩) | (refine ⟨rfl, ?_⟩) | (refine ⟨?_, ?_⟩))), by (repeat' (first | exact trivial | exact rfl | (refine ⟨Or.inl rfl, ?_⟩) | (refine ⟨Or.inr rfl, ?_⟩) | (refine ⟨Or.inr trivial, ?_⟩) | (refine ⟨rfl, ?_⟩) | (refine ⟨?_, ?_⟩)))⟩; exact ⟨by omega, by omega, by omega, by omega⟩)
  | 1, _ =>
    repeat' (first | ((with_reducible refine gA ?_); (first | refine AW_seq ?_ | refine AW_region ?_ | (refine AW_cond rfl (fun hc => ?_) (fun hc => ?_) <;> try (exfalso; simp only [cmpL] at hc; omega)) | refine AW_block ?_ | refine AW_ret ?_ | refine AW_skip ?_)) | ((with_reducible refine gS ?_); refine Es_s (T := Tryz.tab) rfl rfl rfl rfl ?_) | (((with_reducible refine gS ?_); apply Es_q); rfl; rfl; (first | (refine LStep_add rfl rfl rfl rfl ?_; (refine IntWalk.i64_in _ ?_; first | omega | (simp only [cmps] at *; omega))) | (refine LStep_index (T := Tryz.tab) (c := ?_) rfl rfl rfl rfl rfl rfl ?_ ?_; rotate_left; omega; (first | assumption | rfl)))) | (with_reducible refine Es_nil ?_) | (with_reducible refine then_n ?_) | (with_reducible refine then_r ?_) | (with_reducible refine block_n ?_) | (with_reducible refine block_r ?_) | ((with_reducible refine gR ?_); first | refine ret1 rfl ?_ | refine ret2 rfl rfl ?_ | refine ret0 ?_ | refine end1 rfl ?_ | refine end0 ?_))
    all_goals simp only [cmps] at *
    all_goals first
      | (rw [if_neg (by omega), if_pos (by omega)]; done)
      | (refine ⟨2, ?_, by omega, by (repeat' (first | exact trivial | exact rfl | (refine ⟨Or.inl rfl, ?_⟩) | (refine ⟨Or.inr rfl, ?_⟩) | (refine ⟨Or.inr trivial, ?_⟩) | (refine ⟨rfl, ?_⟩) | (refine ⟨?_, ?_⟩))), by (repeat' (first | exact trivial | exact rfl | (refine ⟨Or.inl rfl, ?_⟩) | (refine ⟨Or.inr rfl, ?_⟩) | (refine ⟨Or.inr trivial, ?_⟩) | (refine ⟨rfl, ?_⟩) | (refine ⟨?_, ?_⟩))), by (repeat' (first | exact trivial | exact rfl | (refine ⟨Or.inl rfl, ?_⟩) | (refine ⟨Or.inr rfl, ?_⟩) | (refine ⟨Or.inr trivial, ?_⟩) | (refine ⟨rfl, ?_⟩) | (refine ⟨?_, ?_⟩))), by (repeat' (first | exact trivial | exact rfl | (refine ⟨Or.inl rfl, ?_⟩) | (refine ⟨Or.inr rfl, ?_⟩) | (refine ⟨Or.inr trivial, ?_⟩) | (refine ⟨rfl, ?_⟩) | (refine ⟨?_, ?_⟩)))⟩; exact ⟨by omega, by omega, by omega, by omega⟩)
  | 2, _ =>
    repeat' (first | ((with_reducible refine gA ?_); (first | refine AW_seq ?_ | refine AW_region ?_ | (refine AW_cond rfl (fun hc => ?_) (fun hc => ?_) <;> try (exfalso; simp only [cmpL] at hc; omega)) | refine AW_block ?_ | refine AW_ret ?_ | refine AW_skip ?_)) | ((with_reducible refine gS ?_); refine Es_s (T := Tryz.tab) rfl rfl rfl rfl ?_) | (((with_reducible refine gS ?_); apply Es_q); rfl; rfl; (first | (refine LStep_add rfl rfl rfl rfl ?_; (refine IntWalk.i64_in _ ?_; first | omega | (simp only [cmps] at *; omega))) | (refine LStep_index (T := Tryz.tab) (c := ?_) rfl rfl rfl rfl rfl rfl ?_ ?_; rotate_left; omega; (first | assumption | rfl)))) | (with_reducible refine Es_nil ?_) | (with_reducible refine then_n ?_) | (with_reducible refine then_r ?_) | (with_reducible refine block_n ?_) | (with_reducible refine block_r ?_) | ((with_reducible refine gR ?_); first | refine ret1 rfl ?_ | refine ret2 rfl rfl ?_ | refine ret0 ?_ | refine end1 rfl ?_ | refine end0 ?_))
    all_goals simp only [cmps] at *
    all_goals first
      | (rw [if_neg (by omega), if_neg (by omega)]; done)
      | (refine ⟨3, ?_, by omega, by (repeat' (first | exact trivial | exact rfl | (refine ⟨Or.inl rfl, ?_⟩) | (refine ⟨Or.inr rfl, ?_⟩) | (refine ⟨Or.inr trivial, ?_⟩) | (refine ⟨rfl, ?_⟩) | (refine ⟨?_, ?_⟩))), by (repeat' (first | exact trivial | exact rfl | (refine ⟨Or.inl rfl, ?_⟩) | (refine ⟨Or.inr rfl, ?_⟩) | (refine ⟨Or.inr trivial, ?_⟩) | (refine ⟨rfl, ?_⟩) | (refine ⟨?_, ?_⟩))), by (repeat' (first | exact trivial | exact rfl | (refine ⟨Or.inl rfl, ?_⟩) | (refine ⟨Or.inr rfl, ?_⟩) | (refine ⟨Or.inr trivial, ?_⟩) | (refine ⟨rfl, ?_⟩) | (refine ⟨?_, ?_⟩))), by (repeat' (first | exact trivial | exact rfl | (refine ⟨Or.inl rfl, ?_⟩) | (refine ⟨Or.inr rfl, ?_⟩) | (refine ⟨Or.inr trivial, ?_⟩) | (refine ⟨rfl, ?_⟩) | (refine ⟨?_, ?_⟩)))⟩; exact ⟨by omega, by omega, by omega, by omega⟩)
  | 3, _ =>
    repeat' (first | ((with_reducible refine gA ?_); (first | refine AW_seq ?_ | refine AW_region ?_ | (refine AW_cond rfl (fun hc => ?_) (fun hc => ?_) <;> try (exfalso; simp only [cmpL] at hc; omega)) | refine AW_ret ?_ | refine AW_exit ?_)) | ((with_reducible refine gS ?_); refine Es_s (T := Tryz.tab) rfl rfl rfl rfl ?_) | (with_reducible refine Es_nil ?_) | (with_reducible refine then_n ?_) | (with_reducible refine then_e ?_) | ((with_reducible refine block_e ?_ ?_); rfl) | ((with_reducible refine gR ?_); first | refine ret1 rfl ?_ | refine ret2 rfl rfl ?_ | refine ret0 ?_ | refine end1 rfl ?_ | refine end0 ?_))
    all_goals simp only [cmps] at *
    rw [if_neg (by omega), if_neg (by omega), hh (by omega)]
theorem cmpS_neg (a b : ByteArray) : decide (cmpS a b < 0) = lts a b := by
  unfold cmpS
  cases h : lts a b
  · rw [if_neg (by simp)]; split <;> rfl
  · rfl
theorem cmpS_zero {a b : ByteArray} : cmpS a b = 0 ↔ a = b := by
  unfold cmpS
  constructor
  · intro h
    cases h1 : lts a b
    · cases h2 : lts b a
      · exact lts_tri h1 h2
      · rw [h1, h2] at h; simp at h
    · rw [h1] at h; simp at h
  · rintro rfl
    rw [lts_irrefl]; rfl
def cmp2 (a b : SK) : Int := if cmpS a.1 b.1 ≠ 0 then cmpS a.1 b.1 else cmpS a.2 b.2
theorem cmp2_lt (a b : SK) : decide (cmp2 a b < 0) = ltN a b := by
  unfold cmp2 ltN
  by_cases h : a.1 = b.1
  · rw [if_neg (by rw [ne_eq, Decidable.not_not, cmpS_zero]; exact h), cmpS_neg, h, lts_irrefl]; simp
  · rw [if_pos (fun e => h (cmpS_zero.1 e)), cmpS_neg, decide_eq_false h]; simp
def cmp3 (a b : DK) : Int := if cmpS a.1 b.1 ≠ 0 then cmpS a.1 b.1 else if cmpS a.2.1 b.2.1 ≠ 0 then cmpS a.2.1 b.2.1 else cmpS a.2.2 b.2.2
theorem ltK_N (a b : DK) : ltK a b = (lts a.1 b.1 || (decide (a.1 = b.1) && ltN a.2 b.2)) := rfl
theorem cmp3_lt (a b : DK) : decide (cmp3 a b < 0) = ltK a b := by
  rw [ltK_N]
  unfold cmp3
  by_cases h : a.1 = b.1
  · rw [if_neg (by rw [ne_eq, Decidable.not_not, cmpS_zero]; exact h), h, lts_irrefl, decide_eq_true rfl, Bool.true_and, Bool.false_or]
    exact cmp2_lt a.2 b.2
  · rw [if_pos (fun e => h (cmpS_zero.1 e)), cmpS_neg, decide_eq_false h]; simp
theorem ltK_tri {a b : DK} (h : ltK a b = false) (k : ltK b a = false) : a = b := by
  rw [ltK_N, Bool.or_eq_false_iff, Bool.and_eq_false_iff, decide_eq_false_iff_not] at *
  have e := lts_tri h.1 k.1
  exact Prod.ext e (ltN_tri (h.2.resolve_left (fun q => q e)) (k.2.resolve_left (fun q => q e.symm)))
theorem ltK_asymm {a b : DK} (h : ltK a b = true) : ltK b a = false := by
  cases hq : ltK b a with
  | false => rfl
  | true => have := ltK_trans h hq; rw [ltK_irrefl] at this; cases this
theorem ltK_ntrans {a b c : DK} (h : ltK a b = false) (k : ltK b c = false) : ltK a c = false := by
  cases hq : ltK a c with
  | false => rfl
  | true =>
    cases hab : ltK b a with
    | true => have := ltK_trans hab hq; rw [k] at this; cases this
    | false =>
      have e := ltK_tri h hab
      rw [e] at hq
      rw [hq] at k
      cases k
/-! ### the orders on what memory holds -/
def strD : D → ByteArray
  | .sc (.string s) => s
  | _ => ⟨#[]⟩
def keyE : List D → DK
  | f :: t :: c :: _ => (strD c, strD f, strD t)
  | _ => (⟨#[]⟩, ⟨#[]⟩, ⟨#[]⟩)
def cmpDb (x y : List D) : Int := cmp3 (keyE x) (keyE y)
theorem ltOf_db (x y : List D) : ltOf cmpDb x y = ltK (keyE x) (keyE y) := cmp3_lt _ _
theorem swoDb : Sort.SWO (ltOf cmpDb) :=
  ⟨fun x => by rw [ltOf_db]; exact ltK_irrefl _, fun x y z h1 h2 => by rw [ltOf_db] at *; exact ltK_trans h1 h2, fun x y z h1 h2 => by rw [ltOf_db] at *; exact ltK_ntrans h1 h2⟩
set_option maxRecDepth 10000 in
set_option maxHeartbeats 4000000 in
theorem list1_ac (p q : Db) : AC Tryz.prog 98 [.agg ((dbE p).map .d), .agg ((dbE q).map .d)] [] [] (fun r _ => r = .d (.sc (.int .i64 (cmpDb (dbE p) (dbE q))))) := by
  have e : cmpDb (dbE p) (dbE q) = if cmpS p.1.1 q.1.1 ≠ 0 then cmpS p.1.1 q.1.1 else if cmpS p.1.2.1 q.1.2.1 ≠ 0 then cmpS p.1.2.1 q.1.2.1 else cmpS p.1.2.2 q.1.2.2 := rfl
  rw [e]
  have c1 := compareS_ac p.1.1 q.1.1
  have c2 := compareS_ac p.1.2.1 q.1.2.1
  have c3 := compareS_ac p.1.2.2 q.1.2.2
  have c4 := or3_ac (cmpS p.1.1 q.1.1) (cmpS p.1.2.1 q.1.2.1) (cmpS p.1.2.2 q.1.2.2)
  unfold dbE
  refine AC_enter Tryz.func98 rfl Tryz.ntmps98 (rv := [.tmp 4]) rfl rfl (by simp) (fun w X G => ?_)
  repeat' (first | ((with_reducible refine gA ?_); (first | refine AW_seq ?_ | refine AW_region ?_ | refine AW_regionD Tryz.mixed ?_ | refine AW_ret ?_)) | (first | ((with_reducible refine gS ?_); refine Es_s (T := Tryz.tab) rfl rfl rfl rfl ?_) | ((with_reducible refine gD ?_); refine Ed_s (T := Tryz.tab) rfl rfl rfl rfl ?_)) | ((first | ((with_reducible refine gS ?_); apply Es_q) | ((with_reducible refine gD ?_); apply Ed_q)); rfl; rfl; (first | refine LStep_call (c1) rfl rfl rfl rfl | refine LStep_call (c2) rfl rfl rfl rfl | refine LStep_call (c3) rfl rfl rfl rfl | refine LStep_call (c4) rfl rfl rfl rfl)) | ((first | ((with_reducible refine gS ?_); apply Es_q) | ((with_reducible refine gD ?_); apply Ed_q)); rfl; rfl; (refine LStep_lit (T := Tryz.tab) rfl rfl rfl rfl rfl rfl rfl rfl ?_; (refine Nat.le_of_ble_eq_true ?_; rfl))) | (refine Es_skip rfl ?_ rfl ?_; (first | rfl | (refine w_tf ?_; assumption) | (refine w_ft ?_; assumption))) | (((with_reducible refine gS ?_); apply Es_xs); rfl; rfl; refine LStep_boxN rfl rfl rfl rfl rfl rfl; rfl) | (with_reducible refine Es_nil ?_) | ((with_reducible refine Ed_nil ?_ ?_); kernel_rfl) | (with_reducible refine then_n ?_) | ((with_reducible refine gR ?_); first | refine ret1 rfl ?_ | refine ret2 rfl rfl ?_ | refine ret0 ?_ | refine end1 rfl ?_ | refine end0 ?_))
  all_goals first
    | rfl
    | trace_state
theorem sortD_ac (l : List Db) (hl : ∀ d ∈ l, 1 ≤ d.2) (v : List Db) (hv : (pairN l).Perm v) (hn : v.length ≤ 1048576) : AC Tryz.prog 97 [.own 1000 v.length, .fn 98 []] (H0 55 4 (v.map dbE)) [1000] (fun r h' => r = .tup [] ∧ SubH (H0 55 4 ((pairN l).map dbE)) h') :=
  sortFunc_ac Tryz.sortDebts 4 Tryz.isAgg55 Tryz.sizeOf55 (callable_of Tryz.func97 rfl rfl) (callable_of Tryz.func98 rfl rfl)
    55 v.length (v.map dbE) ((pairN l).map dbE) cmpDb swoDb (List.length_map _).symm (by rw [List.length_map]; omega)
    (fun x hx y hy => by
      obtain ⟨p, _, rfl⟩ := List.mem_map.1 hx
      obtain ⟨q, _, rfl⟩ := List.mem_map.1 hy
      exact list1_ac p q)
    (hv.map _) (List.pairwise_map.2 ((pairN_sorted l).imp (fun h => by rw [ltOf_db]; exact ltK_asymm h)))
    (fun x hx y hy h1 h2 => by
      obtain ⟨p, hp1, rfl⟩ := List.mem_map.1 hx
      obtain ⟨q, hq1, rfl⟩ := List.mem_map.1 hy
      rw [ltOf_db] at h1 h2
      have e : p.1 = q.1 := ltK_tri h1 h2
      have e1 := (pairN_mem hl p).1 (hv.mem_iff.2 hp1)
      have e2 := (pairN_mem hl q).1 (hv.mem_iff.2 hq1)
      rw [e, e2] at e1
      rw [show p = q from Prod.ext e (Option.some.inj e1).symm])
end Go.Proofs.YtofdnkgieigncaaGreat
namespace Go.Proofs.YtofdnkgieigncaaGreat
open Go.SL
/-! ### list, Pairs -/
set_option maxRecDepth 10000 in
set_option maxHeartbeats 8000000 in
theorem list_ac (l : List Db) (hl : ∀ d ∈ l, 1 ≤ d.2) (m : List (DK × Int)) (hnd : (akeys m).Nodup) (hm : ∀ k, aget k m = owA (netI l k)) (hlen : m.length ≤ 4096) :
    AC Tryz.prog 47 [.mp 1000] [(1000, some (.map 192 2 (emap k3V iV m) none))] [1000] (fun r h' => r = .d (.sl 4 ((pairN l).map dbE)) ∧ SubH [(1000, some (.map 192 2 (emap k3V iV m) none))] h') := by
  have hperm := pairN_perm hl hnd hm
  have hkA := emap_nodup (cv := iV) k3V_inj hnd
  have hel := emap_len (kv := k3V) (cv := iV) m
  refine AC_enter Tryz.func47 rfl Tryz.ntmps47 (rv := [.tmp 2]) rfl rfl (by simp) (fun w X G => ?_)
  repeat' (first | ((with_reducible refine gA ?_); (first | refine AW_seq ?_ | refine AW_region ?_ | refine AW_block ?_)) | ((with_reducible refine gS ?_); refine Es_s (T := Tryz.tab) rfl rfl rfl rfl ?_) | (((with_reducible refine gS ?_); apply Es_q); rfl; rfl; refine LStep_lenMap (T := Tryz.tab) rfl rfl rfl rfl rfl) | (((with_reducible refine gS ?_); apply Es_xs); rfl; rfl; (refine LStep_makeOwn (T := Tryz.tab) rfl rfl rfl rfl rfl rfl rfl rfl rfl rfl ?_ ?_ ?_ ?_; omega; omega; omega; omega); rfl) | (((with_reducible refine gS ?_); apply Es_xg); rfl; rfl; refine LStep_range (T := Tryz.tab) rfl rfl rfl rfl rfl rfl rfl; rfl) | (with_reducible refine Es_nil ?_) | (with_reducible refine then_n ?_))
  refine AW_forE (S := List (DK × Int) × List (DK × Int) × Option Value) (fun t => (t.2.1 ++ t.1).Perm m) (fun t => [(3, .own 8 (t.2.1.map dbE).length)])
    (fun t => [(1000, some (.map 192 2 (emap k3V iV m) (some (10, (emap k3V iV t.1).map (·.1), t.2.2)))), (8, some (.arr 55 4 (t.2.1.map dbE)))]) (fun s => s.1.length) (m, [], none) (List.Perm.refl _) (by (repeat' (first | exact trivial | exact rfl | (refine ⟨Or.inl rfl, ?_⟩) | (refine ⟨Or.inr rfl, ?_⟩) | (refine ⟨Or.inr trivial, ?_⟩) | (refine ⟨rfl, ?_⟩) | (refine ⟨?_, ?_⟩)))) (by (repeat' (first | exact trivial | exact rfl | (refine ⟨Or.inl rfl, ?_⟩) | (refine ⟨Or.inr rfl, ?_⟩) | (refine ⟨Or.inr trivial, ?_⟩) | (refine ⟨rfl, ?_⟩) | (refine ⟨?_, ?_⟩)))) ?_
  intro ⟨mt, acc, cur⟩ hp
  dsimp only at hp ⊢
  have hla : acc.length ≤ 4096 := by have := hp.length_eq; simp only [List.length_append] at this; omega
  have hn3 : ((emap k3V iV mt).map (·.1)).Nodup := by
    have h1 : (emap k3V iV (acc ++ mt)).Perm (emap k3V iV m) := hp.map _
    have h2 := (h1.map (·.1)).nodup_iff.2 hkA
    rw [etodo_join, List.nodup_append] at h2
    exact h2.2.1
  refine AW_seq ?_
  refine AW_region ?_
  refine Es_next 1000 rfl rfl rfl rfl rfl rfl hkA hn3 (fun h0 => ?_) (fun pre k post h0 => ?_)
  rotate_left
  · obtain ⟨a, p, b, rfl, rfl, rfl, rfl⟩ := etodo_split h0
    have hpm : p ∈ m := hp.mem_iff.1 (by simp)
    have hmem : (k3V p.1, iV p.2) ∈ emap k3V iV m := List.mem_map.2 ⟨p, hpm, rfl⟩
    have hE : (acc ++ [p]).map dbE = acc.map dbE ++ [[.sc (.string p.1.2.1), .sc (.string p.1.2.2), .sc (.string p.1.1), .sc (.int .i64 p.2)]] := by rw [List.map_append]; rfl
    repeat' (first | ((with_reducible refine gA ?_); (first | refine AW_seq ?_ | refine AW_region ?_ | refine AW_condT rfl ?_ | refine AW_block ?_ | refine AW_skip ?_)) | ((with_reducible refine gS ?_); refine Es_s (T := Tryz.tab) rfl rfl rfl rfl ?_) | (((with_reducible refine gS ?_); apply Es_q); rfl; rfl; refine LStep_entry (kav := .agg (kC p.1)) 1000 hmem rfl rfl rfl rfl hkA (k3_rep p.1)) | (((with_reducible refine gS ?_); apply Es_xs); rfl; rfl; (refine LStep_append (T := Tryz.tab) rfl rfl rfl rfl rfl rfl rfl rfl rfl rfl ?_ ?_ ?_; rfl; (simp only [List.length_map, List.length_cons, List.length_nil]; omega); (unfold maxLen; simp only [List.length_map, List.length_cons, List.length_nil]; omega)); rfl) | (((with_reducible refine gS ?_); apply Es_q); rfl; rfl; (first | (refine LStep_lit (T := Tryz.tab) rfl rfl rfl rfl rfl rfl rfl rfl ?_; (refine Nat.le_of_ble_eq_true ?_; rfl)) | refine LStep_buildN (T := Tryz.tab) rfl rfl rfl rfl rfl rfl rfl)) | (refine Es_skip rfl ?_ rfl ?_; (first | rfl | (refine w_tf ?_; assumption) | (refine w_ft ?_; assumption))) | (((with_reducible refine gS ?_); apply Es_xs); rfl; rfl; refine LStep_allocN (T := Tryz.tab) rfl rfl rfl rfl rfl rfl; rfl) | (((with_reducible refine gS ?_); apply Es_xn); rfl; rfl; (refine LStep_storeN (T := Tryz.tab) rfl rfl rfl rfl rfl rfl rfl ?_ rfl; (refine Nat.le_of_ble_eq_true ?_; rfl)); rfl) | (with_reducible refine Es_nil ?_) | (with_reducible refine then_n ?_) | (with_reducible refine block_n ?_))
    all_goals first
      | (refine ⟨(a ++ b, acc ++ [p], some (k3V p.1)), perm_midN hp, by simp, ?_, by (repeat' (first | exact trivial | exact rfl | (refine ⟨Or.inl rfl, ?_⟩) | (refine ⟨Or.inr rfl, ?_⟩) | (refine ⟨Or.inr trivial, ?_⟩) | (refine ⟨rfl, ?_⟩) | (refine ⟨?_, ?_⟩))), ?_, by (repeat' (first | exact trivial | exact rfl | (refine ⟨Or.inl rfl, ?_⟩) | (refine ⟨Or.inr rfl, ?_⟩) | (refine ⟨Or.inr trivial, ?_⟩) | (refine ⟨rfl, ?_⟩) | (refine ⟨?_, ?_⟩)))⟩
         · dsimp only; rw [hE]; (repeat' (first | exact trivial | exact rfl | (refine ⟨Or.inl rfl, ?_⟩) | (refine ⟨Or.inr rfl, ?_⟩) | (refine ⟨Or.inr trivial, ?_⟩) | (refine ⟨rfl, ?_⟩) | (refine ⟨?_, ?_⟩)))
         · dsimp only; rw [etodo_join, hE]; (repeat' (first | exact trivial | exact rfl | (refine ⟨Or.inl rfl, ?_⟩) | (refine ⟨Or.inr rfl, ?_⟩) | (refine ⟨Or.inr trivial, ?_⟩) | (refine ⟨rfl, ?_⟩) | (refine ⟨?_, ?_⟩))))
      | trace_state
  have hm0 := etodo_nil h0
  subst hm0
  rw [List.append_nil] at hp
  have cv := sortD_ac l hl acc (hperm.trans hp.symm) (by omega)
  have hll : (acc.map dbE).length = ((pairN l).map dbE).length := by rw [List.length_map, List.length_map]; exact (hperm.trans hp.symm).length_eq.symm
  have hl2 : ((pairN l).map dbE).length = (acc.map dbE).length := hll.symm
  have hl3 : acc.length = (acc.map dbE).length := (List.length_map _).symm
  rw [hl3] at cv
  repeat' (first | ((with_reducible refine gRc ?_); first | refine AW_noIt 1000 rfl ?_ | refine AW_freeze [2] (id := 8) ⟨rfl, trivial⟩ rfl hl2 ?_) | ((with_reducible refine gA ?_); (first | refine AW_seq ?_ | refine AW_region ?_ | refine AW_condF rfl ?_ | refine AW_ret ?_ | refine AW_exit ?_)) | ((with_reducible refine gS ?_); refine Es_s (T := Tryz.tab) rfl rfl rfl rfl ?_) | (((with_reducible refine gS ?_); apply Es_xg); rfl; rfl; refine LStep_callHN [(1000, 8)] [] cv rfl rfl ⟨rfl, trivial⟩ rfl ⟨hll, trivial⟩ rfl rfl; rfl) | (with_reducible refine Es_nil ?_) | (with_reducible refine then_n ?_) | (with_reducible refine then_e ?_) | ((with_reducible refine block_e ?_ ?_); rfl) | ((with_reducible refine gR ?_); first | refine ret1 rfl ?_ | refine ret2 rfl rfl ?_ | refine ret0 ?_ | refine end1 rfl ?_ | refine end0 ?_))
  all_goals first
    | exact ⟨rfl, by (repeat' (first | exact trivial | exact rfl | (refine ⟨Or.inl rfl, ?_⟩) | (refine ⟨Or.inr rfl, ?_⟩) | (refine ⟨Or.inr trivial, ?_⟩) | (refine ⟨rfl, ?_⟩) | (refine ⟨?_, ?_⟩)))⟩
    | trace_state
set_option maxRecDepth 10000 in
set_option maxHeartbeats 4000000 in
theorem pairsOk_ac (l : List Db) (hl : l.length ≤ 4096) (h : l.all mayD = true) (hb : ¬ badN l) : AC Tryz.prog 14 [.d (.sl 4 (l.map dbE))] [] [] (fun r _ => r = .tup [.d (.sl 4 ((pairN l).map dbE)), .d (.sc (.int .i64 0))]) := by
  refine AC_enter Tryz.func14 rfl Tryz.ntmps14 (rv := [.tmp 2, .tmp 3]) rfl rfl (by simp) (fun w X G => ?_)
  repeat' (first | ((with_reducible refine gS ?_); refine Es_callExN (ι := List (DK × Int)) (I := fun m => (akeys m).Nodup ∧ (∀ k, aget k m = owA (netI l k)) ∧ m.length ≤ l.length) (hr := fun m => [(18, some (.map 192 2 (emap k3V iV m) none))]) (rv := fun m => .tup [.mp 18, .d (.sc (.int .i64 0))]) (fun m => [(18, some (.map 192 2 (emap k3V iV m) none))]) (fun m => .tup [.mp 18, .d (.sc (.int .i64 0))]) [] [] [(18, 18)] (nettedOk_ac l hl h hb) rfl rfl rfl rfl trivial rfl (fun v _ => rfl) (fun v _ => trivial) rfl (fun v => rfl) (fun v => rfl) (fun m hm => ?_)) | ((with_reducible refine gA ?_); (first | refine AW_seq ?_ | refine AW_region ?_ | (refine AW_cond rfl (fun hc => ?_) (fun hc => ?_) <;> try (exfalso; simp only [cmpL] at hc; omega)) | refine AW_skip ?_)) | ((with_reducible refine gS ?_); refine Es_s (T := Tryz.tab) rfl rfl rfl rfl ?_) | (refine Es_skip rfl ?_ rfl ?_; (first | rfl | (refine w_tf ?_; assumption) | (refine w_ft ?_; assumption))) | (with_reducible refine Es_nil ?_) | (with_reducible refine then_n ?_))
  have cl := list_ac l (may_one h) m hm.1 hm.2.1 (by omega)
  repeat' (first | ((with_reducible refine gA ?_); refine AW_ret ?_) | ((with_reducible refine gS ?_); refine Es_s (T := Tryz.tab) rfl rfl rfl rfl ?_) | (((with_reducible refine gS ?_); apply Es_xg); rfl; rfl; refine LStep_callHN [(1000, 18)] [] cl rfl rfl ⟨rfl, trivial⟩ rfl ⟨trivial, trivial⟩ rfl rfl; rfl) | (with_reducible refine Es_nil ?_) | (with_reducible refine then_n ?_) | ((with_reducible refine gR ?_); first | refine ret1 rfl ?_ | refine ret2 rfl rfl ?_ | refine ret0 ?_ | refine end1 rfl ?_ | refine end0 ?_))
  all_goals first
    | rfl
    | trace_state
end Go.Proofs.YtofdnkgieigncaaGreat
namespace Go.Proofs.YtofdnkgieigncaaGreat
open Go.SL
/-! ### the document's Pairs -/
theorem net_grid {l : List Db} (hl : ∀ d ∈ l, 1 ≤ d.2) (h : ∀ c ∈ curN l, ∀ p ∈ parN l, ∀ q ∈ parN l, netI l (c, p, q) ≤ 1099511627776) : ¬ badN l := fun ⟨k, hk⟩ => by
  have h0 := ow_nn hl (bk k)
  have hne : ow l k ≠ 0 := by unfold netI at hk; omega
  obtain ⟨a, b, c⟩ := ow_pos_dom hne
  have := h k.1 a k.2.1 b k.2.2 c
  have e : netI l (k.1, k.2.1, k.2.2) = netI l k := rfl
  omega
end Go.Proofs.YtofdnkgieigncaaGreat
