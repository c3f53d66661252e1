/- The layer 'SL': strings.Builder's copyCheck, strconv.FormatInt: contracts of the shelf, as contracts of the layer. -/
import Derived.Test.YtglkilmflohfoaaDoorTv
import Derived.Sort.Grow
import Derived.Lib.Builder
import Derived.Shelf.Strconv.Itoa4
namespace Go.SL
open Go.RowKit Go.Proofs Go.Shelf
/-- a builder, and its row of bytes -/
def hBd (T e : Nat) (s : ByteArray) : Hp := [(1000, some (.tcl T [.any, .own 1001 s.size])), (1001, some (.arr e 1 (bE s)))]
section
variable {P : Program} {ρ : Ren}
theorem setCell_two {w : World} {b ty : Nat} {p q v : Value} (hb : w.heap[b]? = some (.cells #[p, q] ty (0, 0))) : (w.setCell ⟨b, 0, none⟩ v).heap[b]? = some (.cells #[v, q] ty (0, 0)) := by
  simp [World.setCell, Array.getElem?_modify, hb]
theorem copyCheck_ac {f B : Nat} (hf : Callable P f)
    (hu : ∀ (b : Nat) (w : World), w.cell? ⟨b, 0, none⟩ = some (.pointer (some ⟨b, 0, none⟩)) → Calls P f #[.pointer (some ⟨b, 0, none⟩)] w fun e w' => e = .returned (.tuple #[]) ∧ w' = w)
    (hn : ∀ (b : Nat) (w : World), w.cell? ⟨b, 0, none⟩ = some (.pointer none) → w.shape? b = some (B, 2) → w.frozen? ⟨b, 0, none⟩ = false → Calls P f #[.pointer (some ⟨b, 0, none⟩)] w fun e w' => e = .returned (.tuple #[]) ∧ w' = w.setCell ⟨b, 0, none⟩ (.pointer (some ⟨b, 0, none⟩))) (e : Nat) (s : ByteArray) : AC P f [.ptr 1000 0] (hBd B e s) [1000, 1001] (fun r h' => r = .tup [] ∧ SubH (hBd B e s) h') := by
  refine ⟨hf, fun w Y G vs r hl hv => ?_⟩
  match vs, hl with
  | [v], _ =>
    have h1 := hv 0 _ v rfl rfl
    have hh : hget (hBd B e s) 1000 = some (.tcl B [.any, .own 1001 s.size]) := rfl
    obtain ⟨b, arr, e1, e2, e3, e4, e5⟩ := r.obj 1000 _ hh
    cases h1 with
    | ptr _ _ b' hb =>
      obtain rfl : b = b' := by rw [e1] at hb; injection hb with hb; injection hb with hb; injection hb
      obtain ⟨p, q, rfl⟩ : ∃ p q, arr = #[p, q] := by
        obtain ⟨l⟩ := arr
        match l, e3 with
        | [p, q], _ => exact ⟨p, q, rfl⟩
      have c0 : w.cell? ⟨b, 0, none⟩ = some p := by rw [cell_of_row w b 0 _ _ (0, 0) e2]; rfl
      have nil : ∀ w' G', Rep w' (XX (org w Y (hBd B e s) G [1000, 1001] 0) (hBd B e s) G') G' (.tup []) (.tuple #[]) := fun w' G' => .tup [] #[] rfl (fun i c v hc _ => by simp at hc)
      rcases e5 with e5 | e5
      · have e5 : p = .pointer none := by simpa using e5
        subst e5
        refine (hn b w c0 (by simp [World.shape?, e2]) (Lib.frozen_of_heap e2 0)).mono ?_
        rintro ex w' ⟨rfl, rfl⟩
        have hext := Ext.setCell w ⟨b, 0, none⟩ (.pointer (some ⟨b, 0, none⟩))
        have hown : XX (org w Y (hBd B e s) G [1000, 1001] 0) (hBd B e s) G b := .inr ⟨1000, _, hh, 1000, List.mem_cons_self, by rw [e1]; rfl⟩
        have hX : ∀ c, c < w.heap.size → XX (org w Y (hBd B e s) G [1000, 1001] 0) ((1000, some (.tcl B [.any, .own 1001 s.size])) :: hBd B e s) G c → XX (org w Y (hBd B e s) G [1000, 1001] 0) (hBd B e s) G c := fun c _ hc => Rel.turnX (o' := .tcl B [.any, .own 1001 s.size]) hh rfl hc
        have r' := r.turn (o' := .tcl B [.any, .own 1001 s.size]) hh hext (fun c _ hc => ⟨1000, List.mem_cons_self, by subst hc; rw [e1]; rfl⟩) (GStep.refl G) (fun _ _ => ⟨rfl, rfl⟩) (fun _ => rfl) rfl (fun _ h _ => h)
          ⟨b, _, e1, setCell_two e2, rfl, fun i c u hi hu => by
            match i with
            | 0 =>
              simp at hi hu; subst hi; subst hu
              exact ⟨.any _, rfl⟩
            | 1 =>
              simp only [List.getElem?_cons_succ, List.getElem?_cons_zero, Option.some.injEq] at hi
              have hu' : q = u := by simpa using hu
              subst hi; subst hu'
              have := e4 1 _ q rfl rfl
              exact ⟨this.1.ext hext (fun c _ hc => by subst hc; exact hown) hX (GStep.refl G), this.2⟩
            | i + 2 => simp at hi, .inr rfl⟩ (fun _ h => .inr h) (by simp [names])
        exact ⟨_, .tup [], _, G, rfl, r', .tup [] #[] rfl (fun i c v hc _ => by simp at hc), rfl, ⟨rfl, rfl, trivial⟩⟩
      · have e5 : p = .pointer (some ⟨b, 0, none⟩) := by simpa using e5
        subst e5
        refine (hu b w c0).mono ?_
        rintro ex w' ⟨rfl, rfl⟩
        exact ⟨_, .tup [], _, G, rfl, r, nil _ G, rfl, ⟨rfl, rfl, trivial⟩⟩
theorem grow_ext (w : World) (k : Nat) (os : Array Obj) : Ext (fun _ => False) w (Sort.grow (w.drewN k) os) := by
  refine ⟨rfl, rfl, rfl, by simp, fun i hi _ => ?_, Nat.le_add_right _ _⟩
  rw [Sort.heap_grow_old _ _ (by simpa using hi)]
  rfl
theorem fmt_ac (L : LaysM.n173 P ρ) (hf : Callable P (ρ.f 173)) (b0 ty : Nat) (arr : Array Value) (hT : ∀ w : World, w.heap[b0]? = some (.cells arr ty (0, 0)) → Lib.TabIs P w "internal/strconv.uint64pow10" .u64 Lib.pow10Tab) (n : Int) (h0 : -9223372036854775808 ≤ n) (h1 : n ≤ 9223372036854775807) :
    AC P (ρ.f 173) [.d (.sc (.int .i64 n)), .d (.sc (.int .i64 10))] [(9000, some (.raw b0 (.cells arr ty (0, 0))))] [9000] (fun r h' => r = .d (.sc (.string ⟨(Lib.itoa n).toArray⟩)) ∧ SubH [(9000, some (.raw b0 (.cells arr ty (0, 0))))] h') := by
  refine ⟨hf, fun w Y G vs r hl hv => ?_⟩
  match vs, hl with
  | [u, v], _ =>
    obtain rfl := (hv 0 _ u rfl rfl).sc_inv
    obtain rfl := (hv 1 _ v rfl rfl).sc_inv
    have hr := r.obj 9000 (.raw b0 (.cells arr ty (0, 0))) rfl
    refine (Any.strconv_FormatInt_10 L n h0 h1 w (hT w hr.2)).mono ?_
    rintro ex w' ⟨rfl, k, os, rfl⟩
    exact ⟨_, .d (.sc (.string ⟨(Lib.itoa n).toArray⟩)), _, G, rfl, r.keep (grow_ext w k os), .d _ _ (.sc _ rfl), rfl, ⟨rfl, trivial⟩⟩
theorem itoa_ac (L : LaysM.n171 P ρ) (hf : Callable P (ρ.f 171)) (b0 ty : Nat) (arr : Array Value) (hT : ∀ w : World, w.heap[b0]? = some (.cells arr ty (0, 0)) → Lib.TabIs P w "internal/strconv.uint64pow10" .u64 Lib.pow10Tab) (n : Int) (h0 : -9223372036854775808 ≤ n) (h1 : n ≤ 9223372036854775807) :
    AC P (ρ.f 171) [.d (.sc (.int .i64 n))] [(9000, some (.raw b0 (.cells arr ty (0, 0))))] [9000] (fun r h' => r = .d (.sc (.string ⟨(Lib.itoa n).toArray⟩)) ∧ SubH [(9000, some (.raw b0 (.cells arr ty (0, 0))))] h') := by
  refine ⟨hf, fun w Y G vs r hl hv => ?_⟩
  match vs, hl with
  | [u], _ =>
    obtain rfl := (hv 0 _ u rfl rfl).sc_inv
    have hr := r.obj 9000 (.raw b0 (.cells arr ty (0, 0))) rfl
    refine (Any.strconv_Itoa L n h0 h1 w (hT w hr.2)).mono ?_
    rintro ex w' ⟨rfl, k, os, rfl⟩
    exact ⟨_, .d (.sc (.string ⟨(Lib.itoa n).toArray⟩)), _, G, rfl, r.keep (grow_ext w k os), .d _ _ (.sc _ rfl), rfl, ⟨rfl, trivial⟩⟩
end
end Go.SL
