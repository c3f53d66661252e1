import Derived.Test.YtjlblnplofgpnaaGreatDoorDN
namespace Go.Proofs.YtjlblnplofgpnaaGreatDoor
open Go.SL
/-! ### the document's plan: plain -/
/-! #### texts that rise -/
end Go.Proofs.YtjlblnplofgpnaaGreatDoor
namespace Go.Proofs.YtjlblnplofgpnaaGreatDoor
open Go.SL
/-! ### what stays behind a port: plain -/
def keepB (port : Int) (x : Load) : Bool := decide (port < x.p)
def lowB (port : Int) (x y : Load) : Bool := inSt x.sl.b x.sl.r y && (decide (y.sl.t < x.sl.t) && keepB port y)
/-- how many of those that stay stand below -/
def newT (L : List Load) (port : Int) (x : Load) : Int := ((L.filter (lowB port x)).length : Nat)
def sink (L : List Load) (port : Int) (x : Load) : Load := atL x ⟨x.sl.b, x.sl.r, newT L port x⟩
def leftL (L : List Load) (port : Int) : List Load := ((lsort L).filter (keepB port)).map (sink L port)
theorem mem_left {S : Ship} {L : List Load} (hv : Inv S L) {port : Int} {y : Load} : y ∈ leftL L port ↔ ∃ x ∈ L, port < x.p ∧ y = sink L port x := by
  unfold leftL
  rw [List.mem_map]
  constructor
  · rintro ⟨x, hx, rfl⟩
    obtain ⟨h1, h2⟩ := List.mem_filter.1 hx
    exact ⟨x, (lsort_perm hv.nS).mem_iff.1 h1, by simpa [keepB] using h2, rfl⟩
  · rintro ⟨x, hx, hp, rfl⟩
    exact ⟨x, List.mem_filter.2 ⟨(lsort_perm hv.nS).mem_iff.2 hx, by simpa [keepB] using hp⟩, rfl⟩
end Go.Proofs.YtjlblnplofgpnaaGreatDoor
namespace Go.Proofs.YtjlblnplofgpnaaGreatDoor
open Go.SL
/-! ### what is planned comes off without a lift: plain -/
/-- in each stack ports fall -/
def Falls (L : List Load) : Prop := ∀ x ∈ L, ∀ y ∈ L, y.sl.b = x.sl.b → y.sl.r = x.sl.r → y.sl.t < x.sl.t → x.p ≤ y.p
/-! #### a plan hangs on no order, no slots -/
theorem inj_of_nodup {l : List Load} (hn : (l.map (·.box)).Nodup) : ∀ x ∈ l, ∀ y ∈ l, x.box = y.box → x = y := by
  intro x hx y hy e
  have h1 := (byB_some hn).2 ⟨hx, rfl⟩
  have h2 := (byB_some hn (n := x.box)).2 ⟨hy, e.symm⟩
  rw [h1] at h2
  exact Option.some.inj h2
end Go.Proofs.YtjlblnplofgpnaaGreatDoor
namespace Go.Proofs.YtjlblnplofgpnaaGreatDoor
open Go.SL
/-! ### a ship that is turned round: plain -/
section
variable {S : Ship} {e s : Bool}
theorem rightE_iff {l : List Load} : rightE S l = 0 ↔ (shipOk S = true ∧ Inv2 S l) ∧ safeE S l = 0 := by
  unfold rightE
  rw [← standE_iff]
  split
  · rename_i h; simp [h]
  · rename_i h; simp [h]
end
end Go.Proofs.YtjlblnplofgpnaaGreatDoor
namespace Go.Proofs.YtjlblnplofgpnaaGreatDoor
open Go.SL
/-! ### the checker's order: plain -/
end Go.Proofs.YtjlblnplofgpnaaGreatDoor
