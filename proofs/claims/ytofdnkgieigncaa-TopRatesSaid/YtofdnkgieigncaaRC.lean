import Derived.Test.YtofdnkgieigncaaRB
import Derived.Test.YtofdnkgieigncaaTn
import Derived.Test.YtofdnkgieigncaaTa
namespace Go.Proofs.Ytofdnkgieigncaa
open Go.SL
/-! ### rates: keys, values -/
def r3V (k : RK) : Value := .agg [.string k.1, .string k.2.1, .int .i64 k.2.2].toArray
def rtV (x : Int × Int) : AV := .agg [.d (.sc (.int .i64 x.1)), .d (.sc (.int .i64 x.2))]
def dtV (x : Dt) : AV := .agg [.d (.sc (.int .i64 x.1)), .d (.sc (.int .i64 x.2.1)), .d (.sc (.int .i64 x.2.2))]
theorem r3V_keq (a b : RK) : keq (r3V a) (r3V b) = decide (b = a) := by
  show (eqs a.1 b.1 && (eqs a.2.1 b.2.1 && (eqb a.2.2 b.2.2 && true))) = _
  rw [Bool.eq_iff_iff]
  simp only [Bool.and_eq_true, Bool.and_true, eqs_t, eqb_t, decide_eq_true_eq]
  constructor
  · rintro ⟨h1, h2, h3⟩; exact Prod.ext h1.symm (Prod.ext h2.symm h3.symm)
  · rintro rfl; exact ⟨rfl, rfl, rfl⟩
theorem r3V_inj (a b : RK) (h : r3V a = r3V b) : a = b := by
  unfold r3V at h
  injection h with h
  have h' := congrArg Array.toList h
  simp at h'
  exact Prod.ext h'.1 (Prod.ext h'.2.1 h'.2.2)
theorem r3_rep (k : RK) : ∀ w X G, Rep w X G (.agg [.d (.sc (.string k.1)), .d (.sc (.string k.2.1)), .d (.sc (.int .i64 k.2.2))]) (r3V k) := fun w X G => by
  refine .agg _ _ rfl (fun i c v hc hv => ?_) (fun i v hv => ?_)
  · match i, hc, hv with
    | 0, hc, hv => cases hc; cases hv; exact .d _ _ (.sc _ rfl)
    | 1, hc, hv => cases hc; cases hv; exact .d _ _ (.sc _ rfl)
    | 2, hc, hv => cases hc; cases hv; exact .d _ _ (.sc _ rfl)
  · match i, hv with
    | 0, hv => cases hv; rfl
    | 1, hv => cases hv; rfl
    | 2, hv => cases hv; rfl
theorem s_rep (k : ByteArray) : ∀ w X G, Rep w X G (.d (.sc (.string k))) (sV k) := fun _ _ _ => .d _ _ (.sc _ rfl)
theorem keyR3 : Try.tab.keyD 66 = some (.st [.string, .string, .int .i64]) := by kernel_rfl
theorem keyP2 : Try.tab.keyD 119 = some (.st [.string, .string]) := by kernel_rfl
theorem r3_keys {α : Type} {cv : α → AV} (l : List (RK × α)) : ∀ p ∈ emap r3V cv l, keyB (.st [.string, .string, .int .i64]) p.1 = true := emap_keys (q := fun v => keyB (.st [.string, .string, .int .i64]) v = true) (fun _ => rfl)
theorem p2_keys {α : Type} {cv : α → AV} (l : List (K2 × α)) : ∀ p ∈ emap k2V cv l, keyB (.st [.string, .string]) p.1 = true := emap_keys (q := fun v => keyB (.st [.string, .string]) v = true) (fun _ => rfl)
theorem st_keys {α : Type} {cv : α → AV} (l : List (ByteArray × α)) : ∀ p ∈ emap sV cv l, keyB .string p.1 = true := emap_keys (q := fun v => keyB .string v = true) (fun _ => rfl)
theorem mget_some {κ α : Type} [DecidableEq κ] {kv : κ → Value} {cv : α → AV} (hq : ∀ a b : κ, keq (kv a) (kv b) = decide (b = a)) {k : κ} {l : List (κ × α)} {a : α} (h : aget k l = some a) : mfind (kv k) (emap kv cv l) = some (cv a) := by rw [mfind_emap hq, h]; rfl
theorem mget_no {κ α : Type} [DecidableEq κ] {kv : κ → Value} {cv : α → AV} (hq : ∀ a b : κ, keq (kv a) (kv b) = decide (b = a)) {k : κ} {l : List (κ × α)} (h : aget k l = none) : mfind (kv k) (emap kv cv l) = none := by rw [mfind_emap hq, h]; rfl
theorem lstep_makeMapR {P : Program} {O : Org} {T : Tab P} {o : Oper} {env : Env} {h : Hp} {t kt et id : Nat} (ho : o.op = .makeMap t none) (_hT : T.desc t = some (.map kt et)) (hd : o.dst = some id) (hn : dstOk (some id) O.nt = true) (hi : O.ids.contains id = false) :
    LStep P O o env h [] [id] (.mp id) [(id, some (.map kt et [] none))] := LStep_makeMap ho hd hn hi
/-- rates in memory -/
def hR (l : List RP) : Hp := [(1000, some (.cells [.mp 1001])), (1001, some (.map 66 30 (emap r3V rtV l) none))]
end Go.Proofs.Ytofdnkgieigncaa
