/- A slice of integers that came in, as the small machine takes it. -/
import Derived.Test.YtanibbphkeaeeaaAmMem
import Derived.WideShapes
namespace Go.AM
open Go.RowKit

theorem okWide_spot {P : Program} {w : World} {r : Reach} {base t e : Nat} {a : Addr} {len cap : Nat} (ht : P.underlying t = some (.slice e)) (h : Value.okWide P w r base t (.slice (some a) len cap)) : a.spot = none := by
  simp only [Value.okWide, ht, Cell.okWide, Cell.ok, World.has] at h
  exact h.2.2.2.1

/-- a slice of integers that came in: nil; or a row of cells -/
def IsInts (k : IntKind) (w : World) (a : Option Addr) (len cap : Nat) (zs : List Int) : Prop :=
  (a = none ∧ len = 0 ∧ cap = 0 ∧ zs = []) ∨
  ∃ x, a = some x ∧ x.spot = none ∧ len ≤ cap ∧ zs.length = len ∧ (∀ i, i < zs.length → w.cell? (x.add i) = some (.int k (zs.getD i 0))) ∧ ∀ n ∈ zs, (Lit.int k n).wf = true

/-- what the small machine is handed for it -/
structure ArgOk (w : World) (k : Nat) (a : Option Addr) (len cap : Nat) (X : Option Addr) (r : InRow) (l : List Value) : Prop where
  hrow : X = none ∧ l = [] ∨ X = some ⟨k, 0, none⟩ ∧ r.cells = l
  hlen : l.length = len
  cells : ∀ (j : Nat) (v : Value), r.cells[j]? = some v → scalar v = true ∧ w.cell? ⟨r.blk, r.off + j, none⟩ = some v
  rel : ∀ L : List InRow, L[k]? = some r → VR (argInj w L) (.slice X len len) (.slice a len cap)

theorem isInts_arg {kd : IntKind} {w : World} {a : Option Addr} {len cap : Nat} {zs : List Int} (h : IsInts kd w a len cap zs) (k : Nat) : ∃ X r, ArgOk w k a len cap X r (zs.map (Value.int kd)) := by
  rcases h with ⟨rfl, rfl, rfl, rfl⟩ | ⟨x, rfl, hs, hle, rfl, hc, _⟩
  · exact ⟨none, ⟨0, 0, []⟩, .inl ⟨rfl, rfl⟩, rfl, fun j v hv => by simp at hv, fun L _ => .scalar rfl⟩
  · obtain ⟨xb, xo, xs⟩ := x
    simp only at hs
    subst hs
    refine ⟨some ⟨k, 0, none⟩, ⟨xb, xo, zs.map (Value.int kd)⟩, .inr ⟨rfl, rfl⟩, by simp, fun j v hv => ?_, fun L hL => arg_slice hL hle⟩
    simp only [List.getElem?_map] at hv
    cases hz : zs[j]? with
    | none => rw [hz] at hv; cases hv
    | some n =>
      rw [hz] at hv
      simp only [Option.map_some, Option.some.injEq] at hv
      subst hv
      have hj := (List.getElem?_eq_some_iff.1 hz).1
      have := hc j hj
      have e : zs.getD j 0 = n := by simp [hz]
      rw [e] at this
      refine ⟨rfl, ?_⟩
      have ha : Addr.add ⟨xb, xo, none⟩ j = ⟨xb, xo + j, none⟩ := Addr.add_lit xb xo j
      rw [ha] at this
      exact this
end Go.AM
