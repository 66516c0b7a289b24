/- The small machine AM: from a law's arguments to its run, and back to the row's frame. -/
import Derived.Test.YtanibbphkeaeeaaAmW
import Derived.Below
namespace Go.AM
open Go.RowKit

/-- a row of cells that came in: the block, the place in it, what the cells hold -/
structure InRow where
  blk : Nat
  off : Nat
  cells : List Value

def rowSize (w : World) (b : Nat) : Nat := match w.heap[b]? with | some (.cells c _ _) => c.size | _ => 0

def rowBlk (r : InRow) : Option Blk := match r.cells with | [] => none | _ => some { size := r.cells.length, esz := 0, ro := true, cells := T.ofList r.cells }

def argBlks : List InRow → Nat → T Blk → T Blk
  | [], _, t => t
  | r :: l, i, t => argBlks l (i + 1) (T.put (i + 1) t i (rowBlk r))

def argHeap (l : List InRow) : Heap := { next := l.length, blks := argBlks l 0 .leaf }
def argInj (w : World) (l : List InRow) : Inj := fun i => (l[i]?).map fun r => ⟨r.blk, r.off, rowSize w r.blk, 0⟩

theorem argBlks_get : ∀ (l : List InRow) (i : Nat) (t : T Blk) (k : Nat), (argBlks l i t).get k = if i ≤ k ∧ k < i + l.length then (l[k - i]?).bind rowBlk else t.get k
  | [], i, t, k => by rw [if_neg (by simp only [List.length_nil]; omega)]; rfl
  | r :: l, i, t, k => by
    rw [argBlks, argBlks_get l (i + 1)]
    simp only [List.length_cons]
    have hput : (T.put (i + 1) t i (rowBlk r)).get k = if k = i then rowBlk r else t.get k := T.get_put _ t i k _ (Nat.lt_succ_self i)
    by_cases h1 : i + 1 ≤ k ∧ k < i + 1 + l.length
    · rw [if_pos h1, if_pos (by omega)]
      have : k - i = (k - (i + 1)) + 1 := by omega
      rw [this, List.getElem?_cons_succ]
    · rw [if_neg h1]
      show (T.put (i + 1) t i (rowBlk r)).get k = _
      rw [hput]
      by_cases h2 : k = i
      · subst h2
        rw [if_pos rfl, if_pos (by omega)]
        simp
      · rw [if_neg h2, if_neg (by omega)]

theorem argHeap_get {l : List InRow} {k : Nat} {r : InRow} (hk : l[k]? = some r) (hne : r.cells ≠ []) :
    (argHeap l).blks.get k = some { size := r.cells.length, esz := 0, ro := true, cells := T.ofList r.cells } := by
  have hlt : k < l.length := (List.getElem?_eq_some_iff.1 hk).1
  unfold argHeap
  rw [argBlks_get, if_pos (by omega), Nat.sub_zero, hk]
  unfold rowBlk
  simp only [Option.bind_some]

theorem argHeap_some {l : List InRow} {k : Nat} {B : Blk} (h : (argHeap l).blks.get k = some B) :
    ∃ r, l[k]? = some r ∧ r.cells ≠ [] ∧ B = { size := r.cells.length, esz := 0, ro := true, cells := T.ofList r.cells } := by
  unfold argHeap at h
  rw [argBlks_get] at h
  split at h
  · rename_i hlt
    have hlt : k < l.length := by omega
    rw [Nat.sub_zero, List.getElem?_eq_getElem hlt] at h
    unfold rowBlk at h
    simp only [Option.bind_some] at h
    cases hc : (l[k]).cells with
    | nil => rw [hc] at h; cases h
    | cons a b =>
      rw [hc] at h
      simp only [Option.some.injEq] at h
      exact ⟨l[k], List.getElem?_eq_getElem hlt, by rw [hc]; simp, by rw [hc]; exact h.symm⟩
  · cases h

theorem args_mem {w : World} {l : List InRow} (hcells : ∀ (k : Nat) (r : InRow), l[k]? = some r → ∀ (j : Nat) (v : Value), r.cells[j]? = some v → scalar v = true ∧ w.cell? ⟨r.blk, r.off + j, none⟩ = some v) :
    R (argInj w l) (argHeap l) w := by
  refine ⟨?_, ?_, ?_⟩
  · intro b m h
    unfold argInj at h
    cases hb : l[b]? with
    | none => rw [hb] at h; cases h
    | some r => exact (List.getElem?_eq_some_iff.1 hb).1
  · intro b m B h1 h2
    obtain ⟨r, h3, h4, rfl⟩ := argHeap_some h2
    unfold argInj at h1
    rw [h3] at h1
    simp only [Option.map_some, Option.some.injEq] at h1
    subst h1
    have hlen : 0 < r.cells.length := List.length_pos_iff.2 h4
    have hfirst := (hcells b r h3 0 _ (List.getElem?_eq_getElem hlen)).2
    have hlast := (hcells b r h3 (r.cells.length - 1) _ (List.getElem?_eq_getElem (by omega))).2
    simp only [World.cell?] at hfirst
    split at hfirst
    · rename_i c e fr hc
      obtain ⟨lo, hi⟩ := fr
      have hsz : rowSize w r.blk = c.size := by simp only [rowSize, hc]
      have hcell : ∀ (j : Nat) (v : Value), r.cells[j]? = some v → c[r.off + j]? = some v := by
        intro j v hv
        have := (hcells b r h3 j v hv).2
        simpa [World.cell?, hc] using this
      have hb := (Array.getElem?_eq_some_iff.1 (hcell (r.cells.length - 1) _ (List.getElem?_eq_getElem (by omega)))).1
      refine ⟨by simp only [hsz]; omega, rfl, c, e, lo, hi, hc, hsz.symm, fun h => absurd h (by simp), fun i hi => ?_⟩
      have hv := List.getElem?_eq_getElem hi
      exact ⟨_, _, by simp only; rw [T.get_ofList]; exact hv, hcell i _ hv, .scalar (hcells b r h3 i _ hv).1⟩
    · cases hfirst
  · intro b1 b2 m1 m2 B1 B2 _ _ h3 _ h5
    obtain ⟨r, _, _, rfl⟩ := argHeap_some h3
    cases h5

theorem below_of {w w' : World} {l : List InRow} {ι' : Inj} {h' : Heap} (x : Ext (argInj w l) (argHeap l) w ι' h' w') : Below w.heap.size w w' := by
  have hk : ∀ k, k < w.heap.size → w'.heap[k]? = w.heap[k]? := fun k hk => x.keep k hk fun b m B _ h2 h3 => by
    obtain ⟨r, _, _, rfl⟩ := argHeap_some h2
    cases h3
  exact ⟨x.os, x.tape, x.output, x.size, hk⟩

/-- A LAW: what its run comes to, the row's call comes to -/
theorem law_ok {E : Env} (hE : E.OK) (hgl : E.gl = 0) {w : World} {l : List InRow} {f : Nat} {args : List Value} {args' : Array Value}
    (hcells : ∀ (k : Nat) (r : InRow), l[k]? = some r → ∀ (j : Nat) (v : Value), r.cells[j]? = some v → scalar v = true ∧ w.cell? ⟨r.blk, r.off + j, none⟩ = some v)
    (hl : LR (argInj w l) args args'.toList) (hw : WCall E f args (argHeap l) fun v _ => v = .bool true) :
    Calls E.P f args' w fun e w' => e = .returned (.bool true) ∧ Below w.heap.size w w' := by
  obtain ⟨n, v, h', hr, rfl⟩ := hw
  refine (run_ok hE hr (args_mem hcells) (fun g hg => by omega) hl).mono ?_
  rintro e w' ⟨ι', v', rfl, x, _, hv⟩
  have := hv.of_scalar rfl
  subst this
  exact ⟨rfl, below_of x⟩

/-- a slice that came in -/
theorem arg_slice {w : World} {l : List InRow} {k : Nat} {r : InRow} (hk : l[k]? = some r) {len cap : Nat} (hle : len ≤ cap) :
    VR (argInj w l) (.slice (some ⟨k, 0, none⟩) len len) (.slice (some ⟨r.blk, r.off, none⟩) len cap) :=
  VR.slice (m := ⟨r.blk, r.off, rowSize w r.blk, 0⟩) (by unfold argInj; rw [hk]; rfl) (Nat.le_refl _) hle (.inr rfl) (.inl rfl)
end Go.AM
