/- The small machine AM: how its memory stands to the model's: values, blocks, what a step keeps. -/
import Derived.Test.YtanibbphkeaeeaaAmT
import Derived.Laws.World
import Derived.Laws.Sem
import Derived.Laws.Cells
namespace Go.AM

structure Img where
  blk : Nat
  base : Nat
  n : Nat
  esz : Nat

abbrev Inj := Nat → Option Img

def Inj.le (ι ι' : Inj) : Prop := ∀ b m, ι b = some m → ι' b = some m

inductive VR (ι : Inj) : Value → Value → Prop
  | scalar {v : Value} (h : scalar v = true) : VR ι v v
  | junk {v : Value} : VR ι (.chan none) v
  | ptr {b o : Nat} {m : Img} (h : ι b = some m) : VR ι (.pointer (some ⟨b, o, none⟩)) (.pointer (some ⟨m.blk, m.base + o, none⟩))
  | slice {b o o' len cap cap' : Nat} {m : Img} (h : ι b = some m) (hl : len ≤ cap) (hc : cap ≤ cap') (ho : cap = 0 ∨ o' = m.base + o)
      (ht : m.esz = 0 ∨ (m.base ≤ o' ∧ o' + cap' * m.esz ≤ m.n)) :
      VR ι (.slice (some ⟨b, o, none⟩) len cap) (.slice (some ⟨m.blk, o', none⟩) len cap')
  | func {f : Fn} {a a' c c' : List Value} (ha : a.length = a'.length) (ha' : ∀ (i : Nat) (v v' : Value), a[i]? = some v → a'[i]? = some v' → VR ι v v')
      (hc : c.length = c'.length) (hc' : ∀ (i : Nat) (v v' : Value), c[i]? = some v → c'[i]? = some v' → VR ι v v') :
      VR ι (.func f a.toArray c.toArray) (.func f a'.toArray c'.toArray)
  | iface {t : TypeId} {v v' : Value} (h : VR ι v v') : VR ι (.iface t v) (.iface t v')
  | agg {a a' : List Value} (ha : a.length = a'.length) (ha' : ∀ (i : Nat) (v v' : Value), a[i]? = some v → a'[i]? = some v' → VR ι v v') :
      VR ι (.agg a.toArray) (.agg a'.toArray)
  | tuple {a a' : List Value} (ha : a.length = a'.length) (ha' : ∀ (i : Nat) (v v' : Value), a[i]? = some v → a'[i]? = some v' → VR ι v v') :
      VR ι (.tuple a.toArray) (.tuple a'.toArray)

def LR (ι : Inj) (l l' : List Value) : Prop := l.length = l'.length ∧ ∀ (i : Nat) (v v' : Value), l[i]? = some v → l'[i]? = some v' → VR ι v v'

theorem Inj.le_refl (ι : Inj) : ι.le ι := fun _ _ h => h
theorem Inj.le_trans {a b c : Inj} (h : a.le b) (h' : b.le c) : a.le c := fun x m e => h' x m (h x m e)

theorem VR.mono {ι ι' : Inj} (hi : ι.le ι') {v v' : Value} (h : VR ι v v') : VR ι' v v' := by
  induction h with
  | scalar h => exact .scalar h
  | junk => exact .junk
  | ptr h => exact .ptr (hi _ _ h)
  | slice h hl hc ho ht => exact .slice (hi _ _ h) hl hc ho ht
  | func ha _ hc _ ih1 ih2 => exact .func ha (fun i v v' h h' => ih1 i v v' h h') hc (fun i v v' h h' => ih2 i v v' h h')
  | iface _ ih => exact .iface ih
  | agg ha _ ih => exact .agg ha fun i v v' h h' => ih i v v' h h'
  | tuple ha _ ih => exact .tuple ha fun i v v' h h' => ih i v v' h h'

theorem LR.mono {ι ι' : Inj} (hi : ι.le ι') {l l' : List Value} (h : LR ι l l') : LR ι' l l' := ⟨h.1, fun i v v' a b => (h.2 i v v' a b).mono hi⟩

theorem LR.nil {ι : Inj} : LR ι [] [] := ⟨rfl, fun i v v' h => by simp at h⟩
theorem LR.cons {ι : Inj} {v v' : Value} {l l' : List Value} (h : VR ι v v') (hl : LR ι l l') : LR ι (v :: l) (v' :: l') := by
  refine ⟨by simp [hl.1], ?_⟩
  intro i x x' hx hx'
  cases i with
  | zero => simp at hx hx'; subst hx; subst hx'; exact h
  | succ i => simp at hx hx'; exact hl.2 i _ _ hx hx'
theorem LR.head {ι : Inj} {v v' : Value} {l l' : List Value} (h : LR ι (v :: l) (v' :: l')) : VR ι v v' := h.2 0 _ _ (by simp) (by simp)
theorem LR.tail {ι : Inj} {v v' : Value} {l l' : List Value} (h : LR ι (v :: l) (v' :: l')) : LR ι l l' :=
  ⟨by simpa using h.1, fun i x x' a b => h.2 (i + 1) x x' (by simpa using a) (by simpa using b)⟩
theorem LR.get {ι : Inj} {l l' : List Value} (h : LR ι l l') {i : Nat} {v : Value} (hv : l[i]? = some v) : ∃ v', l'[i]? = some v' ∧ VR ι v v' := by
  have hlt : i < l.length := (List.getElem?_eq_some_iff.1 hv).1
  have hlt' : i < l'.length := h.1 ▸ hlt
  exact ⟨l'[i], List.getElem?_eq_getElem hlt', h.2 i _ _ hv (List.getElem?_eq_getElem hlt')⟩
theorem LR.append {ι : Inj} {a a' b b' : List Value} (h : LR ι a a') (h' : LR ι b b') : LR ι (a ++ b) (a' ++ b') := by
  induction a generalizing a' with
  | nil => cases a' with
    | nil => simpa using h'
    | cons x l => exact absurd h.1 (by simp)
  | cons x l ih => cases a' with
    | nil => exact absurd h.1 (by simp)
    | cons y l' => exact LR.cons h.head (ih h.tail)
theorem LR.drop {ι : Inj} {a a' : List Value} (h : LR ι a a') (n : Nat) : LR ι (a.drop n) (a'.drop n) :=
  ⟨by simp [h.1], fun i v v' x y => h.2 (n + i) v v' (by simpa using x) (by simpa using y)⟩
theorem LR.take {ι : Inj} {a a' : List Value} (h : LR ι a a') (n : Nat) : LR ι (a.take n) (a'.take n) := by
  refine ⟨by simp [h.1], fun i v v' x y => ?_⟩
  by_cases hi : i < n
  · rw [List.getElem?_take_of_lt hi] at x y; exact h.2 i v v' x y
  · rw [List.getElem?_take_eq_none (by omega)] at x; cases x

/-- values without an address are their own images -/
theorem VR.of_scalar {ι : Inj} {v v' : Value} (hs : AM.scalar v = true) (h : VR ι v v') : v' = v := by
  cases h <;> first
    | rfl
    | (simp [AM.scalar] at hs; done)

theorem LR.of_scalar {ι : Inj} : ∀ {l l' : List Value}, allS l = true → LR ι l l' → l' = l
  | [], [], _, _ => rfl
  | [], _ :: _, _, h => absurd h.1 (by simp)
  | _ :: _, [], _, h => absurd h.1 (by simp)
  | v :: l, v' :: l', hs, h => by
    have hv : scalar v = true := by
      cases e : scalar v with
      | true => rfl
      | false => simp [allS, e] at hs
    rw [h.head.of_scalar hv, LR.of_scalar (by simpa [allS, hv] using hs) h.tail]

theorem VR.of_flat {ι : Inj} {v v' : Value} (hs : flat v = true) (h : VR ι v v') : v' = v := by
  cases v <;> first
    | exact h.of_scalar hs
    | skip
  cases h with
  | scalar h => simp [AM.scalar] at h
  | agg ha ha' => rw [LR.of_scalar (by simpa [flat] using hs) ⟨ha, ha'⟩]

theorem VR.of_plain {ι : Inj} {v v' : Value} (hs : plain v = true) (h : VR ι v v') : v' = v := by
  cases v <;> first
    | exact h.of_scalar hs
    | skip
  case iface t x =>
    cases h with
    | scalar h => simp [AM.scalar] at h
    | iface h => rw [h.of_flat (by simpa [plain] using hs)]
  case agg a =>
    cases h with
    | scalar h => simp [AM.scalar] at h
    | agg ha ha' => rw [LR.of_scalar (by simpa [plain] using hs) ⟨ha, ha'⟩]

theorem LR.scalar_refl {ι : Inj} : ∀ {l : List Value}, allS l = true → LR ι l l
  | [], _ => .nil
  | v :: l, h => by
    have hv : scalar v = true := by
      cases e : scalar v with
      | true => rfl
      | false => simp [allS, e] at h
    exact .cons (.scalar hv) (LR.scalar_refl (by simpa [allS, hv] using h))

/-! ## Memory -/
structure R (ι : Inj) (h : Heap) (w : World) : Prop where
  dom : ∀ b m, ι b = some m → b < h.next
  live : ∀ b m B, ι b = some m → h.blks.get b = some B → m.base + B.size ≤ m.n ∧ m.esz = B.esz ∧
    ∃ (c : Array Value) (e : TypeId) (lo hi : Nat), w.heap[m.blk]? = some (.cells c e (lo, hi)) ∧ c.size = m.n ∧
      (B.ro = false → lo = hi ∨ m.n ≤ lo) ∧ ∀ i, i < B.size → ∃ v v', B.cells.get i = some v ∧ c[m.base + i]? = some v' ∧ VR ι v v'
  inj : ∀ b1 b2 m1 m2 B1 B2, ι b1 = some m1 → ι b2 = some m2 → h.blks.get b1 = some B1 → h.blks.get b2 = some B2 → B1.ro = false → m1.blk = m2.blk → b1 = b2

/-- what a step does to both memories -/
structure Ext (ι : Inj) (h : Heap) (w : World) (ι' : Inj) (h' : Heap) (w' : World) : Prop where
  le : ι.le ι'
  newb : ∀ b m, ι' b = some m → ι b = some m ∨ h.next ≤ b
  next : h.next ≤ h'.next
  size : w.heap.size ≤ w'.heap.size
  os : w'.os = w.os
  output : w'.output = w.output
  tape : w'.tape = w.tape
  keep : ∀ k, k < w.heap.size → (∀ b m B, ι b = some m → h.blks.get b = some B → B.ro = false → m.blk ≠ k) → w'.heap[k]? = w.heap[k]?
  orig : ∀ b' m' B', ι' b' = some m' → h'.blks.get b' = some B' → B'.ro = false → m'.blk < w.heap.size →
    ∃ b m B, ι b = some m ∧ h.blks.get b = some B ∧ B.ro = false ∧ m.blk = m'.blk

theorem Ext.refl (ι : Inj) (h : Heap) (w : World) : Ext ι h w ι h w :=
  ⟨Inj.le_refl ι, fun _ _ h => .inl h, Nat.le_refl _, Nat.le_refl _, rfl, rfl, rfl, fun _ _ _ => rfl, fun b m B a b' c _ => ⟨b, m, B, a, b', c, rfl⟩⟩

theorem Ext.trans {ι ι' ι'' : Inj} {h h' h'' : Heap} {w w' w'' : World} (a : Ext ι h w ι' h' w') (b : Ext ι' h' w' ι'' h'' w'') : Ext ι h w ι'' h'' w'' where
  le := Inj.le_trans a.le b.le
  newb := fun x m e => by
    rcases b.newb x m e with h1 | h1
    · exact a.newb x m h1
    · exact .inr (Nat.le_trans a.next h1)
  next := Nat.le_trans a.next b.next
  size := Nat.le_trans a.size b.size
  os := b.os.trans a.os
  output := b.output.trans a.output
  tape := b.tape.trans a.tape
  keep := fun k hk hn => by
    rw [b.keep k (Nat.lt_of_lt_of_le hk a.size) ?_, a.keep k hk hn]
    intro b' m' B' h1 h2 h3 h4
    obtain ⟨b0, m0, B0, g1, g2, g3, g4⟩ := a.orig b' m' B' h1 h2 h3 (h4 ▸ hk)
    exact hn b0 m0 B0 g1 g2 g3 (g4.trans h4)
  orig := fun b' m' B' h1 h2 h3 h4 => by
    obtain ⟨b0, m0, B0, g1, g2, g3, g4⟩ := b.orig b' m' B' h1 h2 h3 (Nat.lt_of_lt_of_le h4 a.size)
    obtain ⟨b1, m1, B1, k1, k2, k3, k4⟩ := a.orig b0 m0 B0 g1 g2 g3 (g4 ▸ h4)
    exact ⟨b1, m1, B1, k1, k2, k3, k4.trans g4⟩

theorem R.lt {ι : Inj} {h : Heap} {w : World} (r : R ι h w) {b : Nat} {m : Img} {B : Blk} (hm : ι b = some m) (hB : h.blks.get b = some B) : m.blk < w.heap.size := by
  obtain ⟨_, _, c, e, lo, hi, hc, _⟩ := r.live b m B hm hB
  exact (Array.getElem?_eq_some_iff.1 hc).1

/-- a draw -/
theorem R.drew {ι : Inj} {h : Heap} {w : World} (r : R ι h w) : R ι h w.drew := ⟨r.dom, r.live, r.inj⟩
theorem Ext.drew (ι : Inj) (h : Heap) (w : World) : Ext ι h w ι h w.drew :=
  ⟨Inj.le_refl ι, fun _ _ h => .inl h, Nat.le_refl _, Nat.le_refl _, rfl, rfl, rfl, fun _ _ _ => rfl, fun b m B a b' c _ => ⟨b, m, B, a, b', c, rfl⟩⟩

theorem cell_of {h : Heap} {b o : Nat} {v : Value} (e : h.cell b o = some v) : ∃ B, h.blks.get b = some B ∧ o < B.size ∧ B.cells.get o = some v := by
  unfold Heap.cell at e
  split at e
  · rename_i B hB
    cases hlt : Nat.blt o B.size with
    | true => rw [hlt] at e; exact ⟨B, hB, by simpa [Nat.blt_eq] using hlt, e⟩
    | false => rw [hlt] at e; cases e
  · cases e

theorem R.read {ι : Inj} {h : Heap} {w : World} (r : R ι h w) {b o : Nat} {m : Img} {B : Blk} {v : Value} (hm : ι b = some m) (hB : h.blks.get b = some B)
    (ho : o < B.size) (hv : B.cells.get o = some v) : ∃ v', w.cell? ⟨m.blk, m.base + o, none⟩ = some v' ∧ VR ι v v' := by
  obtain ⟨_, _, c, e, lo, hi, hc, hs, _, hcells⟩ := r.live b m B hm hB
  obtain ⟨x, v', h1, h2, h3⟩ := hcells o ho
  rw [hv] at h1; cases h1
  exact ⟨v', by simp [World.cell?, hc, h2], h3⟩

theorem R.cell {ι : Inj} {h : Heap} {w : World} (r : R ι h w) {b o : Nat} {m : Img} {v : Value} (hm : ι b = some m) (e : h.cell b o = some v) :
    ∃ v', w.cell? ⟨m.blk, m.base + o, none⟩ = some v' ∧ VR ι v v' := by
  obtain ⟨B, hB, ho, hv⟩ := cell_of e
  exact r.read hm hB ho hv

theorem Blk.row_spec (B : Blk) : ∀ (n o : Nat) (l : List Value), B.row o n = some l → l.length = n ∧ ∀ j v, l[j]? = some v → B.cells.get (o + j) = some v
  | 0, o, l, h => by simp [Blk.row] at h; subst h; simp
  | n + 1, o, l, h => by
    simp only [Blk.row] at h
    split at h
    · cases h
    · rename_i v hv
      split at h
      · cases h
      · rename_i l' hl'
        cases h
        obtain ⟨h1, h2⟩ := Blk.row_spec B n (o + 1) l' hl'
        refine ⟨by simp [h1], fun j x hx => ?_⟩
        cases j with
        | zero => simp at hx; subst hx; exact hv
        | succ j => simp at hx; have := h2 j x hx; rw [← this]; congr 1; omega

theorem row_of {h : Heap} {b o n : Nat} {l : List Value} (e : h.row b o n = some l) : ∃ B, h.blks.get b = some B ∧ o + n ≤ B.size ∧ B.row o n = some l := by
  unfold Heap.row at e
  split at e
  · rename_i B hB
    cases hlt : Nat.ble (o + n) B.size with
    | true => rw [hlt] at e; exact ⟨B, hB, by simpa using Nat.le_of_ble_eq_true hlt, e⟩
    | false => rw [hlt] at e; cases e
  · cases e

theorem R.rowB {ι : Inj} {h : Heap} {w : World} (r : R ι h w) {b : Nat} {m : Img} {B : Blk} (hm : ι b = some m) (hB : h.blks.get b = some B) :
    ∀ (n o : Nat) (l : List Value), o + n ≤ B.size → B.row o n = some l → ∃ l', LR ι l l' ∧ ∀ j v', l'[j]? = some v' → w.cell? ⟨m.blk, m.base + o + j, none⟩ = some v'
  | 0, o, l, _, h => by simp [Blk.row] at h; subst h; exact ⟨[], .nil, by simp⟩
  | n + 1, o, l, hle, h => by
    simp only [Blk.row] at h
    split at h
    · cases h
    · rename_i v hv
      split at h
      · cases h
      · rename_i l1 hl1
        cases h
        obtain ⟨l', h1, h2⟩ := R.rowB r hm hB n (o + 1) l1 (by omega) hl1
        obtain ⟨v', h3, h4⟩ := r.read hm hB (by omega) hv
        refine ⟨v' :: l', .cons h4 h1, fun j x hx => ?_⟩
        cases j with
        | zero => simp at hx; subst hx; exact h3
        | succ j =>
          simp at hx
          have := h2 j x hx
          rw [← this]; congr 2; omega

theorem R.row {ι : Inj} {h : Heap} {w : World} (r : R ι h w) {b o n : Nat} {m : Img} {l : List Value} (hm : ι b = some m) (e : h.row b o n = some l) :
    ∃ l', LR ι l l' ∧ l.length = n ∧ ∀ j v', l'[j]? = some v' → w.cell? ⟨m.blk, m.base + o + j, none⟩ = some v' := by
  obtain ⟨B, hB, hle, hr⟩ := row_of e
  obtain ⟨l', h1, h2⟩ := r.rowB hm hB n o l hle hr
  exact ⟨l', h1, (B.row_spec n o l hr).1, h2⟩

/-! ### One cell is written -/
theorem heap_setCell (w : World) (a : Addr) (v : Value) (k : Nat) : (w.setCell a v).heap[k]? = if k = a.block then (w.heap[k]?).map (fun
      | .cells c elem frozen => .cells (if a.spot.isSome then c else c.setIfInBounds a.off v) elem frozen
      | o => o) else w.heap[k]? := by
  simp only [World.setCell, Array.getElem?_modify]
  by_cases h : k = a.block
  · subst h; rw [if_pos rfl, if_pos rfl]; congr 1
  · have : ¬ (a.block = k) := fun e => h e.symm
    simp [h, this]

theorem R.write {ι : Inj} {h : Heap} {w : World} (r : R ι h w) {b o : Nat} {m : Img} {B : Blk} {v v' : Value} (hm : ι b = some m) (hB : h.blks.get b = some B)
    (hro : B.ro = false) (ho : o < B.size) (hv : VR ι v v') :
    R ι { h with blks := h.blks.set b { B with cells := B.cells.set o v } } (w.setCell ⟨m.blk, m.base + o, none⟩ v') := by
  obtain ⟨hbn, hes, c, e, lo, hi, hc, hs, hfz, hcells⟩ := r.live b m B hm hB
  refine ⟨r.dom, ?_, ?_⟩
  · intro b1 m1 B1 h1 h2
    simp only [T.get_set] at h2
    by_cases eb : b1 = b
    · subst eb
      rw [hm] at h1; cases h1
      simp only [if_true, Option.some.injEq] at h2
      subst h2
      refine ⟨hbn, hes, c.setIfInBounds (m.base + o) v', e, lo, hi, ?_, by simp [hs], hfz, ?_⟩
      · rw [heap_setCell]; simp [hc]
      · intro i hi'
        by_cases ei : i = o
        · subst ei
          refine ⟨v, v', by simp [T.get_set], ?_, hv⟩
          have : m.base + i < c.size := by simp only at hi'; omega
          simp [this]
        · obtain ⟨x, x', g1, g2, g3⟩ := hcells i hi'
          refine ⟨x, x', by rw [T.get_set_ne _ _ ei]; exact g1, ?_, g3⟩
          rw [Array.getElem?_setIfInBounds_ne (by omega)]; exact g2
    · rw [if_neg eb] at h2
      have hne : m1.blk ≠ m.blk := fun e => eb (r.inj b b1 m m1 B B1 hm h1 hB h2 hro e.symm).symm
      obtain ⟨k1, k2, c1, e1, lo1, hi1, k3, k4⟩ := r.live b1 m1 B1 h1 h2
      refine ⟨k1, k2, c1, e1, lo1, hi1, ?_, k4⟩
      rw [heap_setCell]; simp [hne, k3]
  · intro b1 b2 m1 m2 B1 B2 h1 h2 h3 h4 h45 h5
    simp only [T.get_set] at h3 h4
    have q1 : ∃ C, h.blks.get b1 = some C ∧ C.ro = false := by
      by_cases e : b1 = b
      · subst e; exact ⟨B, hB, hro⟩
      · rw [if_neg e] at h3; exact ⟨_, h3, h45⟩
    have q2 : ∃ C, h.blks.get b2 = some C := by
      by_cases e : b2 = b
      · subst e; exact ⟨B, hB⟩
      · rw [if_neg e] at h4; exact ⟨_, h4⟩
    obtain ⟨C1, q1, q3⟩ := q1
    obtain ⟨C2, q2⟩ := q2
    exact r.inj b1 b2 m1 m2 C1 C2 h1 h2 q1 q2 q3 h5

theorem Ext.write {ι : Inj} {h : Heap} {w : World} {b o : Nat} {m : Img} {B : Blk} {v v' : Value} (hm : ι b = some m) (hB : h.blks.get b = some B)
    (hro : B.ro = false) :
    Ext ι h w ι { h with blks := h.blks.set b { B with cells := B.cells.set o v } } (w.setCell ⟨m.blk, m.base + o, none⟩ v') where
  le := Inj.le_refl ι
  newb := fun _ _ h => .inl h
  next := Nat.le_refl _
  size := by simp
  os := rfl
  output := rfl
  tape := rfl
  keep := fun k _ hn => by
    have : k ≠ m.blk := fun e => hn b m B hm hB hro e.symm
    rw [heap_setCell]; simp [this]
  orig := fun b' m' B' h1 h2 h3 _ => by
    simp only [T.get_set] at h2
    by_cases e : b' = b
    · subst e; rw [hm] at h1; cases h1; exact ⟨b', m, B, hm, hB, hro, rfl⟩
    · rw [if_neg e] at h2; exact ⟨b', m', B', h1, h2, h3, rfl⟩

theorem R.free {ι : Inj} {h : Heap} {w : World} (r : R ι h w) {b o : Nat} {m : Img} {B : Blk} (hm : ι b = some m) (hB : h.blks.get b = some B)
    (hro : B.ro = false) (ho : m.base + o < m.n) : w.frozen? ⟨m.blk, m.base + o, none⟩ = false := by
  obtain ⟨_, _, c, e, lo, hi, hc, _, hfz, _⟩ := r.live b m B hm hB
  simp only [World.frozen?, hc]
  rcases hfz hro with h1 | h1
  · subst h1
    by_cases hl : lo ≤ m.base + o
    · have : ¬ (m.base + o < lo) := by omega
      simp [this]
    · simp [hl]
  · have : ¬ (lo ≤ m.base + o) := by omega
    simp [this]

/-! ### A new block -/
def Inj.add (ι : Inj) (b : Nat) (m : Img) : Inj := fun x => if x = b then some m else ι x

theorem Inj.le_add {ι : Inj} {b : Nat} (m : Img) (h : ι b = none) : ι.le (ι.add b m) := fun x m' e => by
  unfold Inj.add
  by_cases hx : x = b
  · subst hx; rw [h] at e; cases e
  · rw [if_neg hx]; exact e

theorem Inj.add_same (ι : Inj) (b : Nat) (m : Img) : (ι.add b m) b = some m := by simp [Inj.add]

/-- a block of the small machine that stands already, and gets its image now -/
theorem R.late {ι : Inj} {h : Heap} {w : World} (r : R ι h w) {b : Nat} {B : Blk} (hb : ι b = none) (hlt : b < h.next) (hB : h.blks.get b = some B)
    {l l' : List Value} (hsz : B.size = l.length) (hcells : ∀ i, i < l.length → B.cells.get i = l[i]?) (hl : LR ι l l') (rest : List Value) (e : TypeId) :
    R (ι.add b ⟨w.heap.size, 0, (l' ++ rest).length, B.esz⟩) h (w.alloc (.cells (l' ++ rest).toArray e)) := by
  have hle := Inj.le_add ⟨w.heap.size, 0, (l' ++ rest).length, B.esz⟩ hb
  refine ⟨?_, ?_, ?_⟩
  · intro b1 m1 h1
    unfold Inj.add at h1
    split at h1
    · rename_i hx; subst hx; exact hlt
    · exact r.dom b1 m1 h1
  · intro b1 m1 B1 h1 h2
    unfold Inj.add at h1
    split at h1
    · rename_i hx; subst hx; cases h1
      rw [hB] at h2; cases h2
      refine ⟨by simp [hsz, hl.1], rfl, (l' ++ rest).toArray, e, 0, 0, by simp only [World.alloc]; exact Array.getElem?_push_size, by simp, fun _ => .inl rfl, ?_⟩
      intro i hi
      have hi' : i < l.length := hsz ▸ hi
      obtain ⟨v', g1, g2⟩ := hl.get (List.getElem?_eq_getElem hi')
      refine ⟨l[i], v', by rw [hcells i hi']; exact List.getElem?_eq_getElem hi', ?_, g2.mono hle⟩
      have : i < l'.length := hl.1 ▸ hi'
      simp only [Nat.zero_add, List.getElem?_toArray]
      rw [List.getElem?_append_left this]; exact g1
    · obtain ⟨k1, k2, c1, e1, lo1, hi1, k3, k4, k5, k6⟩ := r.live b1 m1 B1 h1 h2
      refine ⟨k1, k2, c1, e1, lo1, hi1, ?_, k4, k5, fun i hi => ?_⟩
      · have : m1.blk ≠ w.heap.size := Nat.ne_of_lt (r.lt h1 h2)
        simp only [World.alloc, Array.getElem?_push]; simp [this, k3]
      · obtain ⟨x, x', g1, g2, g3⟩ := k6 i hi
        exact ⟨x, x', g1, g2, g3.mono hle⟩
  · intro b1 b2 m1 m2 B1 B2 h1 h2 h3 h4 h45 h5
    unfold Inj.add at h1 h2
    split at h1 <;> split at h2
    · rename_i x y; rw [x, y]
    · cases h1; have := r.lt h2 h4; simp only at h5; omega
    · cases h2; have := r.lt h1 h3; simp only at h5; omega
    · exact r.inj b1 b2 m1 m2 B1 B2 h1 h2 h3 h4 h45 h5

theorem R.next {ι : Inj} {h : Heap} {w : World} (r : R ι h w) (b : Nat) (hb : h.next ≤ b) : ι b = none := by
  cases e : ι b with
  | none => rfl
  | some m => have := r.dom b m e; omega

/-- the small machine lays a block; no image yet -/
theorem R.ahead {ι : Inj} {h : Heap} {w : World} (r : R ι h w) (l : List Value) (esz : Nat) : R ι (h.alloc l esz) w := by
  have key : ∀ b m B, ι b = some m → (h.alloc l esz).blks.get b = some B → h.blks.get b = some B := by
    intro b m B h1 h2
    simp only [Heap.alloc, T.get_set] at h2
    have := r.dom b m h1
    rw [if_neg (by omega)] at h2; exact h2
  exact ⟨fun b m e => Nat.lt_succ_of_lt (r.dom b m e), fun b m B h1 h2 => r.live b m B h1 (key b m B h1 h2),
    fun b1 b2 m1 m2 B1 B2 h1 h2 h3 h4 h45 h5 => r.inj b1 b2 m1 m2 B1 B2 h1 h2 (key _ _ _ h1 h3) (key _ _ _ h2 h4) h45 h5⟩

theorem Ext.ahead {ι : Inj} {h : Heap} {w : World} (r : R ι h w) (l : List Value) (esz : Nat) : Ext ι h w ι (h.alloc l esz) w where
  le := Inj.le_refl ι
  newb := fun _ _ h => .inl h
  next := Nat.le_succ _
  size := Nat.le_refl _
  os := rfl
  output := rfl
  tape := rfl
  keep := fun _ _ _ => rfl
  orig := fun b' m' B' h1 h2 h3 _ => by
    simp only [Heap.alloc, T.get_set] at h2
    have := r.dom b' m' h1
    rw [if_neg (by omega)] at h2; exact ⟨b', m', B', h1, h2, h3, rfl⟩

theorem Ext.late {ι : Inj} {h : Heap} {w : World} {b : Nat} {m : Img} (hb : ι b = none) (hm : m.blk = w.heap.size) (o : Obj) (hbn : h.next ≤ b) :
    ∀ h' : Heap, h.next ≤ h'.next → (∀ b' m', ι b' = some m' → h'.blks.get b' = h.blks.get b') → Ext ι h w (ι.add b m) h' (w.alloc o) := fun h' hn hsame => {
  le := Inj.le_add m hb
  newb := fun x m' e => by
    unfold Inj.add at e
    split at e
    · rename_i hx; subst hx; exact .inr hbn
    · exact .inl e
  next := hn
  size := by simp
  os := rfl
  output := rfl
  tape := rfl
  keep := fun k hk _ => by
    have : k ≠ w.heap.size := Nat.ne_of_lt hk
    simp only [World.alloc, Array.getElem?_push]; simp [this]
  orig := fun b' m' B' h1 h2 h3 h4 => by
    unfold Inj.add at h1
    split at h1
    · cases h1; omega
    · exact ⟨b', m', B', h1, hsame b' m' h1 ▸ h2, h3, rfl⟩ }

theorem Ext.late2 {ι0 ι : Inj} {h0 h : Heap} {w0 w : World} (x : Ext ι0 h0 w0 ι h w) {b : Nat} {m : Img} (hb : ι b = none) (hm : m.blk = w.heap.size) (o : Obj) (hbn : h0.next ≤ b) :
    Ext ι0 h0 w0 (ι.add b m) h (w.alloc o) where
  le := Inj.le_trans x.le (Inj.le_add m hb)
  newb := fun y m' e => by
    unfold Inj.add at e
    split at e
    · rename_i hx; subst hx; exact .inr hbn
    · exact x.newb y m' e
  next := x.next
  size := by rw [World.size_alloc]; exact Nat.le_succ_of_le x.size
  os := x.os
  output := x.output
  tape := x.tape
  keep := fun k hk hn => by
    have : k ≠ w.heap.size := Nat.ne_of_lt (Nat.lt_of_lt_of_le hk x.size)
    rw [← x.keep k hk hn]
    simp only [World.alloc, Array.getElem?_push]; simp [this]
  orig := fun b' m' B' h1 h2 h3 h4 => by
    unfold Inj.add at h1
    split at h1
    · cases h1; have := x.size; omega
    · exact x.orig b' m' B' h1 h2 h3 h4

/-- both lay a block -/
theorem R.alloc {ι : Inj} {h : Heap} {w : World} (r : R ι h w) {l l' : List Value} (hl : LR ι l l') (rest : List Value) (esz : Nat) (e : TypeId) :
    R (ι.add h.next ⟨w.heap.size, 0, (l' ++ rest).length, esz⟩) (h.alloc l esz) (w.alloc (.cells (l' ++ rest).toArray e)) := by
  have := (r.ahead l esz).late (b := h.next) (B := { size := l.length, esz, ro := false, cells := T.ofList l }) (r.next _ (Nat.le_refl _)) (Nat.lt_succ_self _)
    (by simp [Heap.alloc, T.get_set]) (l := l) (l' := l') rfl (fun i _ => T.get_ofList l i) hl rest e
  exact this

theorem Ext.alloc {ι : Inj} {h : Heap} {w : World} (r : R ι h w) (l : List Value) (esz n : Nat) (o : Obj) :
    Ext ι h w (ι.add h.next ⟨w.heap.size, 0, n, esz⟩) (h.alloc l esz) (w.alloc o) :=
  Ext.late (r.next _ (Nat.le_refl _)) rfl o (Nat.le_refl _) _ (Nat.le_succ _) fun b' m' e => by
    have := r.dom b' m' e
    simp only [Heap.alloc, T.get_set]; rw [if_neg (by omega)]
end Go.AM
