/- The small machine AM: append, copy, conversions, what two values are held for. -/
import Derived.Test.YtanibbphkeaeeaaAmOp3
import Derived.Laws.Pointers
namespace Go.AM

theorem allOne_get : ∀ {l : List Value}, allOne l = true → ∀ {i : Nat} {v : Value}, l[i]? = some v → oneCell v = true
  | [], _, i, v, e => by simp at e
  | x :: l, h, i, v, e => by
    obtain ⟨h1, h2⟩ := allOne_cons h
    cases i with
    | zero => simp at e; subst e; exact h1
    | succ i => exact allOne_get h2 (by simpa using e)

/-- cells of a block written, whoever owns them -/
theorem storeRaw (P : Program) (k : Nat) (e : TypeId) (lo hi : Nat) : ∀ (l : List Value) (i a : Nat) (w : World) (c : Array Value), w.heap[k]? = some (.cells c e (lo, hi)) →
    a + i + l.length ≤ c.size → (lo = hi ∨ c.size ≤ lo) → (∀ (j : Nat) (v : Value), l[j]? = some v → v.oneCell' = true) →
    ∃ w' c', (storeCells ⟨k, a, none⟩ l i).run P w = .ok () w' ∧ w'.heap.size = w.heap.size ∧ (∀ j, j ≠ k → w'.heap[j]? = w.heap[j]?) ∧ w'.os = w.os ∧ w'.output = w.output ∧ w'.tape = w.tape ∧
      w'.heap[k]? = some (.cells c' e (lo, hi)) ∧ c'.size = c.size ∧ ∀ x, c'[x]? = if a + i ≤ x ∧ x < a + i + l.length then l[x - (a + i)]? else c[x]?
  | [], i, a, w, c, hc, _, _, _ => ⟨w, c, rfl, rfl, fun _ _ => rfl, rfl, rfl, rfl, hc, rfl, fun x => by rw [if_neg (by simp only [List.length_nil]; omega)]⟩
  | v :: l, i, a, w, c, hc, hsz, hfz, ho => by
    simp only [List.length_cons] at hsz
    have hlt : a + i < c.size := by omega
    have hcell : w.cell? ⟨k, a + i, none⟩ = some c[a + i] := by simp [World.cell?, hc, hlt]
    have hfree : w.frozen? ⟨k, a + i, none⟩ = false := by
      simp only [World.frozen?, hc]
      rcases hfz with h1 | h1
      · subst h1
        by_cases hl : lo ≤ a + i
        · have : ¬ (a + i < lo) := by omega
          simp [this]
        · simp [hl]
      · have : ¬ (lo ≤ a + i) := by omega
        simp [this]
    have hc1 : (w.setCell ⟨k, a + i, none⟩ v).heap[k]? = some (.cells (c.setIfInBounds (a + i) v) e (lo, hi)) := by
      rw [heap_setCell]; simp [hc]
    obtain ⟨w', c', e1, e2, e3, e4, e5, e6, e7, e8, e9⟩ := storeRaw P k e lo hi l (i + 1) a _ (c.setIfInBounds (a + i) v) hc1 (by simp; omega)
      (by simpa using hfz) (fun j u hu => ho (j + 1) u (by simpa using hu))
    refine ⟨w', c', ?_, by rw [e2]; simp, fun j hj => ?_, e4, e5, e6, e7, by rw [e8]; simp, fun x => ?_⟩
    · simp only [storeCells, Sem.run_bind]
      rw [add_lit', run_store P w _ v .plain (ho 0 v (by simp)), hcell]
      simp only [hfree, Bool.false_eq_true, if_false, Result.andThen_ok]
      exact e1
    · rw [e3 j hj, heap_setCell]; simp [hj]
    · rw [e9 x]
      simp only [List.length_cons]
      by_cases hx : x = a + i
      · subst hx
        rw [if_neg (by omega), if_pos (by omega)]
        simp [hlt]
      · rw [Array.getElem?_setIfInBounds_ne (fun e => hx e.symm)]
        by_cases h1 : a + i ≤ x ∧ x < a + i + (l.length + 1)
        · rw [if_pos h1, if_pos (by omega)]
          have : x - (a + i) = (x - (a + (i + 1))) + 1 := by omega
          rw [this, List.getElem?_cons_succ]
        · rw [if_neg h1, if_neg (by omega)]

section
variable {E : Env} {ι : Inj} {h : Heap} {w : World}

theorem source_ok (r : R ι h w) {size n len : Nat} {x x' : Value} {l : List Value} (hx : VR ι x x') (hn : lenOf x = some len) (hle : n ≤ len) (e : sourceCells h size n x = some l) :
    ∃ l', (Builtin.firstCells size n x').run E.P w = .ok l'.toArray w ∧ LR ι l l' := by
  unfold sourceCells at e
  split at e
  · rename_i b o len1 cap
    cases hx with
    | scalar hs => simp [scalar] at hs
    | slice hm hl hc ho ht =>
    rename_i o' cap' m
    simp only [lenOf, Option.some.injEq] at hn
    subst hn
    cases hz : Nat.beq (n * size) 0 with
    | true =>
      rw [hz] at e
      cases e
      have hz := Nat.eq_of_beq_eq_true hz
      exact ⟨[], by simp [Builtin.firstCells, hz, loadCells, loadCellsFrom], .nil⟩
    | false =>
    rw [hz] at e
    simp only [cond_false] at e
    obtain ⟨l', h1, h2, h3⟩ := r.row hm e
    refine ⟨l', ?_, h1⟩
    have hlen : n * size = l'.length := by rw [← h1.1, h2]
    rcases ho with h0 | h0
    · have : n = 0 := by omega
      subst this
      have hl0 : l' = [] := List.eq_nil_of_length_eq_zero (by omega)
      subst hl0
      simp [Builtin.firstCells, loadCells, loadCellsFrom]
    · subst h0
      simp only [Builtin.firstCells, hlen]
      exact run_loadCells_list w ⟨m.blk, m.base + o, none⟩ l' (fun j v hv => by rw [add_lit']; exact h3 j v hv)
  · rename_i len1 cap
    cases hb : Nat.beq n 0 with
    | false => rw [hb] at e; cases e
    | true =>
      rw [hb] at e
      simp only [cond_true, Option.some.injEq] at e
      subst e
      cases hx with
      | scalar hs =>
        cases len1 <;> cases cap <;> simp [scalar] at hs
        exact ⟨[], by simp [Builtin.firstCells], .nil⟩
  · rename_i s
    cases hb1 : Nat.beq size 1 with
    | false => rw [hb1] at e; cases e
    | true =>
    rw [hb1] at e
    cases e
    have := hx.of_scalar rfl
    subst this
    refine ⟨_, ?_, LR.scalar_refl ?_⟩
    · simp only [Builtin.firstCells, Sem.run_pure]
      congr 1
      apply Array.ext'
      simp only [Array.toList_map]
      congr 1
      rw [ByteArray.data_extract]
      simp [Array.toList_extract]
    · have : ∀ bs : List UInt8, allS (bs.map fun c => Value.int .u8 c.toNat) = true := by
        intro bs
        induction bs with
        | nil => rfl
        | cons b bs ih => simp only [List.map_cons, allS, scalar, cond_true]; exact ih
      exact this _
  · cases e

theorem source_len {size n : Nat} {x : Value} {l : List Value} (e : sourceCells h size n x = some l) (hn : lenOf x = some n) : l.length = n * size := by
  unfold sourceCells at e
  split at e
  · cases hz : Nat.beq (n * size) 0 with
    | true => rw [hz] at e; cases e; exact (Nat.eq_of_beq_eq_true hz).symm
    | false =>
      rw [hz] at e
      obtain ⟨B, _, _, hr⟩ := row_of e
      exact (B.row_spec _ _ _ hr).1
  · cases hb : Nat.beq n 0 with
    | false => rw [hb] at e; cases e
    | true =>
      rw [hb] at e
      have := Nat.eq_of_beq_eq_true hb
      subst this
      simp at e; subst e; simp
  · rename_i s
    simp only [lenOf, Option.some.injEq] at hn
    cases hb : Nat.beq size 1 with
    | false => rw [hb] at e; cases e
    | true =>
    rw [hb] at e
    cases e
    rw [Nat.eq_of_beq_eq_true hb]
    have : s.data.toList.length = s.size := Array.length_toList
    rw [List.length_map, List.length_take]; omega
  · cases e

theorem source_zero {size : Nat} {x : Value} {l : List Value} (e : sourceCells h size 0 x = some l) : l = [] := by
  unfold sourceCells at e
  split at e
  · rw [Nat.zero_mul] at e
    simpa using e.symm
  · simpa using e.symm
  · rename_i s
    cases hb : Nat.beq size 1 with
    | false => rw [hb] at e; cases e
    | true => rw [hb] at e; simpa using e.symm
  · cases e

theorem lenOf_ok {x x' : Value} {n : Nat} (hx : VR ι x x') (e : lenOf x = some n) (w : World) : (Builtin.lenOf x').run E.P w = .ok n w := by
  unfold lenOf at e
  split at e
  · cases e
    cases hx with
    | scalar hs => rfl
    | slice => rfl
  · cases e
    have := hx.of_scalar rfl
    subst this; rfl
  · cases e

theorem copy_ok (hE : E.OK) (r : R ι h w) {t : Nat} {d d' x x' v : Value} {h' : Heap} {ts : Array Nat} {ty : Nat} (hts : ts[0]? = some t) (hd : VR ι d d') (hx : VR ι x x')
    (e : copy E h t d x = some (v, h')) : Val ι h w ((Builtin.copy_ ts ty #[d', x']).run E.P w) v h' := by
  unfold copy at e
  split at e
  · rename_i e1 hu
    split at e
    · rename_i i base dLen dCap xl hi hn
      split at e
      · rename_i new hnew
        obtain ⟨new', n1, n2⟩ := source_ok (E := E) r hx hn (Nat.min_le_left xl dLen) hnew
        have hlen := lenOf_ok (E := E) hx hn w
        cases base with
        | none =>
          simp only [Option.some.injEq, Prod.mk.injEq] at e
          obtain ⟨rfl, rfl⟩ := e
          cases hd with
          | scalar hs =>
            refine ⟨ι, _, w, ?_, Ext.refl ι h w, r, .scalar rfl⟩
            simp only [Builtin.copy_, hts, List.getElem?_toArray, List.getElem?_cons_zero, List.getElem?_cons_succ, Sem.run_bind, run_und hE hu, Result.andThen_ok, hlen, run_size hE hi, n1, Sem.run_pure, goInt]
        | some a =>
          obtain ⟨b, o, sp⟩ := a
          cases sp with
          | some sp => simp at e
          | none =>
          simp only at e
          cases hc : (!allOne new || Nat.beq dLen 0) with
          | true => rw [hc] at e; cases e
          | false =>
          rw [hc] at e
          simp only [cond_false] at e
          simp only [Bool.or_eq_false_iff, Bool.not_eq_false'] at hc
          split at e
          · rename_i h1 hst
            simp only [Option.some.injEq, Prod.mk.injEq] at e
            obtain ⟨rfl, rfl⟩ := e
            cases hd with
            | scalar hs => simp [scalar] at hs
            | slice hm hl hcap ho ht =>
            rename_i o' cap' m
            have ho' : o' = m.base + o := by
              rcases ho with h0 | h0
              · have : dLen = 0 := by omega
                rw [this] at hc; exact absurd hc.2 (by decide)
              · exact h0
            subst ho'
            obtain ⟨w', s1, s2, s3⟩ := heapStore_ok (E := E) r hm hst n2 hc.1 (m.base + o) 0 rfl
            refine ⟨ι, _, w', ?_, s3, s2, .scalar rfl⟩
            simp only [Builtin.copy_, hts, List.getElem?_toArray, List.getElem?_cons_zero, List.getElem?_cons_succ, Sem.run_bind, run_und hE hu, Result.andThen_ok, hlen, run_size hE hi, n1, s1, Sem.run_pure, goInt]
          · cases e
      · cases e
    · cases e
  · cases e

theorem R.del (r : R ι h w) (b : Nat) : R ι { h with blks := h.blks.del b } w := by
  have key : ∀ x B, (h.blks.del b).get x = some B → h.blks.get x = some B := by
    intro x B e
    rw [T.get_del] at e
    split at e
    · cases e
    · exact e
  exact ⟨r.dom, fun x m B h1 h2 => r.live x m B h1 (key x B h2), fun b1 b2 m1 m2 B1 B2 h1 h2 h3 h4 => r.inj b1 b2 m1 m2 B1 B2 h1 h2 (key _ _ h3) (key _ _ h4)⟩

theorem Ext.del (b : Nat) : Ext ι h w ι { h with blks := h.blks.del b } w where
  le := Inj.le_refl ι
  newb := fun _ _ h => .inl h
  next := Nat.le_refl _
  size := Nat.le_refl _
  os := rfl
  output := rfl
  tape := rfl
  keep := fun _ _ _ => rfl
  orig := fun b' m' B' h1 h2 h3 _ => by
    simp only [T.get_del] at h2
    split at h2
    · cases h2
    · exact ⟨b', m', B', h1, h2, h3, rfl⟩

/-- the appended row takes the old one's place: the old block is gone, the new one has its image -/
theorem R.inPlace (r : R ι h w) {b : Nat} {m : Img} {B : Blk} (hm : ι b = some m) (hB : h.blks.get b = some B) (hro : B.ro = false) {old old' new new' : List Value}
    (hold : LR ι old old') (hnew : LR ι new new') {o' : Nat} {w' : World} (_hsize : w'.heap.size = w.heap.size) (hoth : ∀ j, j ≠ m.blk → w'.heap[j]? = w.heap[j]?)
    {c' : Array Value} {e : TypeId} {lo hi : Nat} (hc' : w'.heap[m.blk]? = some (.cells c' e (lo, hi))) (hcs : c'.size = m.n) (hfz : lo = hi ∨ m.n ≤ lo)
    (hfit : o' + (old ++ new).length ≤ m.n) (hcells : ∀ x v', (old' ++ new')[x]? = some v' → c'[o' + x]? = some v') :
    R (ι.add h.next ⟨m.blk, o', m.n, m.esz⟩) ({ h with blks := h.blks.del b }.alloc (old ++ new) m.esz) w' := by
  have hnx := r.next h.next (Nat.le_refl _)
  have hle := Inj.le_add ⟨m.blk, o', m.n, m.esz⟩ hnx
  have key : ∀ x mx Bx, x ≠ h.next → ι x = some mx → (({ h with blks := h.blks.del b } : Heap).alloc (old ++ new) m.esz).blks.get x = some Bx → h.blks.get x = some Bx ∧ x ≠ b := by
    intro x mx Bx hx h1 h2
    simp only [Heap.alloc, T.get_set] at h2
    rw [if_neg hx, T.get_del] at h2
    split at h2
    · cases h2
    · rename_i hxb; exact ⟨h2, hxb⟩
  refine ⟨?_, ?_, ?_⟩
  · intro x mx h1
    unfold Inj.add at h1
    split at h1
    · rename_i hx; subst hx; exact Nat.lt_succ_self _
    · exact Nat.lt_succ_of_lt (r.dom x mx h1)
  · intro x mx Bx h1 h2
    unfold Inj.add at h1
    split at h1
    · rename_i hx; subst hx; cases h1
      simp only [Heap.alloc, T.get_set, if_true, Option.some.injEq] at h2
      subst h2
      refine ⟨hfit, rfl, c', e, lo, hi, hc', hcs, fun _ => hfz, fun i hi' => ?_⟩
      have hlr := hold.append hnew
      obtain ⟨v', g1, g2⟩ := hlr.get (List.getElem?_eq_getElem hi')
      exact ⟨_, v', by simp only; rw [T.get_ofList]; exact List.getElem?_eq_getElem hi', hcells i v' g1, g2.mono hle⟩
    · rename_i hx
      obtain ⟨h3, h4⟩ := key x mx Bx hx h1 h2
      have hne : mx.blk ≠ m.blk := fun e => h4 (r.inj b x m mx B Bx hm h1 hB h3 hro e.symm).symm
      obtain ⟨k1, k2, c1, e1, lo1, hi1, k3, k4, k5, k6⟩ := r.live x mx Bx h1 h3
      exact ⟨k1, k2, c1, e1, lo1, hi1, by rw [hoth _ hne]; exact k3, k4, k5, fun i hi => by
        obtain ⟨y, y', g1, g2, g3⟩ := k6 i hi
        exact ⟨y, y', g1, g2, g3.mono hle⟩⟩
  · intro b1 b2 m1 m2 B1 B2 h1 h2 h3 h4 h45 h5
    unfold Inj.add at h1 h2
    split at h1 <;> split at h2
    · rename_i x y; rw [x, y]
    · rename_i x y
      cases h1
      obtain ⟨g1, g2⟩ := key b2 m2 B2 y h2 h4
      exact absurd (r.inj b b2 m m2 B B2 hm h2 hB g1 hro h5).symm g2
    · rename_i x y
      cases h2
      obtain ⟨g1, g2⟩ := key b1 m1 B1 x h1 h3
      exact absurd (r.inj b1 b m1 m B1 B h1 hm g1 hB h45 h5) g2
    · rename_i x y
      exact r.inj b1 b2 m1 m2 B1 B2 h1 h2 (key _ _ _ x h1 h3).1 (key _ _ _ y h2 h4).1 h45 h5

theorem Ext.inPlace (r : R ι h w) {b : Nat} {m : Img} {B : Blk} (hm : ι b = some m) (hB : h.blks.get b = some B) (hro : B.ro = false) {l : List Value}
    {o' n esz : Nat} {w' : World} (hsize : w'.heap.size = w.heap.size) (hoth : ∀ j, j ≠ m.blk → w'.heap[j]? = w.heap[j]?)
    (hos : w'.os = w.os) (hout : w'.output = w.output) (htape : w'.tape = w.tape) :
    Ext ι h w (ι.add h.next ⟨m.blk, o', n, esz⟩) ({ h with blks := h.blks.del b }.alloc l esz) w' where
  le := Inj.le_add _ (r.next h.next (Nat.le_refl _))
  newb := fun x mx e => by
    unfold Inj.add at e
    split at e
    · rename_i hx; subst hx; exact .inr (Nat.le_refl _)
    · exact .inl e
  next := Nat.le_succ _
  size := Nat.le_of_eq hsize.symm
  os := hos
  output := hout
  tape := htape
  keep := fun k _ hn => hoth k fun e => hn b m B hm hB hro e.symm
  orig := fun x mx Bx h1 h2 h3 _ => by
    unfold Inj.add at h1
    split at h1
    · cases h1; exact ⟨b, m, B, hm, hB, hro, rfl⟩
    · rename_i hx
      simp only [Heap.alloc, T.get_set] at h2
      rw [if_neg hx, T.get_del] at h2
      split at h2
      · cases h2
      · exact ⟨x, mx, Bx, h1, h2, h3, rfl⟩

theorem zeroCells_size {z : Array Value} {n : Nat} : (Builtin.zeroCells z n).size = n * z.size := by simp [Builtin.zeroCells]

theorem run_grow (hE : E.OK) {t u e1 : Nat} {d : TypeDesc} {i : TypeInfo} {zv : Value} {s' x' : Value} {base' : Option Addr} {sLen cap' n ty : Nat} {old' new' : List Value}
    (hu : E.und t = some (.slice e1)) (hu2 : E.und u = some d) (hd : ∀ k, d ≠ .int k) (hi : E.info e1 = some i)
    (z4 : ∀ w, (zeroValue e1).run E.P w = .ok zv w) (hs' : s' = .slice base' sLen cap') (hcap : ¬ (sLen + n ≤ cap')) (hneed : sLen + n ≤ 549755813888) (hbytes : i.bytes ≤ 256)
    (hlen : (Builtin.lenOf x').run E.P w = .ok n w) (ho : (Builtin.firstCells i.size sLen s').run E.P w.drew = .ok old'.toArray w.drew)
    (hn : (Builtin.firstCells i.size n x').run E.P w.drew = .ok new'.toArray w.drew) :
    ∃ newCap, sLen + n ≤ newCap ∧ (Builtin.append_ #[t, u] ty #[s', x']).run E.P w =
      .ok (.slice (some ⟨w.heap.size, 0, none⟩) (sLen + n) newCap) (w.drew.alloc (.cells ((old' ++ new') ++ (Builtin.zeroCells zv.cells (newCap - (sLen + n))).toList).toArray e1)) := by
  subst hs'
  refine ⟨(Question.appendCap (sLen + n) cap' e1).cut (w.tape w.drawn (.appendCap (sLen + n) cap' e1)), by simp [Question.cut], ?_⟩
  have hb : ¬ (Builtin.nextslicecap (sLen + n) cap' * i.bytes > 281474976710656) := by
    have := growslice_fits (need := sLen + n) (old := cap') (bytes := i.bytes) (by omega) (by
      have : (sLen + n) * i.bytes ≤ 549755813888 * 256 := Nat.mul_le_mul hneed hbytes
      omega)
    omega
  have hmax : ¬ (((sLen + n : Nat) : Int) > 9223372036854775807 ∧ (False ∨ i.bytes = 0)) := by omega
  unfold Builtin.append_
  simp only [List.getElem?_toArray, List.getElem?_cons_zero, List.getElem?_cons_succ, Sem.run_bind, run_und hE hu, run_und hE hu2, Result.andThen_ok, run_size hE hi, Sem.run_pure,
    Bool.false_eq_true, if_false, hlen, if_neg hcap, Bool.not_false, if_true, run_inf hE hi, IntKind.max_i64, if_neg hmax, Nat.reducePow, if_neg hb, run_choose, Question.forced, World.drew_eq,
    run_askRoom, ho, hn, z4, newRow, run_newObj, World.alloc_eq, World.size_drew]
  have hz : ∀ Z : Array Value, ((old' ++ new') ++ Z.toList).toArray = old'.toArray ++ new'.toArray ++ Z := by intro Z; apply Array.ext'; simp
  rw [hz]

theorem append_ok (hE : E.OK) (r : R ι h w) {t u : Nat} {d : TypeDesc} {s s' x x' v : Value} {h' : Heap} {ty : Nat} (hu2 : E.und u = some d) (hd : ∀ k, d ≠ .int k) (hs : VR ι s s') (hx : VR ι x x')
    (e : append E h t s x = some (v, h')) : Val ι h w ((Builtin.append_ #[t, u] ty #[s', x']).run E.P w) v h' := by
  unfold append at e
  split at e
  · rename_i e1 hu
    split at e
    · rename_i i base sLen sCap n hi hn
      split at e
      · rename_i new z hnew hz
        obtain ⟨i', zv, hi', _, z1, z2, z3, z4⟩ := zeroCells_ok hE hz
        rw [hi] at hi'; cases hi'
        obtain ⟨new', n1, n2⟩ := source_ok (E := E) r hx hn (Nat.le_refl n) hnew
        have hlen := lenOf_ok (E := E) hx hn w
        cases hc : (Nat.beq i.size 0 || (Nat.blt 549755813888 (sLen + n) || (Nat.blt 256 i.bytes || !allOne new))) with
        | true => rw [hc] at e; cases e
        | false =>
        rw [hc] at e
        simp only [cond_false] at e
        simp only [Bool.or_eq_false_iff, Bool.not_eq_false'] at hc
        obtain ⟨c1, c2, c3, c4⟩ := hc
        have hs0 : 0 < i.size := by
          rcases Nat.eq_zero_or_pos i.size with h0 | h0
          · rw [h0] at c1; exact absurd c1 (by decide)
          · exact h0
        have hneed : sLen + n ≤ 549755813888 := by
          rcases Nat.lt_or_ge 549755813888 (sLen + n) with h0 | h0
          · have : Nat.blt 549755813888 (sLen + n) = true := Nat.ble_eq_true_of_le h0
            rw [this] at c2; cases c2
          · exact h0
        have hbytes : i.bytes ≤ 256 := by
          rcases Nat.lt_or_ge 256 i.bytes with h0 | h0
          · have : Nat.blt 256 i.bytes = true := Nat.ble_eq_true_of_le h0
            rw [this] at c3; cases c3
          · exact h0
        have ho1 : ∀ (j : Nat) (y : Value), new'[j]? = some y → y.oneCell' = true := by
          intro j y hy
          have hlt : j < new.length := by rw [n2.1]; exact (List.getElem?_eq_some_iff.1 hy).1
          exact oneCell_rel (n2.2 j _ y (List.getElem?_eq_getElem hlt) hy) (allOne_get c4 (List.getElem?_eq_getElem hlt))
        cases hb : Nat.ble (sLen + n) sCap with
        | true =>
          rw [hb] at e
          simp only [cond_true] at e
          have hle := Nat.le_of_ble_eq_true hb
          cases base with
          | none =>
            simp only [Option.some.injEq, Prod.mk.injEq] at e
            obtain ⟨rfl, rfl⟩ := e
            cases hs with
            | scalar hs =>
              refine ⟨ι, .slice none sLen sCap, w, ?_, Ext.refl ι h w, r, .scalar hs⟩
              have hn0 : sLen + n = sLen := by
                cases sLen <;> cases sCap <;> simp [scalar] at hs
                omega
              unfold Builtin.append_
              simp only [List.getElem?_toArray, List.getElem?_cons_zero, List.getElem?_cons_succ, Sem.run_bind, run_und hE hu, run_und hE hu2, Result.andThen_ok, run_size hE hi, Sem.run_pure,
                Bool.false_eq_true, if_false, hlen, if_pos hle, Bool.not_false, if_true, n1]
              rw [hn0]
          | some a =>
            obtain ⟨b, o, sp⟩ := a
            cases sp with
            | some sp => simp at e
            | none =>
            simp only at e
            split at e
            · rename_i h1 hst
              simp only [Option.some.injEq, Prod.mk.injEq] at e
              obtain ⟨rfl, rfl⟩ := e
              cases hs with
              | scalar hs => simp [scalar] at hs
              | slice hm hl hcap ho ht =>
              rename_i o' cap' m
              have hst' : ∃ w', (storeCells ⟨m.blk, o' + sLen * i.size, none⟩ new').run E.P w = .ok () w' ∧ R ι h1 w' ∧ Ext ι h w ι h1 w' := by
                rcases ho with h0 | h0
                · have hn0 : n = 0 := by omega
                  have hnew0 : new = [] := source_zero (hn0 ▸ hnew)
                  subst hnew0
                  have hnew0' : new' = [] := List.eq_nil_of_length_eq_zero (by rw [← n2.1]; rfl)
                  subst hnew0'
                  obtain ⟨B, hB, hro, hsz, rfl⟩ := heapStore_of hst
                  have hg : ∀ y, (h.blks.set b (B.fill (o + sLen * i.size) [])).get y = h.blks.get y := by
                    intro y
                    rw [T.get_set]
                    split
                    · rename_i e; subst e; exact hB.symm
                    · rfl
                  exact ⟨w, rfl, r.congr rfl hg, (Ext.refl ι h w).congr rfl hg⟩
                · subst h0
                  exact heapStore_ok (E := E) r hm hst n2 c4 (m.base + o + sLen * i.size) 0 (by rw [Nat.add_zero, Nat.add_assoc])
              obtain ⟨w', s1, s2, s3⟩ := hst'
              refine ⟨ι, .slice (some ⟨m.blk, o', none⟩) (sLen + n) cap', w', ?_, s3, s2, .slice hm hle hcap ho ht⟩
              have hle' : sLen + n ≤ cap' := Nat.le_trans hle hcap
              unfold Builtin.append_
              simp only [List.getElem?_toArray, List.getElem?_cons_zero, List.getElem?_cons_succ, Sem.run_bind, run_und hE hu, run_und hE hu2, Result.andThen_ok, run_size hE hi, Sem.run_pure,
                Bool.false_eq_true, if_false, hlen, if_pos hle', Bool.not_false, if_true, n1, add_lit', s1]
            · cases e
        | false =>
          rw [hb] at e
          simp only [cond_false] at e
          have hlt : sCap < sLen + n := by
            rcases Nat.lt_or_ge sCap (sLen + n) with h0 | h0
            · exact h0
            · rw [Nat.ble_eq_true_of_le h0] at hb; cases hb
          obtain ⟨new2, m1, m2⟩ := source_ok (E := E) r.drew hx hn (Nat.le_refl n) hnew
          have hzs : zv.cells.size = i.size := by rw [← z2, ← z1]; simp
          cases base with
          | none =>
            simp only [Option.some.injEq, Prod.mk.injEq] at e
            obtain ⟨rfl, rfl⟩ := e
            cases hs with
            | scalar hs =>
              have h0 : sLen = 0 ∧ sCap = 0 := by cases sLen <;> cases sCap <;> simp [scalar] at hs; exact ⟨rfl, rfl⟩
              obtain ⟨rfl, rfl⟩ := h0
              obtain ⟨newCap, g1, g2⟩ := run_grow hE (ty := ty) hu hu2 hd hi z4 rfl (by omega) hneed hbytes hlen (base' := none) (cap' := 0) (old' := []) (by simp [Builtin.firstCells]) m1
              have rr := r.drew.alloc m2 (Builtin.zeroCells zv.cells (newCap - (0 + n))).toList i.size e1
              refine ⟨_, _, _, g2, (Ext.drew ι h w).trans (Ext.alloc r.drew new i.size _ _), rr, .slice (Inj.add_same _ _ _) (Nat.le_refl _) g1 (.inr rfl) (.inr ⟨Nat.le_refl _, ?_⟩)⟩
              have hnl : new2.length = n * i.size := by
                rw [← m2.1]; exact source_len hnew hn
              simp only [List.length_append, Array.length_toList, zeroCells_size, hzs, hnl, ← Nat.add_mul, Nat.zero_add]
              have : n + (newCap - n) = newCap := by omega
              rw [this]; exact Nat.le_refl _
          | some a =>
            obtain ⟨b, o, sp⟩ := a
            cases sp with
            | some sp => simp at e
            | none =>
            simp only at e
            split at e
            · rename_i B old hB hold
              cases hbb : (Nat.beq B.esz i.size && !B.ro) with
              | false => rw [hbb] at e; cases e
              | true =>
              rw [hbb] at e
              simp only [cond_true, Option.some.injEq, Prod.mk.injEq] at e
              simp only [Bool.and_eq_true, Bool.not_eq_true'] at hbb
              obtain ⟨hesz, hro⟩ := hbb
              have hesz := Nat.eq_of_beq_eq_true hesz
              obtain ⟨rfl, rfl⟩ := e
              cases hs with
              | scalar hs => simp [scalar] at hs
              | slice hm hl hcap ho ht =>
              rename_i o' cap' m
              obtain ⟨lv1, lv2, c, ee, lo, hi2, lv3, lv4, lv5, lv6⟩ := r.live b m B hm hB
              have hme : m.esz = i.size := lv2.trans hesz
              obtain ⟨t1, t2⟩ : m.base ≤ o' ∧ o' + cap' * m.esz ≤ m.n := by
                rcases ht with h0 | h0
                · omega
                · exact h0
              have hnewl : new.length = n * i.size := source_len hnew hn
              have holdl : old.length = sLen * i.size := by
                obtain ⟨B1, _, _, hr1⟩ := row_of hold
                exact (B1.row_spec _ _ _ hr1).1
              obtain ⟨old', q1, q2⟩ : ∃ old', LR ι old old' ∧ ∀ (j : Nat) (y : Value), old'[j]? = some y → w.cell? ⟨m.blk, o' + j, none⟩ = some y := by
                rcases ho with h0 | h0
                · have : sLen = 0 := by omega
                  rw [this, Nat.zero_mul] at holdl
                  have : old = [] := List.eq_nil_of_length_eq_zero holdl
                  subst this
                  exact ⟨[], .nil, by simp⟩
                · subst h0
                  obtain ⟨old', q1, _, q3⟩ := r.row hm hold
                  exact ⟨old', q1, q3⟩
              by_cases hin : sLen + n ≤ cap'
              · have hfit : o' + (sLen * i.size + n * i.size) ≤ m.n := by
                  have h1 : (sLen + n) * i.size ≤ cap' * i.size := Nat.mul_le_mul_right _ hin
                  rw [hme] at t2
                  rw [← Nat.add_mul]; omega
                have hn2l : new'.length = n * i.size := by rw [← n2.1, hnewl]
                have ho2l : old'.length = sLen * i.size := by rw [← q1.1, holdl]
                obtain ⟨w', c', s1, s2, s3, s4, s5, s6, s7, s8, s9⟩ := storeRaw E.P m.blk ee lo hi2 new' 0 (o' + sLen * i.size) w c lv3 (by omega) (by rw [lv4]; exact lv5 hro) ho1
                have hcells : ∀ x v', (old' ++ new')[x]? = some v' → c'[o' + x]? = some v' := by
                  intro y v' hy
                  rw [s9]
                  by_cases hlt : y < old'.length
                  · rw [List.getElem?_append_left hlt] at hy
                    rw [if_neg (by omega)]
                    have := q2 y v' hy
                    simpa [World.cell?, lv3] using this
                  · rw [List.getElem?_append_right (by omega)] at hy
                    have hlt2 : y - old'.length < new'.length := (List.getElem?_eq_some_iff.1 hy).1
                    rw [if_pos (by omega)]
                    rw [← hy]; congr 1; omega
                have rr := r.inPlace hm hB hro q1 n2 (o' := o') s2 s3 s7 (s8.trans lv4) (lv5 hro) (by rw [List.length_append, holdl, hnewl]; exact hfit) hcells
                have xx : Ext ι h w (ι.add h.next ⟨m.blk, o', m.n, m.esz⟩) ({ h with blks := h.blks.del b }.alloc (old ++ new) m.esz) w' :=
                  Ext.inPlace r hm hB hro s2 s3 s4 s5 s6
                rw [hme] at rr xx
                have hvr : VR (ι.add h.next ⟨m.blk, o', m.n, i.size⟩) (.slice (some ⟨h.next, 0, none⟩) (sLen + n) (sLen + n)) (.slice (some ⟨m.blk, o', none⟩) (sLen + n) cap') :=
                  VR.slice (m := ⟨m.blk, o', m.n, i.size⟩) (Inj.add_same _ _ _) (Nat.le_refl _) hin (.inr rfl) (.inr ⟨Nat.le_refl _, by rw [hme] at t2; exact t2⟩)
                refine ⟨_, .slice (some ⟨m.blk, o', none⟩) (sLen + n) cap', w', ?_, xx, rr, hvr⟩
                unfold Builtin.append_
                simp only [List.getElem?_toArray, List.getElem?_cons_zero, List.getElem?_cons_succ, Sem.run_bind, run_und hE hu, run_und hE hu2, Result.andThen_ok, run_size hE hi, Sem.run_pure,
                  Bool.false_eq_true, if_false, hlen, if_pos hin, Bool.not_false, if_true, n1, add_lit', s1]
              · have hold1 : (Builtin.firstCells i.size sLen (.slice (some ⟨m.blk, o', none⟩) sLen cap')).run E.P w.drew = .ok old'.toArray w.drew := by
                  have ho2l : sLen * i.size = old'.length := by rw [← q1.1, holdl]
                  simp only [Builtin.firstCells, ho2l]
                  exact run_loadCells_list w.drew ⟨m.blk, o', none⟩ old' (fun j v hv => by rw [add_lit']; exact q2 j v hv)
                obtain ⟨newCap, g1, g2⟩ := run_grow hE (ty := ty) hu hu2 hd hi z4 rfl hin hneed hbytes hlen hold1 m1
                have rr := (r.drew.del b).alloc (q1.append m2) (Builtin.zeroCells zv.cells (newCap - (sLen + n))).toList i.size e1
                refine ⟨_, _, _, g2, ((Ext.drew ι h w).trans (Ext.del b)).trans (Ext.alloc (r.drew.del b) (old ++ new) i.size _ _), rr,
                  .slice (Inj.add_same _ _ _) (Nat.le_refl _) g1 (.inr rfl) (.inr ⟨Nat.le_refl _, ?_⟩)⟩
                have hnl : new2.length = n * i.size := by rw [← m2.1, hnewl]
                have ho2l : old'.length = sLen * i.size := by rw [← q1.1, holdl]
                simp only [List.length_append, Array.length_toList, zeroCells_size, hzs, hnl, ho2l, ← Nat.add_mul, Nat.zero_add]
                have : sLen + n + (newCap - (sLen + n)) = newCap := by omega
                rw [this]; exact Nat.le_refl _
            · cases e
      · cases e
    · cases e
  · cases e
end
end Go.AM
