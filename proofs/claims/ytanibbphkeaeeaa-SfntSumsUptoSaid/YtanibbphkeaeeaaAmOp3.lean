/- The small machine AM: what is built out of parts, slices that are made. -/
import Derived.Test.YtanibbphkeaeeaaAmOp2
namespace Go.AM

inductive PR (ι : Inj) : List (Nat × Value) → List (Nat × Value) → Prop
  | nil : PR ι [] []
  | cons {i : Nat} {v v' : Value} {l l' : List (Nat × Value)} (h : VR ι v v') (hl : PR ι l l') : PR ι ((i, v) :: l) ((i, v') :: l')

theorem splice_list (off : Nat) : ∀ (l : List Value) (k : Nat) (cs : Array Value), off + k + l.length ≤ cs.size →
    ((l.zipIdx k).foldl (fun cs (x : Value × Nat) => cs.setIfInBounds (off + x.2) x.1) cs).toList = cs.toList.take (off + k) ++ (l ++ cs.toList.drop (off + k + l.length))
  | [], k, cs, _ => by simp
  | c :: l, k, cs, h => by
    simp only [List.length_cons] at h
    rw [List.zipIdx_cons, List.foldl_cons, splice_list off l (k + 1) _ (by simp; omega)]
    have hlt : off + k < cs.toList.length := by simp; omega
    simp only [Array.toList_setIfInBounds]
    rw [List.set_eq_take_append_cons_drop, if_pos hlt]
    have e1 : (cs.toList.take (off + k)).length = off + k := by simp; omega
    have e2 : (cs.toList.take (off + k) ++ c :: cs.toList.drop (off + k + 1)).take (off + (k + 1)) = cs.toList.take (off + k) ++ [c] := by
      rw [List.take_append, e1]
      have : off + (k + 1) - (off + k) = 1 := by omega
      rw [this, List.take_of_length_le (by omega)]; rfl
    have e3 : (cs.toList.take (off + k) ++ c :: cs.toList.drop (off + k + 1)).drop (off + (k + 1) + l.length) = cs.toList.drop (off + k + (l.length + 1)) := by
      rw [List.drop_append, e1]
      have : off + (k + 1) + l.length - (off + k) = l.length + 1 := by omega
      rw [this, List.drop_eq_nil_of_le (by omega), List.nil_append, List.drop_succ_cons, List.drop_drop]
      congr 1; omega
    rw [e2, e3]; simp

theorem splice_array (off : Nat) (v : Array Value) (cs : Array Value) (h : off + v.size ≤ cs.size) :
    (v.zipIdx.foldl (fun cs (x : Value × Nat) => cs.setIfInBounds (off + x.2) x.1) cs).toList = cs.toList.take off ++ (v.toList ++ cs.toList.drop (off + v.size)) := by
  rw [← Array.foldl_toList, Array.toList_zipIdx]
  have := splice_list off v.toList 0 cs (by simpa using h)
  simpa using this

theorem lay_ok {ι : Inj} {place : Nat → Option (Nat × Nat)} : ∀ {parts parts' : List (Nat × Value)} {cells : List Value} {cells' : Array Value} {l : List Value},
    PR ι parts parts' → LR ι cells cells'.toList → lay place cells parts = some l → ∃ l', Instr.fill place cells' parts' = some l' ∧ LR ι l l'.toList
  | [], [], cells, cells', l, _, hc, e => by simp [lay] at e; subst e; exact ⟨cells', rfl, hc⟩
  | [], _ :: _, _, _, _, hp, _, _ => by cases hp
  | _ :: _, [], _, _, _, hp, _, _ => by cases hp
  | (i, v) :: parts, (i', v') :: parts', cells, cells', l, hp, hc, e => by
    cases hp with
    | cons hv hp =>
    simp only [lay] at e
    split at e
    · cases e
    · rename_i off size hpl
      cases hb : (Nat.beq (cellsOf v).length size && (Nat.ble (off + size) cells.length && allOne (cellsOf v))) with
      | false => rw [hb] at e; cases e
      | true =>
        rw [hb] at e
        simp only [cond_true] at e
        simp only [Bool.and_eq_true] at hb
        obtain ⟨h1, h2, h3⟩ := hb
        have h1 := Nat.eq_of_beq_eq_true h1
        have h2 := Nat.le_of_ble_eq_true h2
        obtain ⟨hlr, hlen⟩ := cells_rel hv h3
        have hsz : v'.cells.size = size := by rw [← hlen, ← hlr.1]; exact h1
        have hcl : cells.length = cells'.size := by simpa using hc.1
        have hlr2 : LR ι (cells.take off ++ (cellsOf v ++ cells.drop (off + size)))
            (v'.cells.zipIdx.foldl (fun cs (x : Value × Nat) => cs.setIfInBounds (off + x.2) x.1) cells').toList := by
          rw [splice_array off _ _ (by omega), hsz]
          exact (hc.take off).append (hlr.append (hc.drop _))
        obtain ⟨l', g1, g2⟩ := lay_ok hp hlr2 e
        refine ⟨l', ?_, g2⟩
        simp only [Instr.fill, hpl, hsz, ne_eq, not_true_eq_false, decide_false, Bool.false_or]
        rw [if_neg (by simp; omega)]
        exact g1

theorem repeated_length (z : List Value) : ∀ n, (repeated z n).length = n * z.length
  | 0 => by simp [repeated]
  | n + 1 => by simp [repeated, repeated_length z n, Nat.succ_mul, Nat.add_comm]

theorem repeated_get (z : List Value) : ∀ (n i : Nat), i < n * z.length → (repeated z n)[i]? = z[i % z.length]?
  | 0, i, h => by simp at h
  | n + 1, i, h => by
    simp only [repeated]
    by_cases hi : i < z.length
    · rw [List.getElem?_append_left hi, Nat.mod_eq_of_lt hi]
    · rw [List.getElem?_append_right (by omega), repeated_get z n (i - z.length) (by rw [Nat.succ_mul] at h; omega), ← Nat.mod_eq_sub_mod (by omega)]

theorem range_repeated (z : Array Value) (n s : Nat) (hs : n = 0 ∨ (z.size = s ∧ 0 < s)) :
    ((Array.range (n * s)).map (fun i => z[i % z.size]!)).toList = repeated z.toList n := by
  rcases hs with rfl | ⟨rfl, hs⟩
  · simp [repeated]
  · apply List.ext_getElem?
    intro i
    by_cases hi : i < n * z.size
    · rw [repeated_get z.toList n i (by simpa using hi)]
      have hm : i % z.size < z.size := Nat.mod_lt _ hs
      simp [hi, hm]
    · rw [List.getElem?_eq_none (by simp; omega), List.getElem?_eq_none (by rw [repeated_length]; simp; omega)]

theorem allS_append {a b : List Value} (ha : allS a = true) (hb : allS b = true) : allS (a ++ b) = true := by
  induction a with
  | nil => exact hb
  | cons v l ih =>
    have hv : scalar v = true := by
      cases e : scalar v with
      | true => rfl
      | false => simp [allS, e] at ha
    simp only [List.cons_append, allS, hv, cond_true]
    exact ih (by simpa [allS, hv] using ha)

theorem allS_repeated {z : List Value} (hz : allS z = true) : ∀ n, allS (repeated z n) = true
  | 0 => rfl
  | n + 1 => allS_append hz (allS_repeated hz n)

section
variable {E : Env} {ι : Inj} {h : Heap} {w : World}

theorem places_ok (hE : E.OK) : ∀ (fs : List Field) (ps : List (Nat × Nat)), fieldPlaces E fs = some ps →
    (fs.mapM (m := Sem) fun f => do pure (f.offset, ← sizeOf f.type)).run E.P w = .ok ps w
  | [], ps, e => by simp [fieldPlaces] at e; subst e; simp
  | f :: fs, ps, e => by
    simp only [fieldPlaces] at e
    split at e
    · rename_i i ps' hi hps
      cases e
      have ih := places_ok hE fs ps' hps
      simp only [List.mapM_cons, Sem.run_bind, run_size hE hi, Result.andThen_ok, Sem.run_pure, ih]
    · cases e

theorem build_ok (hE : E.OK) {t : Nat} {parts parts' : List (Nat × Value)} {v : Value} (hp : PR ι parts parts') (e : build E t parts = some v) :
    ∃ v', (Instr.build t parts'.toArray).run E.P w = .ok v' w ∧ VR ι v v' := by
  unfold build at e
  split at e
  · rename_i fs z hu hz
    obtain ⟨i, zv, _, _, z1, z2, z3, z4⟩ := zeroCells_ok hE hz
    split at e
    · rename_i ps hps
      split at e
      · rename_i l hl
        cases e
        have hl' : lay (fun i => ps.toArray[i]?) z parts = some l := by simpa using hl
        obtain ⟨l', g1, g2⟩ := lay_ok hp (cells' := zv.cells) (by rw [z1]; exact LR.scalar_refl z3) hl'
        refine ⟨.agg l', ?_, .agg g2.1 g2.2⟩
        simp only [Instr.build, Sem.run_bind, z4, Result.andThen_ok, run_und hE hu, Array.mapM_eq_mapM_toList, Sem.run_map, places_ok hE _ _ hps, g1, Sem.run_pure]
      · cases e
    · cases e
  · rename_i n e1 z hu hz
    obtain ⟨i, zv, _, _, z1, z2, z3, z4⟩ := zeroCells_ok hE hz
    split at e
    · rename_i inf hinf
      split at e
      · rename_i l hl
        cases e
        obtain ⟨l', g1, g2⟩ := lay_ok hp (cells' := zv.cells) (by rw [z1]; exact LR.scalar_refl z3) hl
        refine ⟨.agg l', ?_, .agg g2.1 g2.2⟩
        simp only [Instr.build, Sem.run_bind, z4, Result.andThen_ok, run_und hE hu, run_size hE hinf, g1, Sem.run_pure]
      · cases e
    · cases e
  · cases e

theorem buildSlice_ok (hE : E.OK) (r : R ι h w) {t n : Nat} {parts parts' : List (Nat × Value)} {v : Value} {h' : Heap} (hp : PR ι parts parts')
    (e : buildSlice E h t n parts = some (v, h')) : Val ι h w ((Instr.buildSlice t n parts'.toArray).run E.P w) v h' := by
  unfold buildSlice at e
  split at e
  · rename_i e1 hu
    split at e
    · rename_i i z hi hz
      obtain ⟨i', zv, hi', _, z1, z2, z3, z4⟩ := zeroCells_ok hE hz
      rw [hi] at hi'; cases hi'
      cases hb : (Nat.beq i.size 0 || Nat.blt 16777216 (n * i.size)) with
      | true => rw [hb] at e; cases e
      | false =>
        rw [hb] at e
        simp only [cond_false] at e
        simp only [Bool.or_eq_false_iff] at hb
        have hs0 : 0 < i.size := by
          rcases Nat.eq_zero_or_pos i.size with h0 | h0
          · rw [h0] at hb; exact absurd hb.1 (by decide)
          · exact h0
        have hbig : ¬ (n * i.size > 2 ^ 24) := by
          intro hc
          have : Nat.blt 16777216 (n * i.size) = true := Nat.ble_eq_true_of_le hc
          rw [this] at hb; exact absurd hb.2 (by decide)
        split at e
        · rename_i l hl
          cases ho : allOne l with
          | false => rw [ho] at e; cases e
          | true =>
            rw [ho] at e
            simp only [cond_true, Option.some.injEq, Prod.mk.injEq] at e
            obtain ⟨rfl, rfl⟩ := e
            have hzs : zv.cells.size = i.size := by rw [← z2, ← z1]; simp
            obtain ⟨cs, hcs1, hcs2⟩ : ∃ cs : Array Value, (if n * i.size = 0 then (pure #[] : Sem (Array Value)) else do pure (← zeroValue e1).cells).run E.P w = .ok cs w ∧
                ((Array.range (n * i.size)).map (fun k => cs[k % cs.size]!)).toList = repeated z n := by
              by_cases h0 : n * i.size = 0
              · refine ⟨#[], by rw [if_pos h0]; rfl, ?_⟩
                have : n = 0 := by
                  rcases Nat.mul_eq_zero.1 h0 with h | h
                  · exact h
                  · omega
                subst this; simp [repeated]
              · refine ⟨zv.cells, by rw [if_neg h0]; simp [z4], ?_⟩
                rw [range_repeated zv.cells n i.size (.inr ⟨hzs, hs0⟩), z1]
            obtain ⟨l', g1, g2⟩ := lay_ok (cells' := (Array.range (n * i.size)).map (fun k => cs[k % cs.size]!)) hp (by rw [hcs2]; exact LR.scalar_refl (allS_repeated z3 n)) hl
            have rr := r.alloc g2 [] i.size e1
            refine ⟨_, .slice (some ⟨w.heap.size, 0, none⟩) n n, w.alloc (.cells (l'.toList ++ []).toArray e1), ?_, Ext.alloc r l i.size _ _, rr, ?_⟩
            · have e1' : (l'.toList ++ []).toArray = l' := by simp
              rw [e1']
              by_cases h0 : n * i.size = 0
              · rw [if_pos h0] at hcs1
                simp only [Sem.run_pure, Result.ok.injEq, and_true] at hcs1
                subst hcs1
                simp only [Instr.buildSlice, Sem.run_bind, run_und hE hu, Result.andThen_ok, run_size hE hi, if_neg hbig, if_pos h0, Sem.run_pure, g1, newRow, run_newObj, World.alloc_eq]
              · rw [if_neg h0] at hcs1
                simp only [Sem.run_bind, z4, Result.andThen_ok, Sem.run_pure, Result.ok.injEq, and_true] at hcs1
                subst hcs1
                simp only [Instr.buildSlice, Sem.run_bind, run_und hE hu, Result.andThen_ok, run_size hE hi, if_neg hbig, if_neg h0, z4, Sem.run_pure, g1, newRow, run_newObj, World.alloc_eq]
            · refine .slice (Inj.add_same _ _ _) (Nat.le_refl _) (Nat.le_refl _) (.inr rfl) (.inr ⟨Nat.le_refl _, ?_⟩)
              have hll : l.length = n * i.size := by
                have : ∀ (ps : List (Nat × Value)) (c l : List Value), lay (fun k => some (k * i.size, i.size)) c ps = some l → l.length = c.length := by
                  intro ps
                  induction ps with
                  | nil => intro c l e; simp [lay] at e; rw [e]
                  | cons p ps ih =>
                    intro c l e
                    obtain ⟨k, v⟩ := p
                    simp only [lay] at e
                    cases hb : (Nat.beq (cellsOf v).length i.size && (Nat.ble (k * i.size + i.size) c.length && allOne (cellsOf v))) with
                    | false => rw [hb] at e; cases e
                    | true =>
                      rw [hb] at e
                      simp only [cond_true] at e
                      simp only [Bool.and_eq_true] at hb
                      have q1 := Nat.eq_of_beq_eq_true hb.1
                      have q2 := Nat.le_of_ble_eq_true hb.2.1
                      rw [ih _ _ e]
                      simp only [List.length_append, List.length_take, List.length_drop, q1]
                      omega
                rw [this _ _ _ hl, repeated_length, z2]
              simp only [List.append_nil, Nat.zero_add]
              rw [← g2.1, hll]; exact Nat.le_refl _
        · cases e
    · cases e
  · cases e

theorem wrap_small {n : Int} (h0 : 0 ≤ n) (h1 : n ≤ 9223372036854775807) : IntKind.i64.wrap n = n := by
  unfold IntKind.wrap
  have e : n % 18446744073709551616 = n := Int.emod_eq_of_lt h0 (by omega)
  simp only [IntKind.bits, IntKind.signed, Int.reducePow, e, Bool.true_and, ge_iff_le, Nat.add_one_sub_one]
  rw [if_neg (by simp; omega)]

theorem makeSlice_ok (hE : E.OK) (r : R ι h w) {t : Nat} {a a' b b' v : Value} {h' : Heap} (ha : VR ι a a') (hb : VR ι b b') (e : makeSlice E h t a b = some (v, h')) :
    Val ι h w ((Instr.makeSlice t a' b').run E.P w) v h' := by
  unfold makeSlice at e
  split at e
  · rename_i e1 k1 l k2 c hu
    have := ha.of_scalar rfl; subst this
    have := hb.of_scalar rfl; subst this
    split at e
    · rename_i i z hi hz
      obtain ⟨i', zv, hi', _, z1, z2, z3, z4⟩ := zeroCells_ok hE hz
      rw [hi] at hi'; cases hi'
      cases hc : (decide (0 < i.size) && (decide (0 ≤ l) && (decide (l ≤ c) && (decide (c ≤ 1099511627776) && decide (i.bytes ≤ 256))))) with
      | false => rw [hc] at e; cases e
      | true =>
        rw [hc] at e
        simp only [cond_true, Option.some.injEq, Prod.mk.injEq] at e
        obtain ⟨rfl, rfl⟩ := e
        simp only [Bool.and_eq_true, decide_eq_true_eq] at hc
        obtain ⟨c1, c2, c3, c4, c5⟩ := hc
        have w1 : IntKind.i64.wrap l = l := wrap_small c2 (by omega)
        have w2 : IntKind.i64.wrap c = c := wrap_small (by omega) (by omega)
        have hzs : zv.cells.size = i.size := by rw [← z2, ← z1]; simp
        have hbytes : ¬ ((i.bytes : Int) * c > 281474976710656) := by
          have h1 : (i.bytes : Int) * c ≤ 256 * c := Int.mul_le_mul_of_nonneg_right (by omega) (by omega)
          omega
        obtain ⟨cs, hcs1, hcs2⟩ : ∃ cs : Array Value, (if c.toNat * i.size = 0 then (pure #[] : Sem (Array Value)) else do pure (← zeroValue e1).cells).run E.P w = .ok cs w ∧
            ((Array.range (c.toNat * i.size)).map (fun k => cs[k % cs.size]!)).toList = repeated z c.toNat := by
          by_cases h0 : c.toNat * i.size = 0
          · refine ⟨#[], by rw [if_pos h0]; rfl, ?_⟩
            have : c.toNat = 0 := by
              rcases Nat.mul_eq_zero.1 h0 with h | h
              · exact h
              · omega
            rw [this]; simp [repeated]
          · refine ⟨zv.cells, by rw [if_neg h0]; simp [z4], ?_⟩
            rw [range_repeated zv.cells c.toNat i.size (.inr ⟨hzs, c1⟩), z1]
        have rr := r.alloc (LR.scalar_refl (ι := ι) (allS_repeated z3 c.toNat)) [] i.size e1
        refine ⟨_, .slice (some ⟨w.heap.size, 0, none⟩) l.toNat c.toNat, w.alloc (.cells (repeated z c.toNat ++ []).toArray e1), ?_, Ext.alloc r _ i.size _ _, rr, ?_⟩
        · have e1' : (repeated z c.toNat ++ []).toArray = (Array.range (c.toNat * i.size)).map (fun k => cs[k % cs.size]!) := by
            rw [List.append_nil, ← hcs2]
          rw [e1']
          simp only [Instr.makeSlice, Sem.run_bind, run_und hE hu, Result.andThen_ok, asInt, asIntOf, Sem.run_pure, run_inf hE hi, w1, w2, Int.reducePow]
          rw [if_neg (by simp only [Bool.or_eq_true, decide_eq_true_eq]; omega)]
          by_cases h0 : c.toNat * i.size = 0
          · rw [if_pos h0] at hcs1
            simp only [Sem.run_pure, Result.ok.injEq, and_true] at hcs1
            subst hcs1
            simp only [run_askRoom, Result.andThen_ok, run_size hE hi, Sem.run_bind, if_pos h0, newRow, run_newObj, Sem.run_pure, World.alloc_eq]
          · rw [if_neg h0] at hcs1
            simp only [Sem.run_bind, z4, Result.andThen_ok, Sem.run_pure, Result.ok.injEq, and_true] at hcs1
            subst hcs1
            simp only [run_askRoom, Result.andThen_ok, run_size hE hi, Sem.run_bind, if_neg h0, z4, newRow, run_newObj, Sem.run_pure, World.alloc_eq]
        · refine .slice (Inj.add_same _ _ _) (by omega) (Nat.le_refl _) (.inr rfl) (.inr ⟨Nat.le_refl _, ?_⟩)
          simp only [List.append_nil, Nat.zero_add]
          rw [repeated_length, z2]; exact Nat.le_refl _
    · cases e
  · cases e
end
end Go.AM
