/- The small machine AM: addresses, parts, slices: each operation does what the model's does. -/
import Derived.Test.YtanibbphkeaeeaaAmOp
namespace Go.AM
section
variable {E : Env} {ι : Inj} {h : Heap} {w : World}

theorem fieldAddr_ok (hE : E.OK) {t f : Nat} {x x' v : Value} (hx : VR ι x x') (e : fieldAddr E t x f = some v) :
    ∃ v', (Instr.fieldAt t x' f).run E.P w = .ok v' w ∧ VR ι v v' := by
  unfold fieldAddr at e
  split at e
  · rename_i fs b o hu
    cases hx with
    | scalar hs => simp [scalar] at hs
    | ptr hm =>
    rename_i m
    split at e
    · rename_i fd hfd
      split at e
      · rename_i i hi
        cases hz : Nat.beq i.size 0 with
        | true => rw [hz] at e; cases e
        | false =>
          rw [hz] at e
          simp only [cond_false, Option.some.injEq] at e
          subst e
          refine ⟨.pointer (some ⟨m.blk, m.base + o + fd.offset, none⟩), ?_, by rw [Nat.add_assoc]; exact .ptr hm⟩
          have hz' : ¬ (i.size = 0) := fun e => by rw [e] at hz; cases hz
          have hfd' : fs[f]? = some fd := by simpa using hfd
          simp only [Instr.fieldAt, Instr.sureAddr, fieldPlace, Sem.run_bind, Sem.run_pure, Result.andThen_ok, run_und hE hu, hfd', run_size hE hi, if_neg hz', add_lit']
      · cases e
    · cases e
  · cases e

theorem indexAddr_ok (hE : E.OK) {t : Nat} {x x' i i' v : Value} (hx : VR ι x x') (hi : VR ι i i') (e : indexAddr E t x i = some v) :
    ∃ v', (Instr.indexAt t x' i').run E.P w = .ok v' w ∧ VR ι v v' := by
  unfold indexAddr at e
  split at e
  · rename_i k n e1 b o len cap hu
    have hii := hi.of_scalar rfl
    subst hii
    cases hx with
    | scalar hs => simp [scalar] at hs
    | slice hm hl hc ho ht =>
    rename_i o' cap' m
    split at e
    · rename_i inf hinf
      cases hb : (decide (0 ≤ n) && decide (n < (len : Int))) with
      | false => rw [hb] at e; cases e
      | true =>
        rw [hb] at e
        simp only [cond_true, Option.some.injEq] at e
        subst e
        simp only [Bool.and_eq_true, decide_eq_true_eq] at hb
        have ho' : o' = m.base + o := by
          rcases ho with h0 | h0
          · omega
          · exact h0
        subst ho'
        refine ⟨.pointer (some ⟨m.blk, m.base + o + n.toNat * inf.size, none⟩), ?_, by rw [Nat.add_assoc]; exact .ptr hm⟩
        simp only [Instr.indexAt, asIntOf, Sem.run_bind, Sem.run_pure, Result.andThen_ok, run_und hE hu, run_size hE hinf, if_pos hb, add_lit']
    · cases e
  · rename_i k n len e1 b o hu
    have hii := hi.of_scalar rfl
    subst hii
    cases hx with
    | scalar hs => simp [scalar] at hs
    | ptr hm =>
    rename_i m
    split at e
    · rename_i inf hinf
      cases hb : (decide (0 ≤ n) && decide (n < (len : Int))) with
      | false => rw [hb] at e; cases e
      | true =>
        rw [hb] at e
        simp only [cond_true, Option.some.injEq] at e
        subst e
        simp only [Bool.and_eq_true, decide_eq_true_eq] at hb
        refine ⟨.pointer (some ⟨m.blk, m.base + o + n.toNat * inf.size, none⟩), ?_, by rw [Nat.add_assoc]; exact .ptr hm⟩
        simp only [Instr.indexAt, Instr.sureAddr, asIntOf, Sem.run_bind, Sem.run_pure, Result.andThen_ok, run_und hE hu, run_size hE hinf, if_pos hb, add_lit']
    · cases e
  · cases e

theorem part_ok (hE : E.OK) {t off : Nat} {cs : List Value} {cs' : Array Value} {v : Value} (hcs : LR ι cs cs'.toList) (e : part E t cs off = some v) :
    ∃ v', (Go.part t cs' off).run E.P w = .ok v' w ∧ VR ι v v' := by
  unfold part at e
  split at e
  · rename_i d i hd hi
    cases hb : isAggD d with
    | true =>
      rw [hb] at e
      simp only [cond_true, Option.some.injEq] at e
      subst e
      have h1 := (hcs.drop off).take i.size
      refine ⟨.agg (cs'.extract off (off + i.size)), ?_, ?_⟩
      · simp only [Go.part, Sem.run_bind, run_agg hE hd, Result.andThen_ok, hb, if_true, run_size hE hi, Sem.run_pure]
      · have : cs'.extract off (off + i.size) = ((cs'.toList.drop off).take i.size).toArray := by
          apply Array.ext'
          simp [Array.toList_extract]
        rw [this]
        exact .agg h1.1 h1.2
    | false =>
      rw [hb] at e
      simp only [cond_false] at e
      obtain ⟨v', h1, h2⟩ := hcs.get e
      refine ⟨v', ?_, h2⟩
      have : cs'[off]? = some v' := by simpa using h1
      simp only [Go.part, Sem.run_bind, run_agg hE hd, Result.andThen_ok, hb, Bool.false_eq_true, if_false, this, Sem.run_pure]
  · cases e

theorem agg_inv {cs : Array Value} {x' : Value} (hx : VR ι (.agg cs) x') : ∃ cs', x' = .agg cs' ∧ LR ι cs.toList cs'.toList := by
  cases hx with
  | scalar hs => simp [scalar] at hs
  | agg a b => rename_i l'; exact ⟨l'.toArray, rfl, a, b⟩

theorem field_ok (hE : E.OK) {t f : Nat} {x x' v : Value} (hx : VR ι x x') (e : field E t x f = some v) :
    ∃ v', (Instr.field t x' f).run E.P w = .ok v' w ∧ VR ι v v' := by
  unfold field at e
  split at e
  · rename_i fs cs hu
    obtain ⟨cs', rfl, hcs⟩ := agg_inv hx
    split at e
    · rename_i fd hfd
      obtain ⟨v', h1, h2⟩ := part_ok hE (w := w) hcs e
      refine ⟨v', ?_, h2⟩
      have hfd' : fs[f]? = some fd := by simpa using hfd
      simp only [Instr.field, Sem.run_bind, run_und hE hu, Result.andThen_ok, hfd', asAgg, Sem.run_pure, h1]
    · cases e
  · cases e

theorem index_ok (hE : E.OK) {t : Nat} {x x' i i' v : Value} (hx : VR ι x x') (hi : VR ι i i') (e : index E t x i = some v) :
    ∃ v', (Instr.index t x' i').run E.P w = .ok v' w ∧ VR ι v v' := by
  unfold index at e
  split at e
  · rename_i k n s hu
    have hii := hi.of_scalar rfl
    subst hii
    have hxx := hx.of_scalar rfl
    subst hxx
    cases hb : decide (0 ≤ n) with
    | false => rw [hb] at e; cases e
    | true =>
      rw [hb] at e
      simp only [cond_true] at e
      simp only [decide_eq_true_eq] at hb
      split at e
      · rename_i c hc
        cases e
        refine ⟨_, ?_, .scalar rfl⟩
        have hc' : s[n.toNat]? = some c := by
          have h0 : n.toNat < s.data.size := by
            have := (List.getElem?_eq_some_iff.1 hc).1
            simpa using this
          have h1 : n.toNat < s.size := h0
          rw [getElem?_pos s n.toNat h1]
          have h2 := (List.getElem?_eq_some_iff.1 hc).2
          rw [← h2]; rfl
        simp only [Instr.index, asIntOf, Sem.run_bind, Sem.run_pure, Result.andThen_ok, run_und hE hu, if_pos hb, hc']
      · cases e
  · rename_i k n len e1 cs hu
    have hii := hi.of_scalar rfl
    subst hii
    obtain ⟨cs', rfl, hcs⟩ := agg_inv hx
    cases hb : (decide (0 ≤ n) && decide (n < (len : Int))) with
    | false => rw [hb] at e; cases e
    | true =>
      rw [hb] at e
      simp only [cond_true] at e
      simp only [Bool.and_eq_true, decide_eq_true_eq] at hb
      split at e
      · rename_i inf hinf
        obtain ⟨v', h1, h2⟩ := part_ok hE (w := w) hcs e
        refine ⟨v', ?_, h2⟩
        simp only [Instr.index, asIntOf, Sem.run_bind, Sem.run_pure, Result.andThen_ok, run_und hE hu, if_pos hb, run_size hE hinf, h1]
      · cases e
  · cases e

theorem bound_ok {v v' : Option Value} (hv : (v = none ∧ v' = none) ∨ ∃ x x', v = some x ∧ v' = some x' ∧ VR ι x x') {dflt most n : Nat} (e : bound v dflt most = some n) :
    (v = none ∧ v' = none ∧ n = dflt) ∨ (∃ k, v' = some (.int k n) ∧ n ≤ most) := by
  unfold bound at e
  split at e
  · rcases hv with ⟨_, h2⟩ | ⟨x, x', h1, _⟩
    · exact .inl ⟨rfl, h2, by simpa using e.symm⟩
    · cases h1
  · rename_i k i
    rcases hv with ⟨h1, _⟩ | ⟨x, x', h1, h2, h3⟩
    · cases h1
    · cases h1
      cases hb : (decide (0 ≤ i) && decide (i ≤ (most : Int))) with
      | false => rw [hb] at e; cases e
      | true =>
        rw [hb] at e
        simp only [cond_true, Option.some.injEq] at e
        simp only [Bool.and_eq_true, decide_eq_true_eq] at hb
        have := h3.of_scalar rfl
        subst this
        refine .inr ⟨k, ?_, by omega⟩
        rw [h2, ← e, Int.toNat_of_nonneg hb.1]
  · cases e

theorem run_bounds {P : Program} (isS : Bool) (len cap h l : Nat) (lo hi : Option Value) (hh : (hi = none ∧ h = len) ∨ (∃ k, hi = some (.int k h) ∧ h ≤ cap))
    (hl : (lo = none ∧ l = 0) ∨ (∃ k, lo = some (.int k l) ∧ l ≤ h)) (w : World) : (Instr.sliceBounds isS len cap lo hi none).run P w = .ok (l, h, cap) w := by
  unfold Instr.sliceBounds
  rcases hh with ⟨rfl, rfl⟩ | ⟨k, rfl, hk⟩ <;> rcases hl with ⟨rfl, rfl⟩ | ⟨k', rfl, hk'⟩ <;>
    simp [run_sliceBound, *]

theorem bound_le {v : Option Value} {dflt most n : Nat} (e : bound v dflt most = some n) (hd : dflt ≤ most) : n ≤ most := by
  unfold bound at e
  split at e
  · simp at e; omega
  · rename_i k i
    cases hb : (decide (0 ≤ i) && decide (i ≤ (most : Int))) with
    | false => rw [hb] at e; cases e
    | true =>
      rw [hb] at e
      simp only [cond_true, Option.some.injEq] at e
      simp only [Bool.and_eq_true, decide_eq_true_eq] at hb
      omega
  · cases e

theorem slice_ok (hE : E.OK) (r : R ι h w) {t : Nat} {x x' v : Value} {lo lo' hi hi' : Option Value} (hx : VR ι x x')
    (hlo : (lo = none ∧ lo' = none) ∨ ∃ y y', lo = some y ∧ lo' = some y' ∧ VR ι y y')
    (hhi : (hi = none ∧ hi' = none) ∨ ∃ y y', hi = some y ∧ hi' = some y' ∧ VR ι y y') (e : slice E h t x lo hi = some v) :
    ∃ v', (Instr.sliceAt t x' lo' hi' none).run E.P w = .ok v' w ∧ VR ι v v' := by
  unfold slice at e
  split at e
  · rename_i s hu
    have := hx.of_scalar rfl
    subst this
    split at e
    · rename_i h1 hh1
      split at e
      · rename_i l1 hl1
        cases e
        refine ⟨_, ?_, .scalar rfl⟩
        have b1 := bound_ok hhi hh1
        have b2 := bound_ok hlo hl1
        have q := run_bounds (P := E.P) false s.size s.size h1 l1 lo' hi' (b1.imp (fun a => ⟨a.2.1, a.2.2⟩) id) (b2.imp (fun a => ⟨a.2.1, a.2.2⟩) id) w
        simp only [Instr.sliceAt, Instr.slice, Sem.run_bind, run_und hE hu, Result.andThen_ok, Option.isSome_none, Bool.false_eq_true, if_false, q, Sem.run_pure]
      · cases e
    · cases e
  · rename_i e1 b o len cap hu
    cases hx with
    | scalar hs => simp [scalar] at hs
    | slice hm hl hc' ho ht =>
    rename_i o' cap' m
    split at e
    · rename_i inf h1 hinf hh1
      split at e
      · rename_i l1 hl1 hB
        cases hc : Nat.beq cap 0 with
        | false => rw [hc] at e; cases e
        | true =>
        rw [hc] at e
        cases e
        have hcap0 : cap = 0 := Nat.eq_of_beq_eq_true hc
        have b1 := bound_ok hhi hh1
        have b2 := bound_ok hlo hl1
        have hle := bound_le hh1 hl
        have hle2 := bound_le hl1 (Nat.zero_le _)
        have q := run_bounds (P := E.P) true len cap' h1 l1 lo' hi' (b1.imp (fun a => ⟨a.2.1, a.2.2⟩) fun ⟨k, a, b⟩ => ⟨k, a, Nat.le_trans b hc'⟩)
          (b2.imp (fun a => ⟨a.2.1, a.2.2⟩) id) w
        have e1 : h1 = 0 := by omega
        have e2 : l1 = 0 := by omega
        subst e1 e2
        refine ⟨.slice (some ⟨m.blk, o', none⟩) 0 cap', ?_, .slice hm (Nat.le_refl _) (Nat.zero_le _) (.inl rfl) ht⟩
        simp only [Instr.sliceAt, Instr.slice, Sem.run_bind, run_und hE hu, Result.andThen_ok, q, run_size hE hinf, Sem.run_pure]
        split
        · rfl
        · simp [add_lit']
      · rename_i l1 B hl1 hB
        cases hc : (Nat.beq B.esz 0 || Nat.beq B.esz inf.size) with
        | false => rw [hc] at e; cases e
        | true =>
        rw [hc] at e
        simp only [Bool.or_eq_true] at hc
        cases e
        obtain ⟨_, hes, _⟩ := r.live b m B hm hB
        have b1 := bound_ok hhi hh1
        have b2 := bound_ok hlo hl1
        have hle := bound_le hh1 hl
        have hle2 := bound_le hl1 (Nat.zero_le _)
        have q := run_bounds (P := E.P) true len cap' h1 l1 lo' hi' (b1.imp (fun a => ⟨a.2.1, a.2.2⟩) fun ⟨k, a, b⟩ => ⟨k, a, Nat.le_trans b hc'⟩)
          (b2.imp (fun a => ⟨a.2.1, a.2.2⟩) id) w
        by_cases hml : cap' = l1
        · refine ⟨.slice (some ⟨m.blk, o', none⟩) (h1 - l1) (cap' - l1), ?_, ?_⟩
          · simp only [Instr.sliceAt, Instr.slice, Sem.run_bind, run_und hE hu, Result.andThen_ok, q, run_size hE hinf, Sem.run_pure]
            rw [if_pos hml]
          · refine .slice hm (by omega) (by omega) (.inl (by omega)) ?_
            rcases ht with h2 | ⟨h2, h3⟩
            · exact .inl h2
            · refine .inr ⟨h2, Nat.le_trans (Nat.add_le_add_left (Nat.mul_le_mul_right _ (by omega)) _) h3⟩
        · refine ⟨.slice (some ⟨m.blk, o' + l1 * inf.size, none⟩) (h1 - l1) (cap' - l1), ?_, ?_⟩
          · simp only [Instr.sliceAt, Instr.slice, Sem.run_bind, run_und hE hu, Result.andThen_ok, q, run_size hE hinf, Sem.run_pure]
            rw [if_neg hml]
            simp only [Option.map_some, add_lit']
          · refine .slice hm (by omega) (by omega) ?_ ?_
            · rcases ho with h2 | h2
              · exact .inl (by omega)
              · exact .inr (by rw [h2, Nat.add_assoc])
            · rcases hc with hc | hc
              · exact .inl (by rw [hes]; exact Nat.eq_of_beq_eq_true hc)
              · rcases ht with h2 | ⟨h2, h3⟩
                · exact .inl h2
                · refine .inr ⟨by omega, ?_⟩
                  have he : inf.size = m.esz := by rw [hes]; exact (Nat.eq_of_beq_eq_true hc).symm
                  rw [he, Nat.add_assoc, ← Nat.add_mul]
                  have : l1 + (cap' - l1) = cap' := by omega
                  rw [this]; exact h3
      · cases e
    · cases e
  · rename_i e1 hu
    have := hx.of_scalar rfl
    subst this
    split at e
    · rename_i inf h1 hinf hh1
      split at e
      · rename_i l1 hl1
        cases e
        have b1 := bound_ok hhi hh1
        have b2 := bound_ok hlo hl1
        have hle := bound_le hh1 (Nat.le_refl _)
        have hle2 := bound_le hl1 (Nat.zero_le _)
        have q := run_bounds (P := E.P) true 0 0 h1 l1 lo' hi' (b1.imp (fun a => ⟨a.2.1, a.2.2⟩) id) (b2.imp (fun a => ⟨a.2.1, a.2.2⟩) id) w
        have e1 : h1 = 0 := by omega
        have e2 : l1 = 0 := by omega
        subst e1 e2
        refine ⟨.slice none 0 0, ?_, .scalar rfl⟩
        simp only [Instr.sliceAt, Instr.slice, Sem.run_bind, run_und hE hu, Result.andThen_ok, q, run_size hE hinf, Sem.run_pure]
        rfl
      · cases e
    · cases e
  · rename_i n e1 b o hu
    cases hx with
    | scalar hs => simp [scalar] at hs
    | ptr hm =>
    rename_i m
    split at e
    · rename_i inf h1 hinf hh1
      split at e
      · rename_i l1 B hl1 hB
        cases hb : (Nat.beq n l1 || !Nat.beq B.esz 0) with
        | true => rw [hb] at e; cases e
        | false =>
          rw [hb] at e
          simp only [cond_false, Option.some.injEq] at e
          simp only [Bool.or_eq_false_iff, Bool.not_eq_false'] at hb
          obtain ⟨hb, hbe⟩ := hb
          subst e
          obtain ⟨_, hes, _⟩ := r.live b m B hm hB
          have b1 := bound_ok hhi hh1
          have b2 := bound_ok hlo hl1
          have hle := bound_le hh1 (Nat.le_refl _)
          have hle2 := bound_le hl1 (Nat.zero_le _)
          have q := run_bounds (P := E.P) false n n h1 l1 lo' hi' (b1.imp (fun a => ⟨a.2.1, a.2.2⟩) id) (b2.imp (fun a => ⟨a.2.1, a.2.2⟩) id) w
          have hnl : ¬ (n = l1) := fun e => by rw [T.beq_eq e] at hb; cases hb
          refine ⟨.slice (some ⟨m.blk, m.base + o + l1 * inf.size, none⟩) (h1 - l1) (n - l1), ?_, ?_⟩
          · simp only [Instr.sliceAt, Instr.sureAddr, Sem.run_bind, run_und hE hu, Result.andThen_ok, q, run_size hE hinf, Sem.run_pure, if_neg hnl, add_lit']
          · exact .slice hm (by omega) (Nat.le_refl _) (.inr (by rw [Nat.add_assoc])) (.inl (by rw [hes]; exact Nat.eq_of_beq_eq_true hbe))
      · cases e
    · cases e
  · cases e
end
end Go.AM
