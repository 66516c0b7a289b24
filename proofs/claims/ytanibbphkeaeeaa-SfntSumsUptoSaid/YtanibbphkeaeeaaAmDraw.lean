/- The small machine AM: regions that draw their order: what is known of the classes of operations. -/
import Derived.Test.YtanibbphkeaeeaaAmExec
namespace Go.AM

/-- a value that bears one new block -/
structure MK (mk : Nat → Value) (n esz : Nat) : Prop where
  rel : ∀ (ι : Inj) (b k : Nat), ι b = some ⟨k, 0, n, esz⟩ → VR ι (mk b) (mk k)

theorem MK.ptr (n esz : Nat) : MK (fun b => ptr b 0) n esz := ⟨fun _ _ _ h => ptr_new h⟩
theorem MK.slice {n esz len cap : Nat} (h1 : len ≤ cap) (h2 : cap * esz ≤ n) : MK (fun b => .slice (some ⟨b, 0, none⟩) len cap) n esz :=
  ⟨fun _ _ k h => by
    have := VR.slice (o := 0) (o' := k - k) (cap' := cap) h h1 (Nat.le_refl _) (.inr (by simp)) (.inr ⟨by simp, by simp; exact h2⟩)
    simpa using this⟩

def Raw (E : Env) (ι : Inj) (h : Heap) (w : World) (res : Result Value) (v : Value) (h' : Heap) : Prop :=
  ∃ (l l' : List Value) (esz : Nat) (e : TypeId) (mk : Nat → Value), v = mk h.next ∧ h' = h.alloc l esz ∧ MK mk l.length esz ∧ LR ι l l' ∧
    res = .ok (mk w.heap.size) (w.alloc (.cells l'.toArray e)) ∧ E.P = E.P

section
variable {E : Env} {ι : Inj} {h : Heap} {w : World}

theorem alloc_raw (hE : E.OK) {t : Nat} {v : Value} {h' : Heap} (e : alloc E h t = some (v, h')) : Raw E ι h w ((Instr.alloc t true (.tuple #[])).run E.P w) v h' := by
  unfold alloc at e
  split at e
  · rename_i l hl
    cases e
    obtain ⟨i, z, _, _, h1, h2, h3, h4⟩ := zeroCells_ok hE hl
    refine ⟨l, l, 0, t, fun b => ptr b 0, rfl, rfl, .ptr _ _, LR.scalar_refl h3, ?_, rfl⟩
    have : z.cells = l.toArray := by rw [← h1]
    simp [Instr.alloc, h4, newVar, newRow, this, ptr]
  · cases e

theorem box_raw {t : Nat} {x x' v : Value} {h' : Heap} (hx : VR ι x x') (e : box h x = some (v, h')) : Raw E ι h w ((Instr.box t x').run E.P w) v h' := by
  unfold box at e
  cases hc : allOne (cellsOf x) with
  | false => rw [hc] at e; cases e
  | true =>
    rw [hc] at e
    simp only [cond_true, Option.some.injEq, Prod.mk.injEq] at e
    obtain ⟨rfl, rfl⟩ := e
    obtain ⟨hlr, _⟩ := cells_rel hx hc
    refine ⟨_, x'.cells.toList, 0, t, fun b => ptr b 0, rfl, rfl, .ptr _ _, hlr, ?_, rfl⟩
    simp [Instr.box, newVar, newRow, ptr]

theorem lay_length {s : Nat} : ∀ (ps : List (Nat × Value)) (c l : List Value), lay (fun k => some (k * s, s)) c ps = some l → l.length = c.length
  | [], c, l, e => by simp [lay] at e; rw [e]
  | (k, v) :: ps, c, l, e => by
    simp only [lay] at e
    cases hb : (Nat.beq (cellsOf v).length s && (Nat.ble (k * s + s) c.length && allOne (cellsOf v))) with
    | false => rw [hb] at e; cases e
    | true =>
      rw [hb] at e
      simp only [cond_true] at e
      simp only [Bool.and_eq_true] at hb
      have q1 := Nat.eq_of_beq_eq_true hb.1
      have q2 := Nat.le_of_ble_eq_true hb.2.1
      rw [lay_length ps _ _ e]
      simp only [List.length_append, List.length_take, List.length_drop, q1]
      omega

theorem buildSlice_raw (hE : E.OK) {t n : Nat} {parts parts' : List (Nat × Value)} {v : Value} {h' : Heap} (hp : PR ι parts parts')
    (e : buildSlice E h t n parts = some (v, h')) : Raw E ι h w ((Instr.buildSlice t n parts'.toArray).run E.P w) v h' := by
  unfold buildSlice at e
  split at e
  · rename_i e1 hu
    split at e
    · rename_i i z hi hz
      obtain ⟨i', zv, hi', _, z1, z2, z3, z4⟩ := zeroCells_ok hE hz
      rw [hi] at hi'; cases hi'
      cases hb : (Nat.beq i.size 0 || Nat.blt 16777216 (n * i.size)) with
      | true => rw [hb] at e; cases e
      | false =>
        rw [hb] at e
        simp only [cond_false] at e
        simp only [Bool.or_eq_false_iff] at hb
        have hs0 : 0 < i.size := by
          rcases Nat.eq_zero_or_pos i.size with h0 | h0
          · rw [h0] at hb; exact absurd hb.1 (by decide)
          · exact h0
        have hbig : ¬ (n * i.size > 2 ^ 24) := by
          intro hc
          have : Nat.blt 16777216 (n * i.size) = true := Nat.ble_eq_true_of_le hc
          rw [this] at hb; exact absurd hb.2 (by decide)
        split at e
        · rename_i l hl
          cases ho : allOne l with
          | false => rw [ho] at e; cases e
          | true =>
            rw [ho] at e
            simp only [cond_true, Option.some.injEq, Prod.mk.injEq] at e
            obtain ⟨rfl, rfl⟩ := e
            have hzs : zv.cells.size = i.size := by rw [← z2, ← z1]; simp
            obtain ⟨cs, hcs1, hcs2⟩ : ∃ cs : Array Value, (if n * i.size = 0 then (pure #[] : Sem (Array Value)) else do pure (← zeroValue e1).cells).run E.P w = .ok cs w ∧
                ((Array.range (n * i.size)).map (fun k => cs[k % cs.size]!)).toList = repeated z n := by
              by_cases h0 : n * i.size = 0
              · refine ⟨#[], by rw [if_pos h0]; rfl, ?_⟩
                have : n = 0 := by
                  rcases Nat.mul_eq_zero.1 h0 with h | h
                  · exact h
                  · omega
                subst this; simp [repeated]
              · refine ⟨zv.cells, by rw [if_neg h0]; simp [z4], ?_⟩
                rw [range_repeated zv.cells n i.size (.inr ⟨hzs, hs0⟩), z1]
            obtain ⟨l', g1, g2⟩ := lay_ok (cells' := (Array.range (n * i.size)).map (fun k => cs[k % cs.size]!)) hp (by rw [hcs2]; exact LR.scalar_refl (allS_repeated z3 n)) hl
            have hll : l.length = n * i.size := by rw [lay_length _ _ _ hl, repeated_length, z2]
            refine ⟨l, l'.toList, i.size, e1, fun b => .slice (some ⟨b, 0, none⟩) n n, rfl, rfl, .slice (Nat.le_refl _) (Nat.le_of_eq hll.symm), g2, ?_, rfl⟩
            by_cases h0 : n * i.size = 0
            · rw [if_pos h0] at hcs1
              simp only [Sem.run_pure, Result.ok.injEq, and_true] at hcs1
              subst hcs1
              simp only [Instr.buildSlice, Sem.run_bind, run_und hE hu, Result.andThen_ok, run_size hE hi, if_neg hbig, if_pos h0, Sem.run_pure, g1, newRow, run_newObj, World.alloc_eq]
            · rw [if_neg h0] at hcs1
              simp only [Sem.run_bind, z4, Result.andThen_ok, Sem.run_pure, Result.ok.injEq, and_true] at hcs1
              subst hcs1
              simp only [Instr.buildSlice, Sem.run_bind, run_und hE hu, Result.andThen_ok, run_size hE hi, if_neg hbig, if_neg h0, z4, Sem.run_pure, g1, newRow, run_newObj, World.alloc_eq]
        · cases e
    · cases e
  · cases e

theorem makeSlice_raw (hE : E.OK) {t : Nat} {a a' b b' v : Value} {h' : Heap} (ha : VR ι a a') (hb : VR ι b b') (e : makeSlice E h t a b = some (v, h')) :
    Raw E ι h w ((Instr.makeSlice t a' b').run E.P w) v h' := by
  unfold makeSlice at e
  split at e
  · rename_i e1 k1 l k2 c hu
    have := ha.of_scalar rfl; subst this
    have := hb.of_scalar rfl; subst this
    split at e
    · rename_i i z hi hz
      obtain ⟨i', zv, hi', _, z1, z2, z3, z4⟩ := zeroCells_ok hE hz
      rw [hi] at hi'; cases hi'
      cases hc : (decide (0 < i.size) && (decide (0 ≤ l) && (decide (l ≤ c) && (decide (c ≤ 1099511627776) && decide (i.bytes ≤ 256))))) with
      | false => rw [hc] at e; cases e
      | true =>
        rw [hc] at e
        simp only [cond_true, Option.some.injEq, Prod.mk.injEq] at e
        obtain ⟨rfl, rfl⟩ := e
        simp only [Bool.and_eq_true, decide_eq_true_eq] at hc
        obtain ⟨c1, c2, c3, c4, c5⟩ := hc
        have w1 : IntKind.i64.wrap l = l := wrap_small c2 (by omega)
        have w2 : IntKind.i64.wrap c = c := wrap_small (by omega) (by omega)
        have hzs : zv.cells.size = i.size := by rw [← z2, ← z1]; simp
        have hbytes : ¬ ((i.bytes : Int) * c > 281474976710656) := by
          have h1 : (i.bytes : Int) * c ≤ 256 * c := Int.mul_le_mul_of_nonneg_right (by omega) (by omega)
          omega
        obtain ⟨cs, hcs1, hcs2⟩ : ∃ cs : Array Value, (if c.toNat * i.size = 0 then (pure #[] : Sem (Array Value)) else do pure (← zeroValue e1).cells).run E.P w = .ok cs w ∧
            ((Array.range (c.toNat * i.size)).map (fun k => cs[k % cs.size]!)).toList = repeated z c.toNat := by
          by_cases h0 : c.toNat * i.size = 0
          · refine ⟨#[], by rw [if_pos h0]; rfl, ?_⟩
            have : c.toNat = 0 := by
              rcases Nat.mul_eq_zero.1 h0 with h | h
              · exact h
              · omega
            rw [this]; simp [repeated]
          · refine ⟨zv.cells, by rw [if_neg h0]; simp [z4], ?_⟩
            rw [range_repeated zv.cells c.toNat i.size (.inr ⟨hzs, c1⟩), z1]
        refine ⟨repeated z c.toNat, repeated z c.toNat, i.size, e1, fun b => .slice (some ⟨b, 0, none⟩) l.toNat c.toNat, rfl, rfl,
          .slice (by omega) (by rw [repeated_length, z2]; exact Nat.le_refl _), LR.scalar_refl (allS_repeated z3 c.toNat), ?_, rfl⟩
        have e1' : (repeated z c.toNat).toArray = (Array.range (c.toNat * i.size)).map (fun k => cs[k % cs.size]!) := by
          rw [← hcs2]
        rw [e1']
        simp only [Instr.makeSlice, Sem.run_bind, run_und hE hu, Result.andThen_ok, asInt, asIntOf, Sem.run_pure, run_inf hE hi, w1, w2, Int.reducePow]
        rw [if_neg (by simp only [Bool.or_eq_true, decide_eq_true_eq]; omega)]
        by_cases h0 : c.toNat * i.size = 0
        · rw [if_pos h0] at hcs1
          simp only [Sem.run_pure, Result.ok.injEq, and_true] at hcs1
          subst hcs1
          simp only [run_askRoom, Result.andThen_ok, run_size hE hi, Sem.run_bind, if_pos h0, newRow, run_newObj, Sem.run_pure, World.alloc_eq]
        · rw [if_neg h0] at hcs1
          simp only [Sem.run_bind, z4, Result.andThen_ok, Sem.run_pure, Result.ok.injEq, and_true] at hcs1
          subst hcs1
          simp only [run_askRoom, Result.andThen_ok, run_size hE hi, Sem.run_bind, if_neg h0, z4, newRow, run_newObj, Sem.run_pure, World.alloc_eq]
    · cases e
  · cases e

variable {ρ ρ' : Operand → Value}

theorem raw_next {s : Sem Value} {v : Value} {h' : Heap} (hr : Raw E ι h w (s.run E.P w) v h') :
    ∃ (l l' : List Value) (esz : Nat) (e : TypeId) (mk : Nat → Value), v = mk h.next ∧ h' = h.alloc l esz ∧ MK mk l.length esz ∧ LR ι l l' ∧
      (do pure (.value (← s)) : Sem Next).run E.P w = .ok (.value (mk w.heap.size)) (w.alloc (.cells l'.toArray e)) := by
  obtain ⟨l, l', esz, e, mk, h1, h2, h3, h4, h5, _⟩ := hr
  exact ⟨l, l', esz, e, mk, h1, h2, h3, h4, by rw [run_v, h5]; rfl⟩

theorem clsCall_ne {c : Callee} {k : Cls} (h1 : k ≠ .pure) (h2 : k ≠ .eff) : clsCall c ≠ k := by
  unfold clsCall
  split <;> first | exact fun h => h1 h.symm | exact fun h => h2 h.symm

/-- an operation that lays a block -/
theorem op_alloc (hE : E.OK) {o : Oper} {out : Out} (hc : cls o.op = .alloc) (hρ : ∀ x ∈ o.op.operands, VR ι (ρ x) (ρ' x)) (e : op E ρ h o.op = some out) :
    ∃ (l l' : List Value) (esz : Nat) (e : TypeId) (mk : Nat → Value), out = .value (mk h.next) (h.alloc l esz) ∧ MK mk l.length esz ∧ LR ι l l' ∧
      (execOp ρ' o).run E.P w = .ok (.value (mk w.heap.size)) (w.alloc (.cells l'.toArray e)) := by
  obtain ⟨dst, p, type, pos, after, guard⟩ := o
  simp only at hρ e hc
  cases p <;> simp only [Op.operands] at hρ <;> simp only [op, reduceCtorEq] at e <;> simp only [cls, reduceCtorEq] at hc
  case alloc t =>
    obtain ⟨v, h', e1, rfl⟩ := valH_some e
    obtain ⟨l, l', esz, e, mk, h1, h2, h3, h4, h5⟩ := raw_next (alloc_raw (ι := ι) (w := w) hE e1)
    exact ⟨l, l', esz, e, mk, by rw [h1, h2], h3, h4, h5⟩
  case box t x =>
    obtain ⟨v, h', e1, rfl⟩ := valH_some e
    obtain ⟨l, l', esz, e, mk, h1, h2, h3, h4, h5⟩ := raw_next (E := E) (box_raw (t := t) (w := w) (hρ x (by simp)) e1)
    exact ⟨l, l', esz, e, mk, by rw [h1, h2], h3, h4, h5⟩
  case buildSlice t n ps =>
    obtain ⟨v, h', e1, rfl⟩ := valH_some e
    have hp : PR ι (pairsOf ρ ps.toList) (pairsOf ρ' ps.toList) := pairsOf_rel _ fun x hx => hρ x.2 (by simp; exact ⟨x.1, by simpa using hx⟩)
    have hmap : (ps.map fun (i, x) => (i, ρ' x)) = (pairsOf ρ' ps.toList).toArray := by rw [pairsOf_map]; apply Array.ext'; simp
    obtain ⟨l, l', esz, e, mk, h1, h2, h3, h4, h5⟩ := raw_next (buildSlice_raw (w := w) hE hp e1)
    exact ⟨l, l', esz, e, mk, by rw [h1, h2], h3, h4, by simp only [execOp, hmap]; exact h5⟩
  case makeSlice t a b =>
    obtain ⟨v, h', e1, rfl⟩ := valH_some e
    obtain ⟨l, l', esz, e, mk, h1, h2, h3, h4, h5⟩ := raw_next (makeSlice_raw (w := w) hE (hρ a (by simp)) (hρ b (by simp)) e1)
    exact ⟨l, l', esz, e, mk, by rw [h1, h2], h3, h4, h5⟩
  case call c => exact absurd hc (clsCall_ne (by decide) (by decide))

theorem val_indep {x : Option Value} {out : Out} (e : val h x = some out) : ∃ v, out = .value v h ∧ ∀ h2, val h2 x = some (.value v h2) := by
  obtain ⟨v, h1, rfl⟩ := val_some e
  exact ⟨v, rfl, fun h2 => by rw [h1]; rfl⟩

theorem valHP_indep {b : Bool} {x : Option Value} {out : Out} (e : cond b (valH (valP h x)) none = some out) : ∃ v, out = .value v h ∧ ∀ h2, cond b (valH (valP h2 x)) none = some (.value v h2) := by
  cases b with
  | false => cases e
  | true =>
    obtain ⟨v, h1, h2, rfl⟩ := valP_some e
    exact ⟨v, rfl, fun h2' => by simp only [cond_true, h1, valP, h2, valH]⟩

/-- an operation that looks at no memory -/
theorem op_pure {o : Op} {out : Out} (hc : cls o = .pure) (e : op E ρ h o = some out) : ∃ v, out = .value v h ∧ ∀ h2, op E ρ h2 o = some (.value v h2) := by
  cases o <;> simp only [op, reduceCtorEq] at e <;> simp only [cls, reduceCtorEq] at hc <;> simp only [op]
  case move x => cases e; exact ⟨_, rfl, fun _ => rfl⟩
  case assign x => cases e; exact ⟨_, rfl, fun _ => rfl⟩
  case pick c a b =>
    split at e
    · cases e; exact ⟨_, rfl, fun _ => rfl⟩
    · cases e
  case build => exact val_indep e
  case nilCheck => exact val_indep e
  case binOp => exact val_indep e
  case unOp => exact valHP_indep e
  case makeInterface t x =>
    split at e
    · cases e
    · cases e
      exact ⟨_, rfl, fun _ => rfl⟩
    · cases e
  case makeFunc => cases e; exact ⟨_, rfl, fun _ => rfl⟩
  case fieldAddr => exact val_indep e
  case field => exact val_indep e
  case indexAddr => exact val_indep e
  case index => exact val_indep e
  case extract x i =>
    split at e
    · rename_i vs hvs
      obtain ⟨v, h1, h2⟩ := val_indep e
      exact ⟨v, h1, h2⟩
    · cases e
  case call c =>
    unfold call at e ⊢
    generalize c.callee = cal at *
    cases cal with
    | value f => simp [clsCall] at hc
    | invoke r m => simp [clsCall] at hc
    | builtin b =>
      cases b <;> simp only [clsCall, reduceCtorEq] at hc <;> simp only at e ⊢
      · generalize argsOf ρ c.args.toList = l at *
        generalize c.argTypes.toList = ts at *
        rcases l with _ | ⟨x, _ | ⟨y, l⟩⟩ <;> rcases ts with _ | ⟨t, _ | ⟨u, ts⟩⟩ <;> first | exact val_indep e | cases e
      · exact valHP_indep e
      · exact valHP_indep e

/-- an operation that reads -/
theorem op_read {o : Op} {out : Out} (hc : cls o = .read) (e : op E ρ h o = some out) : ∃ v, out = .value v h := by
  cases o <;> simp only [op, reduceCtorEq] at e <;> simp only [cls, reduceCtorEq] at hc
  case load => obtain ⟨v, _, rfl⟩ := val_some e; exact ⟨v, rfl⟩
  case slice t x lo hi mx =>
    cases mx with
    | none => obtain ⟨v, _, rfl⟩ := val_some e; exact ⟨v, rfl⟩
    | some m => cases e
  case call c => exact absurd hc (clsCall_ne (by decide) (by decide))
end
end Go.AM
