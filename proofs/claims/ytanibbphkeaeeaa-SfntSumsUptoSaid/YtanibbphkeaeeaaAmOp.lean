/- The small machine AM: each of its operations does what the model's does. -/
import Derived.Test.YtanibbphkeaeeaaAmRel
import Derived.Laws.Entries
import Derived.Laws.Append
import Derived.Laws.BytesString
import Derived.Laws.Slices
namespace Go.AM

structure Env.OK (E : Env) : Prop where
  info : ∀ t i, E.info t = some i → E.P.info? t = some i
  und : ∀ t d, E.und t = some d → E.P.underlying t = some d
  fn : ∀ f g, E.fn f = some g → E.P.funcs[f]? = some g
  mixed : E.P.follows .mixedOrders = true

theorem peel_run {α : Type} (P : Program) : ∀ (s : Sem α) (a : α), peel P s = some a → ∀ w, s.run P w = .ok a w := by
  intro s
  induction s with
  | pure a => intro b h w; simp [peel] at h; subst h; rfl
  | program k ih => intro b h w; simp only [peel] at h; simp only [Sem.run]; exact ih P b h w
  | mark m k ih => intro b h w; simp only [peel] at h; simp only [Sem.run]; exact ih b h w
  | _ => intro b h; simp [peel] at h

def Val (ι : Inj) (h : Heap) (w : World) (res : Result Value) (v : Value) (h' : Heap) : Prop :=
  ∃ ι' v' w', res = .ok v' w' ∧ Ext ι h w ι' h' w' ∧ R ι' h' w' ∧ VR ι' v v'


section
variable {E : Env} {ι : Inj} {h : Heap} {w : World}

theorem run_und (hE : E.OK) {t : Nat} {d : TypeDesc} (e : E.und t = some d) (w : World) : (underlying t).run E.P w = .ok d w := run_underlying (hE.und t d e) w
theorem run_inf (hE : E.OK) {t : Nat} {i : TypeInfo} (e : E.info t = some i) (w : World) : (typeInfo t).run E.P w = .ok i w := by
  simp [typeInfo, hE.info t i e]
theorem run_size (hE : E.OK) {t : Nat} {i : TypeInfo} (e : E.info t = some i) (w : World) : (sizeOf t).run E.P w = .ok i.size w := by
  simp [sizeOf, run_inf hE e]
theorem run_agg (hE : E.OK) {t : Nat} {d : TypeDesc} (e : E.und t = some d) (w : World) : (isAgg t).run E.P w = .ok (isAggD d) w := by
  unfold isAgg
  simp only [Sem.run_bind, run_und hE e, Result.andThen_ok]
  cases d <;> rfl

theorem add_lit' (b o n : Nat) : Addr.add ⟨b, o, none⟩ n = ⟨b, o + n, none⟩ := Addr.add_lit b o n

theorem load_ok (hE : E.OK) (r : R ι h w) {t : Nat} {a a' x : Value} (ha : VR ι a a') (e : load E h t a = some x) :
    ∃ x', (Instr.loadAt t a').run E.P w = .ok x' w ∧ VR ι x x' := by
  unfold load at e
  split at e
  · rename_i b o
    cases ha with
    | scalar hs => simp [scalar] at hs
    | ptr hm =>
    rename_i m
    split at e
    · rename_i d i hd hi
      simp only [Instr.loadAt, Instr.sureAddr, loadVar, Sem.run_bind, Sem.run_pure, Result.andThen_ok, run_agg hE hd]
      cases hb : isAggD d with
      | true =>
        rw [hb] at e
        simp only [cond_true] at e
        split at e
        · rename_i l hl
          cases e
          obtain ⟨l', h1, h2, h3⟩ := r.row hm hl
          refine ⟨.agg l'.toArray, ?_, .agg h1.1 h1.2⟩
          have hlen : i.size = l'.length := by rw [← h1.1, h2]
          simp only [if_true, Sem.run_bind, run_size hE hi, Result.andThen_ok, hlen]
          rw [run_loadCells_list w ⟨m.blk, m.base + o, none⟩ l' (fun j v hv => by rw [add_lit']; exact h3 j v hv)]
          rfl
        · cases e
      | false =>
        rw [hb] at e
        simp only [cond_false] at e
        obtain ⟨x', h1, h2⟩ := r.cell hm e
        refine ⟨x', ?_, h2⟩
        simp only [Bool.false_eq_true, if_false, run_load, h1]
    · cases e
  · cases e

theorem cells_rel {v v' : Value} (hv : VR ι v v') (ho : allOne (cellsOf v) = true) : LR ι (cellsOf v) v'.cells.toList ∧ v'.cells.toList.length = v'.cells.size := by
  refine ⟨?_, by simp⟩
  cases hv with
  | scalar hs =>
    have : cellsOf v = [v] ∧ v.cells.toList = [v] := by cases v <;> first | exact ⟨rfl, rfl⟩ | simp [scalar] at hs
    rw [this.1, this.2]; exact .cons (.scalar hs) .nil
  | junk => simp [cellsOf, allOne, oneCell] at ho
  | ptr h => exact .cons (.ptr h) .nil
  | slice h a b c d => exact .cons (.slice h a b c d) .nil
  | func a b c d => exact .cons (.func a b c d) .nil
  | iface h => exact .cons (.iface h) .nil
  | agg a b => exact ⟨by simpa [cellsOf, Value.cells] using a, by simpa [cellsOf, Value.cells] using b⟩
  | tuple a b => simp [cellsOf, allOne, oneCell] at ho

theorem oneCell_rel {v v' : Value} (hv : VR ι v v') (ho : oneCell v = true) : v'.oneCell' = true := by
  cases hv with
  | scalar hs => cases v <;> first | rfl | simp [oneCell] at ho | simp [scalar] at hs
  | junk => simp [oneCell] at ho
  | agg => simp [oneCell] at ho
  | tuple => simp [oneCell] at ho
  | _ => rfl

theorem allOne_cons {v : Value} {l : List Value} (h : allOne (v :: l) = true) : oneCell v = true ∧ allOne l = true := by
  cases e : oneCell v with
  | true => exact ⟨rfl, by simpa [allOne, e] using h⟩
  | false => simp [allOne, e] at h

theorem R.congr {h' : Heap} (r : R ι h w) (hn : h'.next = h.next) (hg : ∀ b, h'.blks.get b = h.blks.get b) : R ι h' w :=
  ⟨fun b m e => hn ▸ r.dom b m e, fun b m B e1 e2 => r.live b m B e1 (hg b ▸ e2), fun b1 b2 m1 m2 B1 B2 e1 e2 e3 e4 e45 e5 => r.inj b1 b2 m1 m2 B1 B2 e1 e2 (hg b1 ▸ e3) (hg b2 ▸ e4) e45 e5⟩

theorem Ext.congr {ι' : Inj} {h1 h1' : Heap} {w' : World} (x : Ext ι h w ι' h1 w') (hn : h1'.next = h1.next) (hg : ∀ b, h1'.blks.get b = h1.blks.get b) : Ext ι h w ι' h1' w' :=
  { x with next := hn ▸ x.next, orig := fun b m B e1 e2 e3 e4 => x.orig b m B e1 (hg b ▸ e2) e3 e4 }

/-- cells one behind the other are written -/
theorem storeCells_ok (P : Program) : ∀ (l l' : List Value) (i o : Nat) (b : Nat) (m : Img) (B : Blk) (h h' : Heap) (w : World) (a : Nat), R ι h w → ι b = some m → h.blks.get b = some B →
    B.ro = false → o + l.length ≤ B.size → LR ι l l' → allOne l = true → a + i = m.base + o → h'.next = h.next →
    (∀ x, h'.blks.get x = if x = b then some (B.fill o l) else h.blks.get x) →
    ∃ w', (storeCells ⟨m.blk, a, none⟩ l' i).run P w = .ok () w' ∧ R ι h' w' ∧ Ext ι h w ι h' w'
  | [], [], i, o, b, m, B, h, h', w, a, r, hm, hB, _, _, _, _, _, hn, hg => by
    have hg' : ∀ x, h'.blks.get x = h.blks.get x := fun x => by
      rw [hg]; split
      · rename_i e; subst e; rw [hB]; rfl
      · rfl
    exact ⟨w, rfl, r.congr hn hg', (Ext.refl ι h w).congr hn hg'⟩
  | [], _ :: _, _, _, _, _, _, _, _, _, _, _, _, _, _, _, hl, _, _, _, _ => absurd hl.1 (by simp)
  | _ :: _, [], _, _, _, _, _, _, _, _, _, _, _, _, _, _, hl, _, _, _, _ => absurd hl.1 (by simp)
  | v :: l, v' :: l', i, o, b, m, B, h, h', w, a, r, hm, hB, hro, hsz, hl, ho, ha, hn, hg => by
    obtain ⟨ho1, ho2⟩ := allOne_cons ho
    simp only [List.length_cons] at hsz
    have hlt : o < B.size := by omega
    obtain ⟨hbn, _⟩ := r.live b m B hm hB
    obtain ⟨x, hx⟩ : ∃ x, w.cell? ⟨m.blk, m.base + o, none⟩ = some x := by
      obtain ⟨_, _, c, e, lo, hi, hc, hs, _, hcells⟩ := r.live b m B hm hB
      obtain ⟨y, y', _, h2, _⟩ := hcells o hlt
      exact ⟨y', by simp [World.cell?, hc, h2]⟩
    have hf := r.free hm hB hro (o := o) (by omega)
    have r1 := r.write hm hB hro hlt hl.head
    have x1 : Ext ι h w ι { h with blks := h.blks.set b { B with cells := B.cells.set o v } } (w.setCell ⟨m.blk, m.base + o, none⟩ v') := Ext.write hm hB hro
    obtain ⟨w', e1, r2, x2⟩ := storeCells_ok P l l' (i + 1) (o + 1) b m { B with cells := B.cells.set o v } { h with blks := h.blks.set b { B with cells := B.cells.set o v } } h'
      (w.setCell ⟨m.blk, m.base + o, none⟩ v') a r1 hm (by simp [T.get_set]) hro (by simp only; omega) hl.tail ho2 (by omega) hn (fun x => by
        rw [hg]; split
        · rfl
        · rename_i e; simp [T.get_set, e])
    refine ⟨w', ?_, r2, x1.trans x2⟩
    simp only [storeCells, Sem.run_bind]
    rw [add_lit', ha, run_store P w _ v' .plain (oneCell_rel hl.head ho1), hx]
    simp only [hf, Bool.false_eq_true, if_false, Result.andThen_ok]
    exact e1

theorem heapStore_of {b o : Nat} {l : List Value} {h' : Heap} (e : h.store b o l = some h') :
    ∃ B, h.blks.get b = some B ∧ B.ro = false ∧ o + l.length ≤ B.size ∧ h' = { h with blks := h.blks.set b (B.fill o l) } := by
  unfold Heap.store at e
  split at e
  · rename_i B hB
    cases hc : (!B.ro && Nat.ble (o + l.length) B.size) with
    | false => rw [hc] at e; cases e
    | true =>
      rw [hc] at e
      simp only [Bool.and_eq_true, Bool.not_eq_true'] at hc
      simp only [cond_true, Option.some.injEq] at e
      exact ⟨B, hB, hc.1, Nat.le_of_ble_eq_true hc.2, e.symm⟩
  · cases e

theorem heapStore_ok (r : R ι h w) {b o : Nat} {l l' : List Value} {h' : Heap} {m : Img} (hm : ι b = some m) (e : h.store b o l = some h') (hl : LR ι l l') (ho : allOne l = true)
    (a i : Nat) (ha : a + i = m.base + o) : ∃ w', (storeCells ⟨m.blk, a, none⟩ l' i).run E.P w = .ok () w' ∧ R ι h' w' ∧ Ext ι h w ι h' w' := by
  obtain ⟨B, hB, hro, hsz, rfl⟩ := heapStore_of e
  exact storeCells_ok E.P l l' i o b m B h _ w a r hm hB hro hsz hl ho ha rfl (fun x => by simp [T.get_set])

theorem storeV_ok (hE : E.OK) (r : R ι h w) {t : Nat} {a a' v v' : Value} {h' : Heap} (ha : VR ι a a') (hv : VR ι v v') (e : storeV E h t a v = some h') :
    ∃ w', (Instr.storeAt t a' v').run E.P w = .ok () w' ∧ R ι h' w' ∧ Ext ι h w ι h' w' := by
  unfold storeV at e
  split at e
  · rename_i b o
    cases ha with
    | scalar hs => simp [scalar] at hs
    | ptr hm =>
    rename_i m
    split at e
    · rename_i i hi
      cases hc : (Nat.beq (cellsOf v).length i.size && allOne (cellsOf v)) with
      | false => rw [hc] at e; cases e
      | true =>
        rw [hc] at e
        simp only [cond_true] at e
        simp only [Bool.and_eq_true] at hc
        obtain ⟨hlr, hlen⟩ := cells_rel hv hc.2
        obtain ⟨w', h1, h2, h3⟩ := heapStore_ok (E := E) r hm e hlr hc.2 (m.base + o) 0 rfl
        refine ⟨w', ?_, h2, h3⟩
        have : v'.cells.size = i.size := by rw [← hlen, ← hlr.1]; exact Nat.eq_of_beq_eq_true hc.1
        simp only [Instr.storeAt, Instr.sureAddr, storeVar, Sem.run_bind, Sem.run_pure, Result.andThen_ok, run_size hE hi, this, ne_eq, not_true_eq_false, if_false]
        exact h1
    · cases e
  · cases e

theorem zeroCells_ok (hE : E.OK) {t : Nat} {l : List Value} (e : zeroCells E t = some l) : ∃ i z, E.info t = some i ∧ i.zero = some z ∧ z.cells.toList = l ∧ l.length = i.size ∧ allS l = true ∧
    ∀ w, (zeroValue t).run E.P w = .ok z w := by
  unfold zeroCells at e
  split at e
  · rename_i i hi
    split at e
    · rename_i z hz
      cases hc : (Nat.beq (cellsOf z).length i.size && allS (cellsOf z)) with
      | false => rw [hc] at e; cases e
      | true =>
        rw [hc] at e
        simp only [cond_true, Option.some.injEq] at e
        simp only [Bool.and_eq_true] at hc
        subst e
        refine ⟨i, z, hi, hz, ?_, Nat.eq_of_beq_eq_true hc.1, hc.2, fun w => ?_⟩
        · cases z <;> rfl
        · simp [zeroValue, run_inf hE hi, hz]
    · cases e
  · cases e

theorem ptr_new {ι' : Inj} {b k n e : Nat} (hb : ι' b = some ⟨k, 0, n, e⟩) : VR ι' (ptr b 0) (.pointer (some ⟨k, 0, none⟩)) := by
  have := VR.ptr (o := 0) hb
  simpa [ptr] using this

theorem alloc_ok (hE : E.OK) (r : R ι h w) {t : Nat} {v : Value} {h' : Heap} (e : alloc E h t = some (v, h')) : Val ι h w ((Instr.alloc t true (.tuple #[])).run E.P w) v h' := by
  unfold alloc at e
  split at e
  · rename_i l hl
    cases e
    obtain ⟨i, z, _, _, h1, h2, h3, h4⟩ := zeroCells_ok hE hl
    have rr := r.alloc (LR.scalar_refl h3) [] 0 t
    refine ⟨ι.add h.next ⟨w.heap.size, 0, (l ++ []).length, 0⟩, .pointer (some ⟨w.heap.size, 0, none⟩), w.alloc (.cells z.cells t), ?_, ?_, ?_, ptr_new (Inj.add_same _ _ _)⟩
    · simp [Instr.alloc, h4, newVar, newRow]
    · exact Ext.alloc r l 0 (l ++ []).length _
    · have : z.cells = (l ++ []).toArray := by simp [← h1]
      rw [this]; exact rr
  · cases e

theorem box_ok (r : R ι h w) {t : Nat} {x x' v : Value} {h' : Heap} (hx : VR ι x x') (e : box h x = some (v, h')) : Val ι h w ((Instr.box t x').run E.P w) v h' := by
  unfold box at e
  cases hc : allOne (cellsOf x) with
  | false => rw [hc] at e; cases e
  | true =>
    rw [hc] at e
    simp only [cond_true, Option.some.injEq, Prod.mk.injEq] at e
    obtain ⟨rfl, rfl⟩ := e
    obtain ⟨hlr, _⟩ := cells_rel hx hc
    have rr := r.alloc hlr [] 0 t
    refine ⟨ι.add h.next ⟨w.heap.size, 0, (x'.cells.toList ++ []).length, 0⟩, .pointer (some ⟨w.heap.size, 0, none⟩), w.alloc (.cells x'.cells t), ?_, ?_, ?_, ptr_new (Inj.add_same _ _ _)⟩
    · simp [Instr.box, newVar, newRow]
    · exact Ext.alloc r _ 0 (x'.cells.toList ++ []).length _
    · have : x'.cells = (x'.cells.toList ++ []).toArray := by simp
      rw [this]; simpa using rr
end
end Go.AM
