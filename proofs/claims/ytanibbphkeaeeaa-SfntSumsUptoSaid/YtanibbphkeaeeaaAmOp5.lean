/- The small machine AM: conversions, comparisons, the builtins; an operation as a whole. -/
import Derived.Test.YtanibbphkeaeeaaAmOp4
namespace Go.AM
section
variable {E : Env} {ι : Inj} {h : Heap} {w : World}

theorem lenV_ok (hE : E.OK) {t : Nat} {x x' v : Value} {ts : Array Nat} {ty : Nat} (hts : ts[0]? = some t) (hx : VR ι x x') (e : lenV E t x = some v) :
    (Builtin.len_ ts ty #[x']).run E.P w = .ok v w ∧ scalar v = true := by
  unfold lenV at e
  split at e
  · rename_i s hu
    cases e
    have := hx.of_scalar rfl; subst this
    simp [Builtin.len_, hts, run_und hE hu, goInt, scalar]
  · rename_i n e1 hu
    cases e
    simp [Builtin.len_, hts, run_und hE hu, goInt, scalar]
  · rename_i e1 a n c hu
    cases e
    cases hx with
    | scalar hs => simp [Builtin.len_, hts, run_und hE hu, goInt, scalar]
    | slice => simp [Builtin.len_, hts, run_und hE hu, goInt, scalar]
  · rename_i k e1 hu
    cases e
    have := hx.of_scalar rfl; subst this
    simp [Builtin.len_, hts, run_und hE hu, goInt, scalar]
  · cases e

theorem bytesOf_spec : ∀ {l : List Value} {bs : List UInt8}, bytesOf l = some bs → ∃ ns : List Int, l = ns.map (Value.int .u8) ∧ bs = ns.map fun n => UInt8.ofNat n.toNat
  | [], bs, e => by simp [bytesOf] at e; subst e; exact ⟨[], rfl, rfl⟩
  | v :: l, bs, e => by
    unfold bytesOf at e
    split at e
    · rename_i q; cases q
    · rename_i n l' q
      cases q
      split at e
      · rename_i bs' hb
        cases e
        obtain ⟨ns, h1, h2⟩ := bytesOf_spec hb
        exact ⟨n :: ns, by simp [h1], by simp [h2]⟩
      · cases e
    · cases e

theorem push_bytes : ∀ (ns : List Int) (r : ByteArray), ns.foldl (fun r n => r.push (UInt8.ofNat n.toNat)) r = ⟨r.data ++ (ns.map fun n => UInt8.ofNat n.toNat).toArray⟩
  | [], r => by simp
  | n :: ns, r => by
    rw [List.foldl_cons, push_bytes ns]
    apply ByteArray.ext
    apply Array.ext'
    simp [ByteArray.push]

theorem allS_ints (k : IntKind) : ∀ ns : List Int, allS (ns.map (Value.int k)) = true
  | [] => rfl
  | n :: ns => by simp only [List.map_cons, allS, scalar, cond_true]; exact allS_ints k ns

theorem flat_refl {v : Value} (hv : flat v = true) : VR ι v v := by
  cases v <;> first
    | exact .scalar hv
    | skip
  rename_i cs
  have := LR.scalar_refl (ι := ι) (l := cs.toList) hv
  exact VR.agg this.1 this.2

theorem plain_refl {v : Value} (hv : plain v = true) : VR ι v v := by
  cases v <;> first
    | exact .scalar hv
    | skip
  · exact .iface (flat_refl hv)
  · rename_i cs
    have := LR.scalar_refl (ι := ι) (l := cs.toList) hv
    exact VR.agg this.1 this.2

theorem cond_valP {b : Bool} {P : Program} {s : Sem Value} {v : Value} {h' : Heap} (e : cond b (valP h (peel P s)) none = some (v, h')) :
    b = true ∧ peel P s = some v ∧ plain v = true ∧ h' = h := by
  cases b with
  | false => cases e
  | true =>
    simp only [cond_true] at e
    unfold valP at e
    split at e
    · rename_i y hy
      cases hq : plain y with
      | false => rw [hq] at e; cases e
      | true =>
        rw [hq] at e
        simp only [cond_true, Option.some.injEq, Prod.mk.injEq] at e
        obtain ⟨rfl, rfl⟩ := e
        exact ⟨rfl, hy, hq, rfl⟩
    · cases e

/-- the mark behind a row -/
theorem R.mark (r : R ι h w) {b : Nat} {m : Img} {B : Blk} (hm : ι b = some m) (hB : h.blks.get b = some B) (hrB : B.ro = false) (off : Nat) (hoff : m.n ≤ off) :
    R ι h (w.freeze ⟨m.blk, off, none⟩ 1) := by
  have hget : ∀ k, (w.freeze ⟨m.blk, off, none⟩ 1).heap[k]? = if k = m.blk then (w.heap[k]?).map (fun
      | .cells c elem (lo, hi) => .cells c elem (if lo == hi then (off, off + 1) else (min lo off, max hi (off + 1)))
      | o => o) else w.heap[k]? := by
    intro k
    simp only [World.freeze, Nat.one_ne_zero, if_false, Array.getElem?_modify]
    by_cases hk : k = m.blk
    · subst hk; rw [if_pos rfl, if_pos rfl]; congr 1
    · have : ¬ (m.blk = k) := fun e => hk e.symm
      simp [hk, this]
  refine ⟨r.dom, fun x mx Bx h1 h2 => ?_, r.inj⟩
  obtain ⟨k1, k2, c, e, lo, hi, k3, k4, k5, k6⟩ := r.live x mx Bx h1 h2
  by_cases hx : mx.blk = m.blk
  · have hxb := (r.inj b x m mx B Bx hm h1 hB h2 hrB hx.symm).symm
    subst hxb
    rw [hm] at h1; cases h1
    by_cases hl : lo = hi
    · subst hl
      exact ⟨k1, k2, c, e, off, off + 1, by rw [hget, if_pos rfl, k3]; simp, k4, fun _ => .inr hoff, k6⟩
    · refine ⟨k1, k2, c, e, min lo off, max hi (off + 1), by rw [hget, if_pos rfl, k3]; simp [hl], k4, fun hro => ?_, k6⟩
      rcases k5 hro with h0 | h0
      · exact absurd h0 hl
      · exact .inr (Nat.le_min.2 ⟨h0, hoff⟩)
  · exact ⟨k1, k2, c, e, lo, hi, by rw [hget, if_neg hx]; exact k3, k4, k5, k6⟩

theorem Ext.mark {b : Nat} {m : Img} {B : Blk} (hm : ι b = some m) (hB : h.blks.get b = some B) (hro : B.ro = false) (off : Nat) :
    Ext ι h w ι h (w.freeze ⟨m.blk, off, none⟩ 1) where
  le := Inj.le_refl ι
  newb := fun _ _ h => .inl h
  next := Nat.le_refl _
  size := by simp [World.freeze]
  os := rfl
  output := rfl
  tape := rfl
  keep := fun k _ hn => by
    have : ¬ (m.blk = k) := fun e => hn b m B hm hB hro e
    simp [World.freeze, Array.getElem?_modify, this]
  orig := fun b' m' B' h1 h2 h3 _ => ⟨b', m', B', h1, h2, h3, rfl⟩

theorem run_markStringish {P : Program} (a : Addr) {c : Array Value} {e : TypeId} {lo hi : Nat} (hc : w.heap[a.block]? = some (.cells c e (lo, hi))) :
    (markStringish a).run P w = .ok () (w.freeze ⟨a.block, c.size, none⟩ 1) := by
  simp [markStringish, World.shape?, hc]

theorem convert_ok (hE : E.OK) (r : R ι h w) {s d : Nat} {x x' v : Value} {h' : Heap} (hx : VR ι x x') (e : convert E h s d x = some (v, h')) :
    Val ι h w ((Go.convert s d x').run E.P w) v h' := by
  unfold convert at e
  split at e
  · rename_i e1 a len cap hs hd
    split at e
    · rename_i hu8
      cases a with
      | none =>
        simp only [Option.some.injEq, Prod.mk.injEq] at e
        obtain ⟨rfl, rfl⟩ := e
        cases hx with
        | scalar hs' =>
          refine ⟨ι, _, w, ?_, Ext.refl ι h w, r, .scalar rfl⟩
          simp [Go.convert, run_und hE hs, run_und hE hd, run_und hE hu8, Conv.bytesToString]
      | some a =>
        obtain ⟨b, o, sp⟩ := a
        cases sp with
        | some sp => simp at e
        | none =>
        simp only at e
        split at e
        · rename_i l hl
          split at e
          · rename_i bs hbs
            simp only [Option.some.injEq, Prod.mk.injEq] at e
            obtain ⟨rfl, rfl⟩ := e
            obtain ⟨ns, rfl, rfl⟩ := bytesOf_spec hbs
            cases hx with
            | scalar hs => simp [scalar] at hs
            | slice hm hl1 hc ho ht =>
            rename_i o' cap' m
            refine ⟨ι, _, w, ?_, Ext.refl ι h w, r, .scalar rfl⟩
            obtain ⟨l', g1, g2, g3⟩ := r.row hm hl
            have hl' := LR.of_scalar (allS_ints .u8 ns) g1
            subst hl'
            have hload : (loadCells ⟨m.blk, o', none⟩ len).run E.P w = .ok (ns.map (Value.int .u8)).toArray w := by
              rcases ho with h0 | h0
              · have h0 : len = 0 := by omega
                subst h0
                have : ns = [] := by
                  cases ns with
                  | nil => rfl
                  | cons => simp at g2
                subst this
                simp [loadCells, loadCellsFrom]
              · subst h0
                have := run_loadCells_list (P := E.P) w ⟨m.blk, m.base + o, none⟩ (ns.map (Value.int .u8)) (fun j v hv => by rw [add_lit']; exact g3 j v hv)
                rw [g2] at this; exact this
            have hb := run_bytesToString w ⟨m.blk, o', none⟩ len cap' ns hload
            simp only [Go.convert, Sem.run_bind, run_und hE hs, run_und hE hd, run_und hE hu8, Result.andThen_ok]
            rw [hb, push_bytes]; simp
          · cases e
        · cases e
    · cases e
  · rename_i e1 st hs hd
    have := hx.of_scalar rfl
    subst this
    split at e
    · rename_i hu8
      cases hb : Nat.blt 1099511627776 st.size with
      | true => rw [hb] at e; cases e
      | false =>
      rw [hb] at e
      simp only [cond_false, Option.some.injEq, Prod.mk.injEq] at e
      obtain ⟨rfl, rfl⟩ := e
      have hall : ∀ s : ByteArray, allS (byteCells s) = true := by
        intro s
        unfold byteCells
        induction s.data.toList with
        | nil => rfl
        | cons b bs ih => simp only [List.map_cons, allS, scalar, cond_true]; exact ih
      obtain ⟨newCap, hcapdef⟩ : ∃ c, c = (Question.appendCap st.size 0 e1).cut (w.tape w.drawn (.appendCap st.size 0 e1)) := ⟨_, rfl⟩
      have hcap : st.size ≤ newCap := by rw [hcapdef]; simp [Question.cut]
      have rr := r.drew.alloc (LR.scalar_refl (ι := ι) (hall st)) (List.replicate (newCap - st.size) (Value.int .u8 0)) 1 e1
      have hnb : (h.alloc (byteCells st) 1).blks.get h.next = some { size := (byteCells st).length, esz := 1, ro := false, cells := T.ofList (byteCells st) } := by
        simp [Heap.alloc, T.get_set]
      have rm := rr.mark (Inj.add_same _ _ _) hnb rfl _ (Nat.le_refl _)
      have xm := Ext.mark (w := w.drew.alloc (.cells ((byteCells st) ++ List.replicate (newCap - st.size) (Value.int .u8 0)).toArray e1))
        (Inj.add_same ι h.next ⟨w.drew.heap.size, 0, ((byteCells st) ++ List.replicate (newCap - st.size) (Value.int .u8 0)).length, 1⟩) hnb rfl
        ((byteCells st) ++ List.replicate (newCap - st.size) (Value.int .u8 0)).length
      refine ⟨_, .slice (some ⟨w.heap.size, 0, none⟩) st.size newCap, _, ?_, ((Ext.drew ι h w).trans (Ext.alloc r.drew _ 1 _ _)).trans xm, rm,
        .slice (Inj.add_same _ _ _) (Nat.le_refl _) hcap (.inr rfl) (.inr ⟨Nat.le_refl _, ?_⟩)⟩
      · have hsz : (st.data.map fun b => Value.int .u8 b.toNat) ++ Array.replicate (newCap - st.size) (.int .u8 0) =
            ((byteCells st) ++ List.replicate (newCap - st.size) (Value.int .u8 0)).toArray := by
          apply Array.ext'; simp [byteCells]
        have hms := run_markStringish (P := E.P) (w := w.drew.alloc (.cells ((byteCells st) ++ List.replicate (newCap - st.size) (Value.int .u8 0)).toArray e1))
          ⟨w.heap.size, 0, none⟩ (c := ((byteCells st) ++ List.replicate (newCap - st.size) (Value.int .u8 0)).toArray) (e := e1) (lo := 0) (hi := 0)
          (by simp only [World.alloc]; exact Array.getElem?_push_size)
        simp only [Go.convert, Sem.run_bind, run_und hE hs, run_und hE hd, run_und hE hu8, Result.andThen_ok, Conv.stringToBytes, run_choose, Question.forced, Bool.false_eq_true, if_false, ← hcapdef,
          World.drew_eq, newRow, run_newObj, World.alloc_eq, Sem.run_pure, World.size_drew, hsz, hms]
        rfl
      · have : st.data.toList.length = st.size := Array.length_toList
        simp only [byteCells, List.length_append, List.length_map, List.length_replicate, this]; omega
    · cases e
  · rename_i e1 e2 b o len cap hs hd
    split at e
    · rename_i B hu8 hB
      cases hc : (Nat.beq s d && !B.ro) with
      | false => rw [hc] at e; cases e
      | true =>
      rw [hc] at e
      simp only [cond_true, Option.some.injEq, Prod.mk.injEq] at e
      simp only [Bool.and_eq_true, Bool.not_eq_true'] at hc
      obtain ⟨rfl, rfl⟩ := e
      have hsd := Nat.eq_of_beq_eq_true hc.1
      subst hsd
      rw [hs] at hd; cases hd
      cases hx with
      | scalar hs => simp [scalar] at hs
      | slice hm hl hcap ho ht =>
      rename_i o' cap' m
      obtain ⟨k1, k2, c, e3, lo, hi, k3, k4, k5, k6⟩ := r.live b m B hm hB
      have hms := run_markStringish (P := E.P) ⟨m.blk, o', none⟩ k3
      refine ⟨ι, .slice (some ⟨m.blk, o', none⟩) len cap', _, ?_, Ext.mark hm hB hc.2 c.size, r.mark hm hB hc.2 c.size (Nat.le_of_eq k4.symm), .slice hm hl hcap ho ht⟩
      simp only [Go.convert, Sem.run_bind, run_und hE hs, run_und hE hu8, Result.andThen_ok, beq_self_eq_true, hms, Sem.run_pure]
    · cases e
  · obtain ⟨hp, hv, hq, rfl⟩ := cond_valP e
    have := hx.of_plain hp
    subst this
    exact ⟨ι, v, w, peel_run _ _ _ hv w, Ext.refl ι _ w, r, plain_refl hq⟩

theorem binOpV_plain {op : BinOp} {t : Nat} {x y : Operand} {a b a' b' v : Value} (hE : E.OK) (ha : VR ι a a') (hb : VR ι b b') (e : binOpV E op t x y a b = some v) :
    ∃ v', (do eqGuard op t x y a' b'; Go.binOp op t a' b' : Sem Value).run E.P w = .ok v' w ∧ VR ι v v' := by
  unfold binOpV at e
  cases hp : (plain a && plain b) with
  | true =>
    rw [hp] at e
    simp only [cond_true] at e
    simp only [Bool.and_eq_true] at hp
    split at e
    · rename_i u hu
      cases hq : plain u with
      | false => rw [hq] at e; cases e
      | true =>
        rw [hq] at e
        simp only [cond_true, Option.some.injEq] at e
        subst e
        have h1 := ha.of_plain hp.1
        have h2 := hb.of_plain hp.2
        subst h1 h2
        exact ⟨u, peel_run _ _ _ hu w, plain_refl hq⟩
    · cases e
  | false =>
    rw [hp] at e
    simp only [cond_false] at e
    have key : ∀ d r, E.und t = some d → eqNil d a b = some r → (∀ n : Nat, (Op.equalIn (n + 1) t a' b').run E.P w = .ok r w) ∧
        (∀ op, (eqGuard op t x y a' b').run E.P w = .ok () w) ∧ Go.binOp .eql t a' b' = (do pure (.bool (← Op.equal t a' b'))) ∧ Go.binOp .neq t a' b' = (do pure (.bool (!(← Op.equal t a' b')))) := by
      intro d r hd hr
      have hun := fun w => run_und hE hd w
      unfold eqNil at hr
      split at hr <;> simp only [Option.some.injEq, reduceCtorEq] at hr <;> subst hr <;> cases ha <;> cases hb <;>
        first
          | (rename_i hs hs'; simp [scalar] at hs; done)
          | (rename_i hs hs'; simp [scalar] at hs'; done)
          | (rename_i hs; simp [scalar] at hs; done)
          | (refine ⟨fun n => ?_, ?_, ?_, ?_⟩
             · simp only [Op.equalIn, Sem.run_bind, hun, Result.andThen_ok]; rfl
             · intro op; cases op <;> rfl
             · rfl
             · rfl)
    split at e
    · rename_i d hd
      split at e
      · rename_i r hr
        cases e
        obtain ⟨k1, k2, k3, _⟩ := key d r hd hr
        refine ⟨_, ?_, .scalar rfl⟩
        have k0 : (Op.equal t a' b').run E.P w = .ok r w := k1 9999
        simp only [Sem.run_bind, k2, Result.andThen_ok, k3, k0, Sem.run_pure]
      · cases e
    · rename_i d hd
      split at e
      · rename_i r hr
        cases e
        obtain ⟨k1, k2, _, k4⟩ := key d r hd hr
        refine ⟨_, ?_, .scalar rfl⟩
        have k0 : (Op.equal t a' b').run E.P w = .ok r w := k1 9999
        simp only [Sem.run_bind, k2, Result.andThen_ok, k4, k0, Sem.run_pure]
      · cases e
    · cases e
end
end Go.AM
