/- The small machine AM: what its memory holds, told by rows of cells; rules to walk a text by. -/
import Derived.Test.YtanibbphkeaeeaaAmSim
namespace Go.AM

theorem plain_bool (b : Bool) : plain (.bool b) = true := rfl
theorem plain_int (k : IntKind) (n : Int) : plain (.int k n) = true := rfl

/-! ## Rows of cells -/
def Cells (h : Heap) (b o : Nat) (l : List Value) : Prop := ∀ (i : Nat) (v : Value), l[i]? = some v → h.cell b (o + i) = some v

/-- where a slice reads from: nowhere and nothing, or a row -/
def Src (h : Heap) (a : Option Addr) (l : List Value) : Prop := (a = none ∧ l = []) ∨ ∃ b o, a = some ⟨b, o, none⟩ ∧ Cells h b o l

/-- a block of one's own -/
def Own (h : Heap) (b : Nat) (l : List Value) (esz : Nat) : Prop :=
  ∃ B, h.blks.get b = some B ∧ B.size = l.length ∧ B.esz = esz ∧ B.ro = false ∧ ∀ (i : Nat) (v : Value), l[i]? = some v → B.cells.get i = some v

/-- what lay below stays; new blocks come behind -/
structure Keeps (h h' : Heap) : Prop where
  next : h.next ≤ h'.next
  blks : ∀ b, b < h.next → h'.blks.get b = h.blks.get b

theorem Keeps.refl (h : Heap) : Keeps h h := ⟨Nat.le_refl _, fun _ _ => rfl⟩
theorem Keeps.trans {a b c : Heap} (x : Keeps a b) (y : Keeps b c) : Keeps a c := ⟨Nat.le_trans x.next y.next, fun k hk => (y.blks k (Nat.lt_of_lt_of_le hk x.next)).trans (x.blks k hk)⟩

theorem Keeps.cells {h h' : Heap} (k : Keeps h h') {b o : Nat} {l : List Value} (hb : b < h.next) (c : Cells h b o l) : Cells h' b o l := fun i v hv => by
  have := c i v hv
  unfold Heap.cell at this ⊢
  rw [k.blks b hb]; exact this

theorem Keeps.own {h h' : Heap} (k : Keeps h h') {b esz : Nat} {l : List Value} (hb : b < h.next) (c : Own h b l esz) : Own h' b l esz :=
  let ⟨B, h1, h2⟩ := c; ⟨B, (k.blks b hb).trans h1, h2⟩

theorem cell_blk {h : Heap} {b o : Nat} {B : Blk} {v : Value} (hB : h.blks.get b = some B) (ho : o < B.size) (hv : B.cells.get o = some v) : h.cell b o = some v := by
  unfold Heap.cell
  rw [hB]
  have : Nat.blt o B.size = true := Nat.ble_eq_true_of_le ho
  simp only [this, cond_true, hv]

theorem Keeps.src {h h' : Heap} (k : Keeps h h') {a : Option Addr} {l : List Value} (hb : ∀ b o, a = some ⟨b, o, none⟩ → b < h.next) (c : Src h a l) : Src h' a l := by
  rcases c with c | ⟨b, o, rfl, c⟩
  · exact .inl c
  · exact .inr ⟨b, o, rfl, k.cells (hb b o rfl) c⟩

theorem Src.row {h : Heap} {a : Option Addr} {l : List Value} (c : Src h a l) (hne : 0 < l.length) : ∃ b o, a = some ⟨b, o, none⟩ ∧ Cells h b o l := by
  rcases c with ⟨_, rfl⟩ | c
  · simp at hne
  · exact c

theorem Cells.src {h : Heap} {b o : Nat} {l : List Value} (c : Cells h b o l) : Src h (some ⟨b, o, none⟩) l := .inr ⟨b, o, rfl, c⟩

theorem Own.cells {h : Heap} {b esz : Nat} {l : List Value} (c : Own h b l esz) : Cells h b 0 l := fun i v hv => by
  obtain ⟨B, h1, h2, _, _, h5⟩ := c
  rw [Nat.zero_add]
  exact cell_blk h1 (by rw [h2]; exact (List.getElem?_eq_some_iff.1 hv).1) (h5 i v hv)

theorem Cells.part {h : Heap} {b o : Nat} {l : List Value} (c : Cells h b o l) (s n : Nat) : Cells h b (o + s) ((l.drop s).take n) := fun i v hv => by
  rw [List.getElem?_take] at hv
  split at hv
  · rw [List.getElem?_drop] at hv
    have := c (s + i) v hv
    rwa [← Nat.add_assoc] at this
  · cases hv

theorem Cells.take {h : Heap} {b o : Nat} {l : List Value} (c : Cells h b o l) (n : Nat) : Cells h b o (l.take n) := fun i v hv => by
  rw [List.getElem?_take] at hv
  split at hv
  · exact c i v hv
  · cases hv

theorem row_blk {B : Blk} : ∀ {l : List Value} {o : Nat}, (∀ (i : Nat) (v : Value), l[i]? = some v → B.cells.get (o + i) = some v) → B.row o l.length = some l
  | [], o, _ => rfl
  | v :: l, o, hc => by
    have h0 := hc 0 v rfl
    have h1 : B.row (o + 1) l.length = some l := row_blk fun i x hx => by
      have := hc (i + 1) x (by simpa using hx)
      rwa [show o + 1 + i = o + (i + 1) by omega]
    simp only [List.length_cons, Blk.row]
    rw [show B.cells.get o = some v by simpa using h0, h1]

theorem Cells.row {h : Heap} {b o : Nat} {l : List Value} (c : Cells h b o l) (hne : l ≠ []) : h.row b o l.length = some l := by
  have hpos : 0 < l.length := List.length_pos_iff.2 hne
  obtain ⟨B, hB, _, _⟩ := cell_of (c 0 _ (List.getElem?_eq_getElem hpos))
  have hall : ∀ (i : Nat) (v : Value), l[i]? = some v → o + i < B.size ∧ B.cells.get (o + i) = some v := fun i v hv => by
    obtain ⟨B', h1, h2, h3⟩ := cell_of (c i v hv)
    rw [hB] at h1; cases h1; exact ⟨h2, h3⟩
  unfold Heap.row
  rw [hB]
  have hlast := (hall (l.length - 1) _ (List.getElem?_eq_getElem (by omega))).1
  have : Nat.ble (o + l.length) B.size = true := Nat.ble_eq_true_of_le (by omega)
  simp only [this, cond_true]
  exact row_blk fun i v hv => (hall i v hv).2

theorem Own.row {h : Heap} {b esz : Nat} {l : List Value} (c : Own h b l esz) : h.row b 0 l.length = some l := by
  obtain ⟨B, h1, h2, _, _, h5⟩ := c
  unfold Heap.row
  rw [h1]
  have : Nat.ble (0 + l.length) B.size = true := Nat.ble_eq_true_of_le (by omega)
  simp only [this, cond_true]
  exact row_blk fun i v hv => by rw [Nat.zero_add]; exact h5 i v hv

theorem Cells.of_row {h : Heap} {b o n : Nat} {l : List Value} (e : h.row b o n = some l) : Cells h b o l := fun i v hv => by
  obtain ⟨B, h1, h2, h3⟩ := row_of e
  obtain ⟨h4, h5⟩ := Blk.row_spec B n o l h3
  exact cell_blk h1 (by have := (List.getElem?_eq_some_iff.1 hv).1; omega) (h5 i v hv)

/-! ## A new block -/
theorem alloc_get (h : Heap) (l : List Value) (esz b : Nat) : (h.alloc l esz).blks.get b = if b = h.next then some { size := l.length, esz, ro := false, cells := T.ofList l } else h.blks.get b := by
  unfold Heap.alloc
  exact T.get_set _ _ _ _

theorem alloc_keeps (h : Heap) (l : List Value) (esz : Nat) : Keeps h (h.alloc l esz) := ⟨Nat.le_succ _, fun b hb => by rw [alloc_get, if_neg (by omega)]⟩

theorem alloc_own (h : Heap) (l : List Value) (esz : Nat) : Own (h.alloc l esz) h.next l esz :=
  ⟨_, by rw [alloc_get, if_pos rfl], rfl, rfl, rfl, fun i v hv => by simp only [T.get_ofList]; exact hv⟩

theorem fill_get : ∀ (l : List Value) (B : Blk) (o i : Nat), (B.fill o l).cells.get i = if o ≤ i ∧ i < o + l.length then l[i - o]? else B.cells.get i
  | [], B, o, i => by rw [if_neg (by simp only [List.length_nil]; omega)]; rfl
  | v :: l, B, o, i => by
    rw [Blk.fill, fill_get l _ (o + 1) i]
    simp only [List.length_cons, T.get_set]
    by_cases h1 : o + 1 ≤ i ∧ i < o + 1 + l.length
    · rw [if_pos h1, if_pos (by omega), show i - o = (i - (o + 1)) + 1 by omega, List.getElem?_cons_succ]
    · rw [if_neg h1]
      by_cases h2 : i = o
      · subst h2; rw [if_pos rfl, if_pos (by omega)]; simp
      · rw [if_neg h2, if_neg (by omega)]

theorem fill_rest : ∀ (l : List Value) (B : Blk) (o : Nat), (B.fill o l).size = B.size ∧ (B.fill o l).esz = B.esz ∧ (B.fill o l).ro = B.ro
  | [], _, _ => ⟨rfl, rfl, rfl⟩
  | _ :: l, B, o => by rw [Blk.fill]; exact fill_rest l _ (o + 1)

/-- a store into a block of one's own -/
theorem store_own {h : Heap} {b esz : Nat} {l : List Value} (c : Own h b l esz) (o : Nat) (n : List Value) (ho : o + n.length ≤ l.length) :
    ∃ h', h.store b o n = some h' ∧ Own h' b (l.take o ++ (n ++ l.drop (o + n.length))) esz ∧ h'.next = h.next ∧ ∀ k, k ≠ b → h'.blks.get k = h.blks.get k := by
  obtain ⟨B, h1, h2, h3, h4, h5⟩ := c
  have hle : Nat.ble (o + n.length) B.size = true := Nat.ble_eq_true_of_le (by omega)
  refine ⟨{ h with blks := h.blks.set b (B.fill o n) }, ?_, ⟨B.fill o n, ?_, ?_, ?_, ?_, ?_⟩, rfl, fun k hk => ?_⟩
  · unfold Heap.store
    rw [h1]
    simp only [h4, hle, Bool.not_false, Bool.and_self, cond_true]
  · simp only [T.get_set, if_true]
  · rw [(fill_rest n B o).1, h2]; simp only [List.length_append, List.length_take, List.length_drop]; omega
  · rw [(fill_rest n B o).2.1, h3]
  · rw [(fill_rest n B o).2.2, h4]
  · intro i v hv
    rw [fill_get]
    rw [List.getElem?_append, List.length_take, Nat.min_eq_left (by omega)] at hv
    by_cases c1 : i < o
    · rw [if_pos c1, List.getElem?_take, if_pos c1] at hv
      rw [if_neg (by omega)]; exact h5 i v hv
    · rw [if_neg c1, List.getElem?_append] at hv
      by_cases c2 : i - o < n.length
      · rw [if_pos c2] at hv
        rw [if_pos (by omega)]; exact hv
      · rw [if_neg c2, List.getElem?_drop] at hv
        rw [if_neg (by omega)]
        exact h5 i v (by rwa [show o + n.length + (i - o - n.length) = i by omega] at hv)
  · simp only [T.get_set, if_neg hk]

/-! ## Operations on rows -/
section
variable {E : Env} {t e sz : Nat} {h : Heap} {b o len cap : Nat} {k : IntKind} {i : Int} {l m : List Value}

theorem info_of {a : Nat} (hs : (E.info t).map (·.size) = some a) : ∃ inf, E.info t = some inf ∧ inf.size = a := by
  cases hi : E.info t with
  | none => rw [hi] at hs; cases hs
  | some inf => rw [hi] at hs; simp only [Option.map_some, Option.some.injEq] at hs; exact ⟨inf, rfl, hs⟩

theorem indexAddr_slice (hu : E.und t = some (.slice e)) (hs : (E.info e).map (·.size) = some sz) (h0 : 0 ≤ i) (hl : i < len) :
    indexAddr E t (.slice (some ⟨b, o, none⟩) len cap) (.int k i) = some (ptr b (o + i.toNat * sz)) := by
  obtain ⟨inf, h1, rfl⟩ := info_of hs
  unfold indexAddr
  simp only [hu, h1, decide_eq_true h0, decide_eq_true hl, Bool.and_self, cond_true]

theorem indexAddr_array {n : Nat} (hu : E.und t = some (.array n e)) (hs : (E.info e).map (·.size) = some sz) (h0 : 0 ≤ i) (hl : i < n) :
    indexAddr E t (ptr b o) (.int k i) = some (ptr b (o + i.toNat * sz)) := by
  obtain ⟨inf, h1, rfl⟩ := info_of hs
  unfold indexAddr ptr
  simp only [hu, h1, decide_eq_true h0, decide_eq_true hl, Bool.and_self, cond_true]

/-- a cell that is no row -/
theorem load_cell {d : TypeDesc} {v : Value} (hu : E.und t = some d) (hs : (E.info t).map (·.size) = some sz) (hd : isAggD d = false) (hc : h.cell b o = some v) : load E h t (ptr b o) = some v := by
  obtain ⟨inf, h1, _⟩ := info_of hs
  unfold load ptr
  simp only [hu, h1, hd, cond_false, hc]

theorem load_row {d : TypeDesc} (hu : E.und t = some d) (hs : (E.info t).map (·.size) = some l.length) (hd : isAggD d = true) (hc : h.row b o l.length = some l) : load E h t (ptr b o) = some (.agg l.toArray) := by
  obtain ⟨inf, h1, h2⟩ := info_of hs
  unfold load ptr
  simp only [hu, h1, hd, h2, cond_true, hc]

theorem lenV_slice (hu : E.und t = some (.slice e)) (a : Option Addr) : lenV E t (.slice a len cap) = some (.int .i64 len) := by
  unfold lenV
  simp only [hu]

/-- x[:n] of a row that came in -/
theorem slice_hi (hu : E.und t = some (.slice e)) (hs : (E.info e).map (·.size) = some sz) {B : Blk} (hB : h.blks.get b = some B) (he : B.esz = 0 ∨ B.esz = sz) (h0 : 0 ≤ i) (hi : i ≤ cap) :
    slice E h t (.slice (some ⟨b, o, none⟩) len cap) none (some (.int k i)) = some (.slice (some ⟨b, o, none⟩) i.toNat cap) := by
  obtain ⟨inf, h1, rfl⟩ := info_of hs
  have hq : (Nat.beq B.esz 0 || Nat.beq B.esz inf.size) = true := by
    rcases he with he | he
    · rw [he]; rfl
    · rw [he, Nat.beq_refl, Bool.or_true]
  unfold slice bound
  simp only [hu, h1, decide_eq_true h0, decide_eq_true hi, Bool.and_self, cond_true, hB, hq, Nat.zero_mul, Nat.add_zero, Nat.sub_zero]

theorem buildSlice_none {z : List Value} (hu : E.und t = some (.slice e)) (hs : (E.info e).map (·.size) = some sz) (hz : zeroCells E e = some z) (hp : 0 < sz) :
    buildSlice E h t 0 [] = some (.slice (some ⟨h.next, 0, none⟩) 0 0, h.alloc [] sz) := by
  obtain ⟨inf, h1, rfl⟩ := info_of hs
  have hb : Nat.beq inf.size 0 = false := T.beq_ne (by omega)
  unfold buildSlice
  simp only [hu, h1, hz, hb, Nat.zero_mul, repeated, lay, allOne, cond_true]
  rfl

/-- the source of an append -/
theorem source_slice (c : Cells h b o l) {n size : Nat} (hn : n * size = l.length) : sourceCells h size n (.slice (some ⟨b, o, none⟩) len cap) = some l := by
  unfold sourceCells
  rw [hn]
  cases l with
  | nil => rfl
  | cons v l => exact c.row (by simp)

theorem source_src {a : Option Addr} (c : Src h a l) {n size : Nat} (hp : 0 < size) (hn : n * size = l.length) : sourceCells h size n (.slice a len cap) = some l := by
  rcases c with ⟨rfl, rfl⟩ | ⟨b, o, rfl, c⟩
  · have : n = 0 := by
      rcases Nat.mul_eq_zero.1 hn with h | h
      · exact h
      · omega
    subst this
    rfl
  · exact source_slice c hn

theorem source_nil (size : Nat) : sourceCells h size 0 (.slice none len cap) = some [] := rfl

theorem blt_false {a b : Nat} (hab : b ≤ a) : Nat.blt a b = false := by
  cases hb : Nat.blt a b with
  | false => rfl
  | true => have := Nat.le_of_ble_eq_true hb; omega

/-- append to a row of one's own that is full: a row of one's own -/
theorem append_own {x : Value} {z : List Value} {n a : Nat} {inf : TypeInfo} (hu : E.und t = some (.slice e)) (hi : E.info e = some inf) (hz : zeroCells E e = some z) (hp : 0 < inf.size) (hby : inf.bytes ≤ 256)
    (own : Own h b l inf.size) (hb : b < h.next) (hl : l.length = n * inf.size) (hx : lenOf x = some a) (hsrc : sourceCells h inf.size a x = some m) (hml : m.length = a * inf.size) (hm : allOne m = true)
    (hna : n + a ≤ 549755813888) :
    ∃ b' h', append E h t (.slice (some ⟨b, 0, none⟩) n n) x = some (.slice (some ⟨b', 0, none⟩) (n + a) (n + a), h') ∧ Own h' b' (l ++ m) inf.size ∧ b' < h'.next ∧ h.next ≤ h'.next ∧ (b' = b ∨ h.next ≤ b') ∧
      ∀ k, k < h.next → k ≠ b → h'.blks.get k = h.blks.get k := by
  have q1 : Nat.beq inf.size 0 = false := T.beq_ne (by omega)
  have q2 : Nat.blt 549755813888 (n + a) = false := blt_false hna
  have q3 : Nat.blt 256 inf.bytes = false := blt_false hby
  by_cases ha : a = 0
  · subst ha
    have hm0 : m = [] := by simpa using hml
    subst hm0
    obtain ⟨h', s1, s2, s3, s4⟩ := store_own own (n * inf.size) [] (by simp; omega)
    have q4 : Nat.ble n n = true := Nat.ble_eq_true_of_le (Nat.le_refl n)
    refine ⟨b, h', ?_, ?_, by omega, Nat.le_of_eq s3.symm, .inl rfl, fun k _ hk => s4 k hk⟩
    · unfold append
      simp only [Nat.add_zero] at q2 ⊢
      simp only [hu, hi, hx, hsrc, hz, q1, q2, q3, hm, Bool.not_true, Bool.or_self, cond_false, Nat.add_zero, q4, cond_true, Nat.zero_add, s1]
    · have : l.take (n * inf.size) ++ ([] ++ l.drop (n * inf.size + ([] : List Value).length)) = l ++ [] := by simp
      rw [← this]; exact s2
  · have q4 : Nat.ble (n + a) n = false := by
      cases hq : Nat.ble (n + a) n with
      | false => rfl
      | true => have := Nat.le_of_ble_eq_true hq; omega
    have hrow := own.row
    rw [hl] at hrow
    obtain ⟨B, h1, h2, h3, h4, h5⟩ := own
    have q5 : Nat.beq B.esz inf.size = true := T.beq_eq h3
    refine ⟨h.next, { h with blks := h.blks.del b }.alloc (l ++ m) inf.size, ?_, alloc_own _ _ _, Nat.lt_succ_self _, Nat.le_succ _, .inr (Nat.le_refl _), fun k hk hkb => ?_⟩
    · unfold append
      simp only [hu, hi, hx, hsrc, hz, q1, q2, q3, q4, q5, hm, h1, h4, hrow, Bool.not_true, Bool.not_false, Bool.and_self, Bool.or_self, cond_false, cond_true, Nat.zero_add]
    · rw [alloc_get, if_neg (by simp only; omega)]
      simp only [T.get_del, if_neg hkb]
end

/-! ## Branches, kept short -/
section
variable {E : Env}
theorem callFn_of {f : Nat} {fn : Func} {c : Code} (hf : E.fn f = some fn) (hb : fn.body = some c) (hn : (fn.name == "runtime.NumGoroutine") = false) (args : List Value) : callFn E f args = some (.enter f args) := by
  unfold callFn
  simp only [hf, hb, hn, cond_false]

theorem W.condK {x : Operand} {a b : Code} {st : St} {Q : Ex → St → Prop}
    (h : ∀ A B : Prop, (W E a st Q → A) → (W E b st Q → B) → match st.eval E.gl x with | .bool t => if t = true then A else B | _ => False) : W E (.cond x a b) st Q := by
  have := h (W E a st Q) (W E b st Q) id id
  split at this
  · rename_i t ht; exact W.cond ht this
  · exact this.elim
end
end Go.AM
