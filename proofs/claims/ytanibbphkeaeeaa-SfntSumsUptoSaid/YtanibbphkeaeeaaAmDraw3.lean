/- The small machine AM: regions that draw their order: whatever order is drawn, the model comes to what the schedule comes to. -/
import Derived.Test.YtanibbphkeaeeaaAmDraw2
namespace Go.AM
set_option linter.unusedSectionVars false

theorem put_spec {st st' : St} {d : Option Nat} {v : Value} (e : st.put d v = some st') : st'.h = st.h ∧ st'.n = st.n ∧ (∀ t, tmpV st' t = if d = some t then v else tmpV st t) ∧
    ∀ k, d = some k → k < st.n := by
  cases d with
  | none => simp only [St.put, Option.some.injEq] at e; subst e; exact ⟨rfl, rfl, fun t => by simp, fun k h => by cases h⟩
  | some d =>
    simp only [St.put] at e
    cases hb : Nat.blt d st.n with
    | false => rw [hb] at e; cases e
    | true =>
      rw [hb] at e
      simp only [cond_true, Option.some.injEq] at e
      subst e
      refine ⟨rfl, rfl, fun t => ?_, fun k h => by cases h; exact Nat.le_of_ble_eq_true hb⟩
      simp only [tmpV, T.get_set, Option.some.injEq]
      by_cases h : t = d
      · subst h; simp
      · have : ¬ (d = t) := fun e => h e.symm
        simp [h, this]

theorem op_alloc_abs {E : Env} {h : Heap} {ρ : Operand → Value} {o : Op} {out : Out} (hc : cls o = .alloc) (e : op E ρ h o = some out) :
    ∃ (l : List Value) (esz : Nat) (v : Value), out = .value v (h.alloc l esz) := by
  cases o <;> simp only [op, reduceCtorEq] at e <;> simp only [cls, reduceCtorEq] at hc
  case alloc t =>
    obtain ⟨v, h', e1, rfl⟩ := valH_some e
    unfold alloc at e1
    split at e1
    · cases e1; exact ⟨_, _, _, rfl⟩
    · cases e1
  case box t x =>
    obtain ⟨v, h', e1, rfl⟩ := valH_some e
    unfold box at e1
    cases hb : allOne (cellsOf (ρ x)) with
    | false => rw [hb] at e1; cases e1
    | true => rw [hb] at e1; cases e1; exact ⟨_, _, _, rfl⟩
  case buildSlice t n ps =>
    obtain ⟨v, h', e1, rfl⟩ := valH_some e
    unfold buildSlice at e1
    split at e1
    · rename_i e2 hu
      split at e1
      · rename_i i z hi hz
        cases hb : (Nat.beq i.size 0 || Nat.blt 16777216 (n * i.size)) with
        | true => rw [hb] at e1; cases e1
        | false =>
          rw [hb] at e1
          simp only [cond_false] at e1
          split at e1
          · rename_i l hl
            cases ho : allOne l with
            | false => rw [ho] at e1; cases e1
            | true => rw [ho] at e1; cases e1; exact ⟨_, _, _, rfl⟩
          · cases e1
      · cases e1
    · cases e1
  case makeSlice t a b =>
    obtain ⟨v, h', e1, rfl⟩ := valH_some e
    unfold makeSlice at e1
    split at e1
    · rename_i e2 k1 l k2 c hu _ _
      split at e1
      · rename_i i z hi hz
        cases hb : (decide (0 < i.size) && (decide (0 ≤ l) && (decide (l ≤ c) && (decide (c ≤ 1099511627776) && decide (i.bytes ≤ 256))))) with
        | false => rw [hb] at e1; cases e1
        | true => rw [hb] at e1; cases e1; exact ⟨_, _, _, rfl⟩
      · cases e1
    · cases e1
  case call c => exact absurd hc (clsCall_ne (by decide) (by decide))

/-- a step, taken apart -/
theorem step1_cases {E : Env} {call : CallF} {ops : List Oper} {o : Oper} {st st' : St} (e : step1 E call ops o st = some st') :
    (wantedA ops st.ts o = some true ∧ ((∃ v h, op E (st.eval E.gl) st.h o.op = some (.value v h) ∧ { st with h := h }.put o.dst v = some st') ∨
      (∃ h, op E (st.eval E.gl) st.h o.op = some (.skip h) ∧ { st with h := h }.put o.dst undefV = some st') ∨
      (∃ f args v h, op E (st.eval E.gl) st.h o.op = some (.enter f args) ∧ call f args st.h = some (v, h) ∧ { st with h := h }.put o.dst v = some st'))) ∨
    (wantedA ops st.ts o = some false ∧ st.put o.dst undefV = some st') := by
  unfold step1 at e
  split at e
  · rename_i hw
    refine .inl ⟨hw, ?_⟩
    split at e
    · rename_i v h ho; exact .inl ⟨v, h, ho, e⟩
    · rename_i h ho; exact .inr (.inl ⟨h, ho, e⟩)
    · rename_i f args ho
      split at e
      · rename_i v h hc; exact .inr (.inr ⟨f, args, v, h, ho, hc, e⟩)
      · cases e
    · cases e
  · rename_i hw; exact .inr ⟨hw, e⟩
  · cases e

section
variable {E : Env} {call : CallF} {ops : Array Oper} {L : List Ent} {S : Nat → St}

/-- what the states along the schedule tell -/
structure Path (E : Env) (call : CallF) (ops : Array Oper) (L : List Ent) (S : Nat → St) : Prop where
  step : ∀ (p : Nat) (x : Ent), L[p]? = some x → step1 E call ops.toList x.o (S p) = some (S (p + 1))
  watch : ∀ (p : Nat) (x : Ent), L[p]? = some x → wantedA ops.toList (S p).ts x.o = some true → cls x.o.op = .read ∨ cls x.o.op = .alloc → ∃ y, newWatch E x (S p) (S (p + 1)) = some [y] ∧
    ∀ (q : Nat) (z : Ent), p < q → L[q]? = some z → wantedA ops.toList (S q).ts z.o = some true → Hits z x.bit → y.ok E (S (q + 1)).h = true
  grow : ∀ (p : Nat) (x : Ent), L[p]? = some x → wantedA ops.toList (S p).ts x.o = some true → cls x.o.op = .eff → (S p).h.next ≤ (S (p + 1)).h.next

theorem Path.n (pa : Path E call ops L S) : ∀ p, p ≤ L.length → (S p).n = (S 0).n
  | 0, _ => rfl
  | p + 1, hp => by
    have hlt : p < L.length := by omega
    have := pa.step p _ (List.getElem?_eq_getElem hlt)
    rw [← Path.n pa p (by omega)]
    rcases step1_cases this with ⟨_, ⟨v, h, _, e⟩ | ⟨h, _, e⟩ | ⟨f, args, v, h, _, _, e⟩⟩ | ⟨_, e⟩ <;> exact (put_spec e).2.1

theorem Path.tmp (pa : Path E call ops L S) {p t : Nat} {x : Ent} (hx : L[p]? = some x) (hd : x.o.dst ≠ some t) : tmpV (S (p + 1)) t = tmpV (S p) t := by
  rcases step1_cases (pa.step p x hx) with ⟨_, ⟨v, h, _, e⟩ | ⟨h, _, e⟩ | ⟨f, args, v, h, _, _, e⟩⟩ | ⟨_, e⟩ <;> (rw [(put_spec e).2.2.1 t, if_neg hd]; try rfl)

theorem Path.tmps (pa : Path E call ops L S) {t : Nat} : ∀ (k p : Nat), p + k ≤ L.length → (∀ (q : Nat) (x : Ent), p ≤ q → q < p + k → L[q]? = some x → x.o.dst ≠ some t) → tmpV (S (p + k)) t = tmpV (S p) t
  | 0, _, _, _ => rfl
  | k + 1, p, hle, hd => by
    have hlt : p + k < L.length := by omega
    rw [← Nat.add_assoc, pa.tmp (List.getElem?_eq_getElem hlt) (hd (p + k) _ (by omega) (by omega) (List.getElem?_eq_getElem hlt))]
    exact Path.tmps pa k p (by omega) fun q x h1 h2 => hd q x h1 (by omega)

/-- no effect: the memory stays, or a block is laid -/
theorem Path.calm (pa : Path E call ops L S) {p : Nat} {x : Ent} (hx : L[p]? = some x) (hc : cls x.o.op ≠ .eff) :
    (S (p + 1)).h = (S p).h ∨ (cls x.o.op = .alloc ∧ wantedA ops.toList (S p).ts x.o = some true ∧ ∃ l esz, (S (p + 1)).h = (S p).h.alloc l esz) := by
  rcases step1_cases (pa.step p x hx) with ⟨hw, h⟩ | ⟨_, e⟩
  · cases hk : cls x.o.op with
    | eff => exact absurd hk hc
    | pure =>
      rcases h with ⟨v, h, ho, e⟩ | ⟨h, ho, e⟩ | ⟨f, args, v, h, ho, _, e⟩
      all_goals (obtain ⟨u, h1, _⟩ := op_pure hk ho)
      · cases h1; exact .inl (put_spec e).1
      · cases h1
      · cases h1
    | read =>
      rcases h with ⟨v, h, ho, e⟩ | ⟨h, ho, e⟩ | ⟨f, args, v, h, ho, _, e⟩
      all_goals (obtain ⟨u, h1⟩ := op_read hk ho)
      · cases h1; exact .inl (put_spec e).1
      · cases h1
      · cases h1
    | alloc =>
      rcases h with ⟨v, h, ho, e⟩ | ⟨h, ho, e⟩ | ⟨f, args, v, h, ho, _, e⟩
      all_goals (obtain ⟨l, esz, u, h1⟩ := op_alloc_abs hk ho)
      · cases h1; exact .inr ⟨rfl, hw, l, esz, (put_spec e).1⟩
      · cases h1
      · cases h1
  · exact .inl (put_spec e).1

theorem Path.next1 (pa : Path E call ops L S) {p : Nat} {x : Ent} (hx : L[p]? = some x) : (S p).h.next ≤ (S (p + 1)).h.next := by
  by_cases hc : cls x.o.op = .eff
  · rcases step1_cases (pa.step p x hx) with ⟨hw, _⟩ | ⟨_, e⟩
    · exact pa.grow p x hx hw hc
    · rw [(put_spec e).1]; exact Nat.le_refl _
  · rcases pa.calm hx hc with h | ⟨_, _, l, esz, h⟩
    · rw [h]; exact Nat.le_refl _
    · rw [h]; exact Nat.le_succ _

theorem Path.next (pa : Path E call ops L S) : ∀ (k p : Nat), p + k ≤ L.length → (S p).h.next ≤ (S (p + k)).h.next
  | 0, _, _ => Nat.le_refl _
  | k + 1, p, h => by
    have hlt : p + k < L.length := by omega
    exact Nat.le_trans (Path.next pa k p (by omega)) (pa.next1 (List.getElem?_eq_getElem hlt))

theorem Path.next' (pa : Path E call ops L S) {p q : Nat} (h : p ≤ q) (hq : q ≤ L.length) : (S p).h.next ≤ (S q).h.next := by
  have := pa.next (q - p) p (by omega)
  rwa [show p + (q - p) = q by omega] at this

/-- a block laid at p is the next number there -/
theorem Path.laid (pa : Path E call ops L S) {p : Nat} {x : Ent} (hx : L[p]? = some x) (hw : wantedA ops.toList (S p).ts x.o = some true) (hc : cls x.o.op = .alloc) :
    (S (p + 1)).h.next = (S p).h.next + 1 := by
  rcases step1_cases (pa.step p x hx) with ⟨_, h⟩ | ⟨hw', _⟩
  · rcases h with ⟨v, h, ho, e⟩ | ⟨h, ho, e⟩ | ⟨f, args, v, h, ho, _, e⟩
    all_goals (obtain ⟨l, esz, u, h1⟩ := op_alloc_abs hc ho)
    · cases h1; rw [(put_spec e).1]; rfl
    · cases h1
    · cases h1
  · rw [hw] at hw'; cases hw'

theorem Path.ahead (pa : Path E call ops L S) {ι0 ι : Inj} {h0 : Heap} {w0 w : World} : ∀ (k p : Nat), p + k ≤ L.length →
    (∀ (q : Nat) (x : Ent), p ≤ q → q < p + k → L[q]? = some x → cls x.o.op ≠ .eff) → R ι (S p).h w → Ext ι0 h0 w0 ι (S p).h w → R ι (S (p + k)).h w ∧ Ext ι0 h0 w0 ι (S (p + k)).h w
  | 0, _, _, _, r, x => ⟨r, x⟩
  | k + 1, p, hle, hc, r, x => by
    have hlt : p + k < L.length := by omega
    obtain ⟨r1, x1⟩ := Path.ahead pa k p (by omega) (fun q x h1 h2 => hc q x h1 (by omega)) r x
    rw [← Nat.add_assoc]
    rcases pa.calm (List.getElem?_eq_getElem hlt) (hc (p + k) _ (by omega) (by omega) (List.getElem?_eq_getElem hlt)) with h | ⟨_, _, l, esz, h⟩
    · rw [h]; exact ⟨r1, x1⟩
    · rw [h]; exact ⟨r1.ahead l esz, x1.trans (Ext.ahead r1 l esz)⟩

/-- the next effect behind a place -/
theorem next_eff (L : List Ent) : ∀ (k p : Nat), p + k = L.length → ∃ f, p ≤ f ∧ f ≤ L.length ∧ (∀ (q : Nat) (x : Ent), p ≤ q → q < f → L[q]? = some x → cls x.o.op ≠ .eff) ∧
    ∀ x, L[f]? = some x → cls x.o.op = .eff
  | 0, p, h => ⟨p, Nat.le_refl _, by omega, fun q x h1 h2 => by omega, fun x hx => by rw [List.getElem?_eq_none (by omega)] at hx; cases hx⟩
  | k + 1, p, h => by
    have hlt : p < L.length := by omega
    by_cases hc : cls (L[p]).o.op = .eff
    · exact ⟨p, Nat.le_refl _, by omega, fun q x h1 h2 => by omega, fun x hx => by rw [List.getElem?_eq_getElem hlt] at hx; cases hx; exact hc⟩
    · obtain ⟨f, h1, h2, h3, h4⟩ := next_eff L k (p + 1) (by omega)
      refine ⟨f, by omega, h2, fun q x h5 h6 hx => ?_, h4⟩
      by_cases hq : q = p
      · subst hq; rw [List.getElem?_eq_getElem hlt] at hx; cases hx; exact hc
      · exact h3 q x (by omega) h6 hx

structure Inv (E : Env) (ops : Array Oper) (L : List Ent) (S : Nat → St) (ι0 : Inj) (w0 : World) (d0 : List Deferred) (f : Nat) (listed : Array Bool) (a : Act) (w : World) (ι : Inj) : Prop where
  sz : listed.size = ops.size
  dc : ∀ (p : Nat) (x : Ent), L[p]? = some x → listed.getD x.bit false = true → ∀ i, hasBit x.bef i = true → listed.getD i false = true
  fle : f ≤ L.length
  fbelow : ∀ (p : Nat) (x : Ent), p < f → L[p]? = some x → cls x.o.op = .eff → listed.getD x.bit false = true
  fat : ∀ x, L[f]? = some x → cls x.o.op = .eff ∧ listed.getD x.bit false = false
  mem : R ι (S f).h w
  ext : Ext ι0 (S 0).h w0 ι (S f).h w
  df : a.defers = d0
  asz : a.tmps.size = (S 0).n
  tm : ∀ t, ∃ p, p ≤ L.length ∧ (p = 0 ∨ ∃ x, L[p - 1]? = some x ∧ x.o.dst = some t ∧ listed.getD x.bit false = true) ∧
    (∀ (q : Nat) (x : Ent), p ≤ q → L[q]? = some x → x.o.dst = some t → listed.getD x.bit false = false) ∧ VR ι (tmpV (S p) t) (a.tmps.getD t undef)
  al : ∀ (p : Nat) (x : Ent), L[p]? = some x → wantedA ops.toList (S p).ts x.o = some true → cls x.o.op = .alloc → listed.getD x.bit false = false → ι (S p).h.next = none

theorem bit_inj (hs : Sched ops L) {p q : Nat} {x y : Ent} (hx : L[p]? = some x) (hy : L[q]? = some y) (h : x.bit = y.bit) : p = q := by
  rcases Nat.lt_trichotomy p q with h1 | h1 | h1
  · exact absurd h (hs.dist q y p x hy h1 hx)
  · exact h1
  · exact absurd h.symm (hs.dist p x q y hx h1 hy)

theorem getD_set {listed : Array Bool} {i j : Nat} (hi : i < listed.size) : (listed.setIfInBounds i true).getD j false = if j = i then true else listed.getD j false := by
  by_cases h : j = i
  · subst h; simp [hi]
  · simp [Array.getElem?_setIfInBounds_ne (fun e => h e.symm), h]

section
variable {ι0 ι : Inj} {w0 w : World} {d0 : List Deferred} {f : Nat} {listed : Array Bool} {a : Act}

/-- what an operation that is ready looks at, it finds as along the schedule -/
theorem Inv.names (hs : Sched ops L) (pa : Path E call ops L S) (I : Inv E ops L S ι0 w0 d0 f listed a w ι) {q : Nat} {x : Ent} (hx : L[q]? = some x) (hun : listed.getD x.bit false = false)
    (hbef : ∀ i, hasBit x.bef i = true → listed.getD i false = true) {t : Nat} (ht : t ∈ namesOf ops.toList x.o) : VR ι (tmpV (S q) t) (a.tmps.getD t undef) := by
  have hql : q < L.length := (List.getElem?_eq_some_iff.1 hx).1
  obtain ⟨p, hpl, hp, hno, hv⟩ := I.tm t
  have notbef : ∀ (r : Nat) (y : Ent), L[r]? = some y → r < q → hasBit y.bef x.bit = false := by
    intro r y hy hr
    cases hb : hasBit y.bef x.bit with
    | false => rfl
    | true =>
      obtain ⟨r', z, h1, h2, h3⟩ := hs.only r y hy _ hb
      have := bit_inj hs h2 hx h3
      omega
  have notbef2 : ∀ (r : Nat) (y : Ent), L[r]? = some y → q < r → hasBit x.bef y.bit = false := by
    intro r y hy hr
    cases hb : hasBit x.bef y.bit with
    | false => rfl
    | true =>
      obtain ⟨r', z, h1, h2, h3⟩ := hs.only q x hx _ hb
      have := bit_inj hs h2 hy h3
      omega
  by_cases hpq : p ≤ q
  · have : tmpV (S (p + (q - p))) t = tmpV (S p) t := by
      refine pa.tmps (q - p) p (by omega) fun r y h1 h2 hy hd => ?_
      have hne : y.bit ≠ x.bit := fun e => by have := bit_inj hs hy hx e; omega
      have hunl := hno r y h1 hy hd
      rcases hs.names r y q x t hy hx hne hd ht with h3 | h3
      · rw [hbef _ h3] at hunl; cases hunl
      · rw [notbef r y hy (by omega)] at h3; cases h3
    rw [show p + (q - p) = q by omega] at this
    rw [this]; exact hv
  · exfalso
    rcases hp with h0 | ⟨y, hy, hd, hl⟩
    · omega
    · have hne : y.bit ≠ x.bit := fun e => by rw [e, hun] at hl; cases hl
      have hlt : q < p - 1 := by
        rcases Nat.lt_or_ge q (p - 1) with h | h
        · exact h
        · have : p - 1 = q := by omega
          rw [this, hx] at hy; cases hy; exact absurd rfl hne
      rcases hs.names (p - 1) y q x t hy hx hne hd ht with h3 | h3
      · rw [notbef2 _ y hy hlt] at h3; cases h3
      · rw [I.dc _ y hy hl _ h3] at hun; cases hun

theorem Inv.eval (hs : Sched ops L) (pa : Path E call ops L S) (I : Inv E ops L S ι0 w0 d0 f listed a w ι) (hg : GOK E ι0) {q : Nat} {x : Ent} (hx : L[q]? = some x) (hun : listed.getD x.bit false = false)
    (hbef : ∀ i, hasBit x.bef i = true → listed.getD i false = true) : ∀ y ∈ x.o.op.operands, VR ι ((S q).eval E.gl y) (a.eval y) := by
  intro y hy
  have hmem : ∀ (l : List Operand) (t : Nat), Operand.tmp t ∈ l → t ∈ tmpsOf l := by
    intro l
    induction l with
    | nil => intro t h; simp at h
    | cons z l ih =>
      intro t h
      rcases List.mem_cons.1 h with h | h
      · subst h; simp [tmpsOf]
      · have := ih t h
        cases z <;> simp [tmpsOf, this]
  cases y with
  | tmp t =>
    have := I.names hs pa hx hun hbef (t := t) (by unfold namesOf; exact List.mem_append_left _ (hmem _ t (by simpa using hy)))
    exact this
  | const v =>
    simp only [St.eval, Act.eval]
    cases hc : scalar v with
    | true => exact .scalar hc
    | false => exact .junk
  | global g =>
    simp only [St.eval, Act.eval]
    cases hb : Nat.blt g E.gl with
    | false => exact .junk
    | true =>
      have hlt : g < E.gl := Nat.le_of_ble_eq_true hb
      obtain ⟨m, h1, h2, h3⟩ := (hg.mono I.ext.le) g hlt
      have := VR.ptr (o := 0) h1
      rw [h2, h3] at this
      exact this
  | func f => exact VR.func (a := []) (a' := []) (c := []) (c' := []) rfl (fun i v v' h => by simp at h) rfl (fun i v v' h => by simp at h)

theorem Inv.wanted (hs : Sched ops L) (pa : Path E call ops L S) (I : Inv E ops L S ι0 w0 d0 f listed a w ι) {q : Nat} {x : Ent} (hx : L[q]? = some x) (hun : listed.getD x.bit false = false)
    (hbef : ∀ i, hasBit x.bef i = true → listed.getD i false = true) {b : Bool} (hw : wantedA ops.toList (S q).ts x.o = some b) : Region.wanted x.o (yielded ops a.tmps) = b := by
  refine wanted_rel' (ι := ι) (fun j want oj d hg hj hd => I.names hs pa hx hun hbef ?_) hw
  unfold namesOf
  refine List.mem_append_right _ (List.mem_append_left _ ?_)
  simp only [hg, hj, hd, List.mem_singleton]

/-- an operation that is ready, when all effects ahead of it are run -/
theorem Inv.place (hs : Sched ops L) (pa : Path E call ops L S) (I : Inv E ops L S ι0 w0 d0 f listed a w ι) {q : Nat} {x : Ent} (hx : L[q]? = some x) (hun : listed.getD x.bit false = false)
    (hbef : ∀ i, hasBit x.bef i = true → listed.getD i false = true) : q ≤ f ∧ (cls x.o.op = .eff → q = f) := by
  have hql : q < L.length := (List.getElem?_eq_some_iff.1 hx).1
  have h1 : q ≤ f := by
    rcases Nat.lt_or_ge f q with h | h
    · exfalso
      have hfl : f < L.length := by omega
      obtain ⟨hc, hu⟩ := I.fat _ (List.getElem?_eq_getElem hfl)
      have := hs.effs q x f _ hx h (List.getElem?_eq_getElem hfl) hc
      rw [hbef _ this] at hu; cases hu
    · exact h
  refine ⟨h1, fun hc => ?_⟩
  rcases Nat.lt_or_ge q f with h | h
  · rw [I.fbelow q x h hx hc] at hun; cases hun
  · omega

/-- the state of things behind an operation -/
theorem Inv.behind (hs : Sched ops L) (pa : Path E call ops L S) (I : Inv E ops L S ι0 w0 d0 f listed a w ι) {q : Nat} {x : Ent} (hx : L[q]? = some x) (hun : listed.getD x.bit false = false)
    (hbef : ∀ i, hasBit x.bef i = true → listed.getD i false = true) {f' : Nat} {ι' : Inj} {w' : World} {v' : Value} (hle : ι.le ι')
    (hfle : f' ≤ L.length) (hfb : ∀ (p : Nat) (z : Ent), p < f' → L[p]? = some z → cls z.o.op = .eff → p ≠ q → listed.getD z.bit false = true)
    (hfa : ∀ z, L[f']? = some z → cls z.o.op = .eff ∧ f' ≠ q ∧ listed.getD z.bit false = false)
    (hmem : R ι' (S f').h w') (hext : Ext ι0 (S 0).h w0 ι' (S f').h w') (hv : ∀ t, x.o.dst = some t → VR ι' (tmpV (S (q + 1)) t) v')
    (hal : ∀ (p : Nat) (z : Ent), L[p]? = some z → p ≠ q → wantedA ops.toList (S p).ts z.o = some true → cls z.o.op = .alloc → listed.getD z.bit false = false → ι' (S p).h.next = none) :
    Inv E ops L S ι0 w0 d0 f' (listed.setIfInBounds x.bit true) (a.put x.o.dst v') w' ι' := by
  have hql : q < L.length := (List.getElem?_eq_some_iff.1 hx).1
  have hb : x.bit < listed.size := by rw [I.sz]; exact hs.lt q x hx
  have hgd := fun j => getD_set (listed := listed) (j := j) hb
  have hdst : ∀ t, x.o.dst = some t → t < (S 0).n := by
    intro t ht
    have hq := pa.n q (by omega)
    rcases step1_cases (pa.step q x hx) with ⟨_, ⟨v, h, _, e⟩ | ⟨h, _, e⟩ | ⟨f, args, v, h, _, _, e⟩⟩ | ⟨_, e⟩ <;> (have := (put_spec e).2.2.2 t ht; rw [← hq]; exact this)
  refine ⟨by simp [I.sz], ?_, hfle, ?_, ?_, hmem, hext, ?_, ?_, ?_, ?_⟩
  · intro p z hz hl i hi
    rw [hgd] at hl ⊢
    split
    · rfl
    · split at hl
      · rename_i e
        have := bit_inj hs hz hx e
        subst this
        rw [hx] at hz; cases hz
        exact hbef i hi
      · exact I.dc p z hz hl i hi
  · intro p z hp hz hc
    rw [hgd]
    split
    · rfl
    · rename_i hne
      exact hfb p z hp hz hc (fun e => by subst e; rw [hx] at hz; cases hz; exact hne rfl)
  · intro z hz
    obtain ⟨h1, h2, h3⟩ := hfa z hz
    refine ⟨h1, ?_⟩
    rw [hgd, if_neg (fun e => h2 (bit_inj hs hz hx e))]
    exact h3
  · cases hd : x.o.dst <;> exact I.df
  · cases hd : x.o.dst <;> simp [Act.put, I.asz]
  · intro t
    by_cases ht : x.o.dst = some t
    · refine ⟨q + 1, by omega, .inr ⟨x, by simpa using hx, ht, by rw [hgd, if_pos rfl]⟩, ?_, ?_⟩
      · intro r z hr hz hd
        have hne : z.bit ≠ x.bit := fun e => by have := bit_inj hs hz hx e; omega
        rw [hgd, if_neg hne]
        cases hl : listed.getD z.bit false with
        | false => rfl
        | true =>
          exfalso
          have htn : t ∈ namesOf ops.toList x.o := by
            unfold namesOf
            refine List.mem_append_right _ (List.mem_append_right _ ?_)
            simp [ht]
          rcases hs.names r z q x t hz hx hne hd htn with h3 | h3
          · obtain ⟨r', y, h4, h5, h6⟩ := hs.only q x hx _ h3
            have := bit_inj hs h5 hz h6
            omega
          · rw [I.dc r z hz hl _ h3] at hun; cases hun
      · have hlt := hdst t ht
        have : (a.put x.o.dst v').tmps.getD t undef = v' := by
          rw [ht]; simp only [Act.put]
          have : t < a.tmps.size := by rw [I.asz]; exact hlt
          simp [this]
        rw [this]; exact hv t ht
    · obtain ⟨p, h1, h2, h3, h4⟩ := I.tm t
      refine ⟨p, h1, ?_, ?_, ?_⟩
      · rcases h2 with h2 | ⟨z, k1, k2, k3⟩
        · exact .inl h2
        · refine .inr ⟨z, k1, k2, ?_⟩
          rw [hgd]; split
          · rfl
          · exact k3
      · intro r z hr hz hd
        have hne : z.bit ≠ x.bit := fun e => by
          have := bit_inj hs hz hx e
          subst this
          rw [hx] at hz; cases hz; exact ht hd
        rw [hgd, if_neg hne]
        exact h3 r z hr hz hd
      · have : (a.put x.o.dst v').tmps.getD t undef = a.tmps.getD t undef := by
          cases hd : x.o.dst with
          | none => rfl
          | some d =>
            have : d ≠ t := fun e => ht (by rw [hd, e])
            simp [Act.put, Array.getElem?_setIfInBounds_ne this]
        rw [this]; exact h4.mono hle
  · intro p z hz hw hc hl
    rw [hgd] at hl
    split at hl
    · cases hl
    · rename_i hne
      exact hal p z hz (fun e => by subst e; rw [hx] at hz; cases hz; exact hne rfl) hw hc hl

/-- all are run -/
theorem Inv.done (hs : Sched ops L) (pa : Path E call ops L S) (I : Inv E ops L S ι0 w0 d0 f listed a w ι) (hall : ∀ (p : Nat) (x : Ent), L[p]? = some x → listed.getD x.bit false = true) :
    SR ι (S L.length) a w ∧ Ext ι0 (S 0).h w0 ι (S L.length).h w := by
  have hf : f = L.length := by
    rcases Nat.lt_or_ge f L.length with h | h
    · have := I.fat _ (List.getElem?_eq_getElem h)
      rw [hall f _ (List.getElem?_eq_getElem h)] at this
      cases this.2
    · have := I.fle; omega
  subst hf
  refine ⟨⟨I.mem, by rw [I.asz, pa.n _ (Nat.le_refl _)], fun t => ?_⟩, I.ext⟩
  obtain ⟨p, h1, _, h3, h4⟩ := I.tm t
  have : tmpV (S (p + (L.length - p))) t = tmpV (S p) t := by
    refine pa.tmps _ p (by omega) fun r y k1 _ hy hd => ?_
    have := h3 r y k1 hy hd
    rw [hall r y hy] at this; cases this
  rw [show p + (L.length - p) = L.length by omega] at this
  rw [this]; exact h4

/-- the first one that is not run is ready -/
theorem Inv.all_of_none (hs : Sched ops L) (pa : Path E call ops L S) (I : Inv E ops L S ι0 w0 d0 f listed a w ι) (hr : Region.ready .any ops listed = []) : ∀ (p : Nat) (x : Ent), L[p]? = some x → listed.getD x.bit false = true := by
  intro p
  induction p using Nat.strongRecOn with
  | _ p ih =>
    intro x hx
    cases hl : listed.getD x.bit false with
    | true => rfl
    | false =>
      exfalso
      have hb : x.bit < listed.size := by rw [I.sz]; exact hs.lt p x hx
      have : x.bit ∈ Region.ready .any ops listed := by
        rw [mem_ready]
        refine ⟨?_, x.o, hs.ent p x hx, fun e he hbd => ?_⟩
        · simpa [hb] using hl
        · obtain ⟨r, y, h1, h2, h3⟩ := hs.only p x hx _ (hs.edge p x hx e he hbd)
          rw [← h3]; exact ih r h1 y h2
      rw [hr] at this; cases this

theorem Inv.bef_of_ready (hs : Sched ops L) (pa : Path E call ops L S) (I : Inv E ops L S ι0 w0 d0 f listed a w ι) {i : Nat} (hi : i ∈ Region.ready .any ops listed) :
    ∃ (q : Nat) (x : Ent), L[q]? = some x ∧ x.bit = i ∧ ops[i]? = some x.o ∧ listed.getD x.bit false = false ∧ ∀ j, hasBit x.bef j = true → listed.getD j false = true := by
  obtain ⟨h1, o, h2, h3⟩ := mem_ready.1 hi
  have hi : i < ops.size := (Array.getElem?_eq_some_iff.1 h2).1
  obtain ⟨q, x, hx, hb⟩ := hs.all i hi
  have ho := hs.ent q x hx
  rw [hb, h2] at ho
  cases ho
  refine ⟨q, x, hx, hb, h2, ?_, fun j hj => ?_⟩
  · have : i < listed.size := by rw [I.sz]; exact hi
    rw [hb]; simpa [this] using h1
  · obtain ⟨e, he, hbd, hor⟩ := hs.back q x hx j hj
    have hl := h3 e he hbd
    rcases hor with rfl | hor
    · exact hl
    · obtain ⟨r, y, _, k2, k3⟩ := hs.only q x hx _ (hs.edge q x hx e he hbd)
      exact I.dc r y k2 (by rw [k3]; exact hl) j (hor r y k2 k3)
end
end
end Go.AM
