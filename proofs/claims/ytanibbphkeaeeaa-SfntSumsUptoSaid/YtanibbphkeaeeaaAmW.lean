/- The small machine AM: what a text comes to, with the rounds left out: rules to walk a text by. -/
import Derived.Test.YtanibbphkeaeeaaAmDraw4
namespace Go.AM

section
variable {E : Env}

/-! ## More rounds give the same -/
def CallLe (c c' : CallF) : Prop := ∀ f args h r, c f args h = some r → c' f args h = some r

theorem step1_mono {c c' : CallF} (hc : CallLe c c') {ops : List Oper} {o : Oper} {st st' : St} (e : step1 E c ops o st = some st') : step1 E c' ops o st = some st' := by
  rcases step1_cases e with ⟨hw, ⟨v, h, ho, hp⟩ | ⟨h, ho, hp⟩ | ⟨f, args, v, h, ho, hcc, hp⟩⟩ | ⟨hw, hp⟩
  · simp only [step1, hw, ho]; exact hp
  · simp only [step1, hw, ho]; exact hp
  · simp only [step1, hw, ho, hc _ _ _ _ hcc]; exact hp
  · simp only [step1, hw]; exact hp

theorem steps_mono {c c' : CallF} (hc : CallLe c c') {ops : List Oper} : ∀ {l : List Oper} {st st' : St}, steps E c ops l st = some st' → steps E c' ops l st = some st'
  | [], st, st', e => e
  | o :: l, st, st', e => by
    simp only [steps] at e ⊢
    split at e
    · rename_i st1 h1
      rw [step1_mono hc h1]
      exact steps_mono hc e
    · cases e

theorem drun_mono {c c' : CallF} (hc : CallLe c c') {ops : List Oper} : ∀ {L : List Ent} {ws : List (Nat × Watch)} {st st' : St}, drun E c ops L ws st = some st' → drun E c' ops L ws st = some st'
  | [], ws, st, st', e => e
  | x :: L, ws, st, st', e => by
    simp only [drun] at e ⊢
    split at e
    · cases e
    · rename_i st1 h1
      rw [step1_mono hc h1]
      simp only
      split at e
      · split at e
        · exact drun_mono hc e
        · cases hb : (Nat.ble st.h.next st1.h.next && watchOk E st1.h x.bef false ws) with
          | false => rw [hb] at e; cases e
          | true => rw [hb] at e; exact drun_mono hc e
        · split at e
          · exact drun_mono hc e
          · cases e
        · split at e
          · cases hb : watchOk E st1.h x.bef true ws with
            | false => rw [hb] at e; cases e
            | true => rw [hb] at e; exact drun_mono hc e
          · cases e
      · exact drun_mono hc e

theorem draws_mono {c c' : CallF} (hc : CallLe c c') {ops : List Oper} {st st' : St} (e : draws E c ops st = some st') : draws E c' ops st = some st' := by
  unfold draws at e ⊢
  split at e
  · exact drun_mono hc e
  · cases e

def RecLe (r r' : Code → St → Option (Ex × St)) : Prop := ∀ c st x, r c st = some x → r' c st = some x

theorem callWith_mono {r r' : Code → St → Option (Ex × St)} (hr : RecLe r r') : CallLe (callWith E r) (callWith E r') := by
  intro f args h x e
  unfold callWith at e ⊢
  split at e
  · rename_i fn hfn
    split at e
    · rename_i c hc
      cases hb : Nat.ble args.length fn.ntmps with
      | false => rw [hb] at e; cases e
      | true =>
        rw [hb] at e
        simp only [cond_true] at e ⊢
        split at e
        · cases e
        · rename_i ex st' hne h1
          rw [hr _ _ _ h1]
          split
          · rename_i k s heq; simp only [Option.some.injEq, Prod.mk.injEq] at heq; exact absurd heq.1 (hne k)
          · rename_i ex2 s2 _ heq
            simp only [Option.some.injEq, Prod.mk.injEq] at heq
            obtain ⟨rfl, rfl⟩ := heq
            exact e
          · rename_i heq; cases heq
        · cases e
    · cases e
  · cases e

theorem execWith_mono {r r' : Code → St → Option (Ex × St)} (hr : RecLe r r') : RecLe (execWith E (draws E) r) (execWith E (draws E) r') := by
  intro c st x e
  cases c with
  | skip => exact e
  | exit id => exact e
  | ret => exact e
  | region id ops draw =>
    simp only [execWith] at e ⊢
    split at e
    · rename_i st1 h1
      have : cond draw (draws E (callWith E r') ops.toList st) (steps E (callWith E r') ops.toList ops.toList st) = some st1 := by
        cases draw with
        | true => exact draws_mono (callWith_mono hr) h1
        | false => exact steps_mono (callWith_mono hr) h1
      rw [this]; exact e
    · cases e
  | seq a b =>
    simp only [execWith] at e ⊢
    split at e
    · rename_i st1 h1
      rw [hr _ _ _ h1]
      exact hr _ _ _ e
    · rename_i hne
      rw [hr _ _ _ e]
      split
      · rename_i st1 heq; rw [heq] at e; exact absurd e (hne st1)
      · rfl
  | cond y a b =>
    simp only [execWith] at e ⊢
    split at e
    · rename_i t ht
      cases t with
      | true => exact hr _ _ _ e
      | false => exact hr _ _ _ e
    · cases e
  | block id a =>
    simp only [execWith] at e ⊢
    split at e
    · rename_i k st1 h1
      rw [hr _ _ _ h1]; exact e
    · rename_i hne
      rw [hr _ _ _ e]
      split
      · rename_i k st1 heq; rw [heq] at e; exact absurd e (hne k st1)
      · rfl
  | loop a =>
    simp only [execWith] at e ⊢
    split at e
    · rename_i st1 h1
      rw [hr _ _ _ h1]
      exact hr _ _ _ e
    · rename_i hne
      rw [hr _ _ _ e]
      split
      · rename_i st1 heq; rw [heq] at e; exact absurd e (hne st1)
      · rfl
  | _ => simp [execWith] at e

theorem exec_succ (n : Nat) : exec E (n + 1) = execWith E (draws E) (exec E n) := rfl

theorem exec_le1 : ∀ n, RecLe (exec E n) (exec E (n + 1))
  | 0 => fun c st x e => by simp [exec, execG] at e
  | n + 1 => by rw [exec_succ (n + 1), exec_succ n]; exact execWith_mono (exec_le1 n)

theorem exec_le (n : Nat) : ∀ k, RecLe (exec E n) (exec E (n + k))
  | 0 => fun _ _ _ e => e
  | k + 1 => fun c st x e => exec_le1 (n + k) c st x (exec_le n k c st x e)

theorem exec_mono {n m : Nat} (h : n ≤ m) : RecLe (exec E n) (exec E m) := by
  have := exec_le (E := E) n (m - n)
  rwa [show n + (m - n) = m by omega] at this

/-! ## Calls and texts, without their rounds -/
def WCall (E : Env) (f : Nat) (args : List Value) (h : Heap) (Q : Value → Heap → Prop) : Prop := ∃ n v h', run E n f args h = some (v, h') ∧ Q v h'
def W (E : Env) (c : Code) (st : St) (Q : Ex → St → Prop) : Prop := ∃ n ex st', exec E n c st = some (ex, st') ∧ Q ex st'

theorem run_mono {n m : Nat} (h : n ≤ m) {f : Nat} {args : List Value} {hp : Heap} {r : Value × Heap} (e : run E n f args hp = some r) : run E m f args hp = some r :=
  callWith_mono (exec_mono h) f args hp r e

def PutK (st : St) (d : Option Nat) (v : Value) (K : St → Prop) : Prop :=
  match d with
  | none => K st
  | some d => d < st.n ∧ K { st with ts := st.ts.set d v }

theorem PutK.spec {st : St} {d : Option Nat} {v : Value} {K : St → Prop} (h : PutK st d v K) : ∃ st', st.put d v = some st' ∧ K st' := by
  cases d with
  | none => exact ⟨st, rfl, h⟩
  | some d =>
    refine ⟨_, ?_, h.2⟩
    have : Nat.blt d st.n = true := Nat.ble_eq_true_of_le h.1
    simp only [St.put, this, cond_true]

/-- operations in a row -/
def WS (E : Env) (ops : List Oper) : List Oper → St → (St → Prop) → Prop
  | [], st, K => K st
  | o :: l, st, K => match wantedA ops st.ts o with
    | some true => match op E (st.eval E.gl) st.h o.op with
      | some (.value v h) => PutK { st with h := h } o.dst v fun st' => WS E ops l st' K
      | some (.skip h) => PutK { st with h := h } o.dst undefV fun st' => WS E ops l st' K
      | some (.enter f args) => WCall E f args st.h fun v h => PutK { st with h := h } o.dst v fun st' => WS E ops l st' K
      | none => False
    | some false => PutK st o.dst undefV fun st' => WS E ops l st' K
    | none => False

theorem WS.step {ops : List Oper} {o : Oper} {l : List Oper} {st : St} {K : St → Prop} (h : WS E ops (o :: l) st K) :
    ∃ n st', step1 E (callWith E (exec E n)) ops o st = some st' ∧ WS E ops l st' K := by
  simp only [WS] at h
  split at h
  · rename_i hw
    split at h
    · rename_i v hp ho
      obtain ⟨st', h1, h2⟩ := h.spec
      exact ⟨0, st', by simp only [step1, hw, ho]; exact h1, h2⟩
    · rename_i hp ho
      obtain ⟨st', h1, h2⟩ := h.spec
      exact ⟨0, st', by simp only [step1, hw, ho]; exact h1, h2⟩
    · rename_i f args ho
      obtain ⟨n, v, hp, hr, h⟩ := h
      obtain ⟨st', h1, h2⟩ := h.spec
      refine ⟨n, st', ?_, h2⟩
      have hr : callWith E (exec E n) f args st.h = some (v, hp) := hr
      simp only [step1, hw, ho, hr]; exact h1
    · exact h.elim
  · rename_i hw
    obtain ⟨st', h1, h2⟩ := h.spec
    exact ⟨0, st', by simp only [step1, hw]; exact h1, h2⟩
  · exact h.elim

theorem WS.spec {ops : List Oper} : ∀ {l : List Oper} {st : St} {K : St → Prop}, WS E ops l st K → ∃ n st', steps E (callWith E (exec E n)) ops l st = some st' ∧ K st'
  | [], st, K, h => ⟨0, st, rfl, h⟩
  | o :: l, st, K, h => by
    obtain ⟨n, st1, h1, h2⟩ := h.step
    obtain ⟨m, st2, h3, h4⟩ := h2.spec
    refine ⟨n + m, st2, ?_, h4⟩
    simp only [steps]
    rw [step1_mono (callWith_mono (exec_mono (Nat.le_add_right n m))) h1]
    exact steps_mono (callWith_mono (exec_mono (Nat.le_add_left m n))) h3

theorem W.mono {c : Code} {st : St} {Q Q' : Ex → St → Prop} (h : W E c st Q) (hq : ∀ ex st', Q ex st' → Q' ex st') : W E c st Q' :=
  let ⟨n, ex, st', a, b⟩ := h; ⟨n, ex, st', a, hq _ _ b⟩

theorem W.region {id : Nat} {ops : Array Oper} {st : St} {Q : Ex → St → Prop} (h : WS E ops.toList ops.toList st (Q .normal)) : W E (.region id ops false) st Q := by
  obtain ⟨n, st', h1, h2⟩ := h.spec
  refine ⟨n + 1, .normal, st', ?_, h2⟩
  rw [exec_succ]
  simp only [execWith, cond_false, h1]

/-- a schedule without effects and blocks: in its order, nothing to be watched -/
def calmL : List Ent → Bool
  | [] => true
  | x :: l => (match cls x.o.op with | .pure => true | .read => true | _ => false) && calmL l

theorem drun_calm {call : CallF} {ops : List Oper} : ∀ {L : List Ent} {ws : List (Nat × Watch)} {st st' : St}, calmL L = true → steps E call ops (L.map (·.o)) st = some st' → drun E call ops L ws st = some st'
  | [], ws, st, st', _, e => e
  | x :: L, ws, st, st', hc, e => by
    simp only [calmL, Bool.and_eq_true] at hc
    simp only [List.map_cons, steps] at e
    split at e
    · rename_i st1 h1
      simp only [drun, h1]
      split
      · rename_i hw
        split
        · exact drun_calm hc.2 e
        · rename_i hk; rw [hk] at hc; exact absurd hc.1 (by decide)
        · rename_i hk
          have : ∃ y, newWatch E x st st1 = some [y] := by
            rcases step1_cases h1 with ⟨_, ⟨v, h, ho, _⟩ | ⟨h, ho, _⟩ | ⟨f, args, v, h, ho, _, _⟩⟩ | ⟨hw', _⟩
            · exact ⟨.read st x.o.op v, by simp only [newWatch, hk, ho]⟩
            · obtain ⟨u, h1⟩ := op_read hk ho; cases h1
            · obtain ⟨u, h1⟩ := op_read hk ho; cases h1
            · rw [hw] at hw'; cases hw'
          obtain ⟨y, hy⟩ := this
          rw [hy]
          exact drun_calm hc.2 e
        · rename_i hk; rw [hk] at hc; exact absurd hc.1 (by decide)
      · exact drun_calm hc.2 e
    · cases e

theorem W.calm {id : Nat} {ops : Array Oper} {L : List Ent} {st : St} {Q : Ex → St → Prop} (hs : schedOf ops.toList = some L) (hc : calmL L = true)
    (h : WS E ops.toList (L.map (·.o)) st (Q .normal)) : W E (.region id ops true) st Q := by
  obtain ⟨n, st', h1, h2⟩ := h.spec
  refine ⟨n + 1, .normal, st', ?_, h2⟩
  rw [exec_succ]
  simp only [execWith, cond_true, draws, hs, drun_calm hc h1]

/-- a region that draws, with effects: along its schedule, the watches looked at -/
def WD (E : Env) (ops : List Oper) : List Ent → List (Nat × Watch) → St → (St → Prop) → Prop
  | [], _, st, K => K st
  | x :: l, ws, st, K => match wantedA ops st.ts x.o with
    | some true => match cls x.o.op with
      | .pure => WS E ops [x.o] st fun st' => WD E ops l ws st' K
      | .eff => WS E ops [x.o] st fun st' => st.h.next ≤ st'.h.next ∧ watchOk E st'.h x.bef false ws = true ∧ WD E ops l ws st' K
      | .read => WS E ops [x.o] st fun st' => ∃ y, newWatch E x st st' = some [y] ∧ WD E ops l ((x.bit, y) :: ws) st' K
      | .alloc => WS E ops [x.o] st fun st' => ∃ y, newWatch E x st st' = some [y] ∧ watchOk E st'.h x.bef true ws = true ∧ WD E ops l ((x.bit, y) :: ws) st' K
    | some false => PutK st x.o.dst undefV fun st' => WD E ops l ws st' K
    | none => False

theorem WD.spec {ops : List Oper} : ∀ {L : List Ent} {ws : List (Nat × Watch)} {st : St} {K : St → Prop}, WD E ops L ws st K → ∃ n st', drun E (callWith E (exec E n)) ops L ws st = some st' ∧ K st'
  | [], ws, st, K, h => ⟨0, st, rfl, h⟩
  | x :: L, ws, st, K, h => by
    simp only [WD] at h
    have glue : ∀ (n : Nat) (st1 : St) (ws' : List (Nat × Watch)), step1 E (callWith E (exec E n)) ops x.o st = some st1 → WD E ops L ws' st1 K →
        (∀ call r, step1 E call ops x.o st = some st1 → drun E call ops L ws' st1 = some r → drun E call ops (x :: L) ws st = some r) →
        ∃ n st', drun E (callWith E (exec E n)) ops (x :: L) ws st = some st' ∧ K st' := by
      intro n st1 ws' h1 h2 h3
      obtain ⟨m, st2, h4, h5⟩ := h2.spec
      exact ⟨n + m, st2, h3 _ _ (step1_mono (callWith_mono (exec_mono (Nat.le_add_right n m))) h1) (drun_mono (callWith_mono (exec_mono (Nat.le_add_left m n))) h4), h5⟩
    split at h
    · rename_i hw
      split at h
      · rename_i hk
        obtain ⟨n, st1, h1, h2⟩ := h.step
        exact glue n st1 ws h1 h2 fun call r a b => by simp only [drun, a, hw, hk, b]
      · rename_i hk
        obtain ⟨n, st1, h1, h2, h3, h4⟩ := h.step
        refine glue n st1 ws h1 h4 fun call r a b => ?_
        have h2' : Nat.ble st.h.next st1.h.next = true := Nat.ble_eq_true_of_le h2
        simp only [drun, a, hw, hk, h2', h3, Bool.and_self, cond_true, b]
      · rename_i hk
        obtain ⟨n, st1, h1, y, h2, h3⟩ := h.step
        exact glue n st1 _ h1 h3 fun call r a b => by simp only [drun, a, hw, hk, h2, b]
      · rename_i hk
        obtain ⟨n, st1, h1, y, h2, h3, h4⟩ := h.step
        exact glue n st1 _ h1 h4 fun call r a b => by simp only [drun, a, hw, hk, h2, h3, cond_true, b]
    · rename_i hw
      obtain ⟨st1, h1, h2⟩ := h.spec
      refine glue 0 st1 ws (by simp only [step1, hw]; exact h1) h2 fun call r a b => ?_
      simp only [drun, a, hw, b]
    · exact h.elim

theorem W.draws {id : Nat} {ops : Array Oper} {L : List Ent} {st : St} {Q : Ex → St → Prop} (hs : schedOf ops.toList = some L) (h : WD E ops.toList L [] st (Q .normal)) : W E (.region id ops true) st Q := by
  obtain ⟨n, st', h1, h2⟩ := h.spec
  refine ⟨n + 1, .normal, st', ?_, h2⟩
  rw [exec_succ]
  simp only [execWith, cond_true, AM.draws, hs, h1]

theorem W.skip {st : St} {Q : Ex → St → Prop} (h : Q .normal st) : W E .skip st Q := ⟨1, .normal, st, rfl, h⟩
theorem W.ret {st : St} {Q : Ex → St → Prop} (h : Q .ret st) : W E .ret st Q := ⟨1, .ret, st, rfl, h⟩
theorem W.exit {id : Nat} {st : St} {Q : Ex → St → Prop} (h : Q (.exit id) st) : W E (.exit id) st Q := ⟨1, .exit id, st, rfl, h⟩

def Then (K : St → Prop) (Q : Ex → St → Prop) : Ex → St → Prop
  | .normal, st => K st
  | ex, st => Q ex st

theorem W.seq {a b : Code} {st : St} {Q : Ex → St → Prop} (h : W E a st (Then (fun st' => W E b st' Q) Q)) : W E (.seq a b) st Q := by
  obtain ⟨n, ex, st1, h1, h2⟩ := h
  cases ex with
  | normal =>
    obtain ⟨m, ex2, st2, h3, h4⟩ := h2
    refine ⟨n + m + 1, ex2, st2, ?_, h4⟩
    rw [exec_succ]
    simp only [execWith]
    rw [exec_mono (Nat.le_add_right n m) _ _ _ h1]
    exact exec_mono (Nat.le_add_left m n) _ _ _ h3
  | exit k => exact ⟨n + 1, .exit k, st1, by rw [exec_succ]; simp only [execWith, h1], h2⟩
  | ret => exact ⟨n + 1, .ret, st1, by rw [exec_succ]; simp only [execWith, h1], h2⟩

/-- the text behind is kept out of sight -/
theorem W.seqK {a b : Code} {st : St} {Q : Ex → St → Prop} (h : ∀ K : St → Prop, (∀ st', W E b st' Q → K st') → W E a st (Then K Q)) : W E (.seq a b) st Q := W.seq (h _ fun _ h => h)

theorem W.cond {x : Operand} {a b : Code} {st : St} {Q : Ex → St → Prop} {t : Bool} (ht : st.eval E.gl x = .bool t) (h : if t = true then W E a st Q else W E b st Q) : W E (.cond x a b) st Q := by
  cases t with
  | true =>
    rw [if_pos rfl] at h
    obtain ⟨n, ex, st', h1, h2⟩ := h
    exact ⟨n + 1, ex, st', by rw [exec_succ]; simp only [execWith, ht, cond_true, h1], h2⟩
  | false =>
    rw [if_neg (by decide)] at h
    obtain ⟨n, ex, st', h1, h2⟩ := h
    exact ⟨n + 1, ex, st', by rw [exec_succ]; simp only [execWith, ht, cond_false, h1], h2⟩

def InB (id : Nat) (Q : Ex → St → Prop) : Ex → St → Prop
  | .exit k, st => if k = id then Q .normal st else Q (.exit k) st
  | ex, st => Q ex st

theorem W.block {id : Nat} {a : Code} {st : St} {Q : Ex → St → Prop} (h : W E a st (InB id Q)) : W E (.block id a) st Q := by
  obtain ⟨n, ex, st', h1, h2⟩ := h
  cases ex with
  | normal => exact ⟨n + 1, .normal, st', by rw [exec_succ]; simp only [execWith, h1], h2⟩
  | ret => exact ⟨n + 1, .ret, st', by rw [exec_succ]; simp only [execWith, h1], h2⟩
  | exit k =>
    simp only [InB] at h2
    by_cases hk : k = id
    · rw [if_pos hk] at h2
      exact ⟨n + 1, .normal, st', by rw [exec_succ]; simp only [execWith, h1, T.beq_eq hk, cond_true], h2⟩
    · rw [if_neg hk] at h2
      exact ⟨n + 1, .exit k, st', by rw [exec_succ]; simp only [execWith, h1, T.beq_ne hk, cond_false], h2⟩

/-- a loop: what holds at each round's head, and a measure that goes down -/
theorem W.loop {a : Code} {Q : Ex → St → Prop} (I : Nat → St → Prop) (hr : ∀ k st, I k st → W E a st (Then (fun st' => ∃ j, j < k ∧ I j st') Q)) :
    ∀ k st, I k st → W E (.loop a) st Q := by
  intro k
  induction k using Nat.strongRecOn with
  | _ k ih =>
    intro st hI
    obtain ⟨n, ex, st1, h1, h2⟩ := hr k st hI
    cases ex with
    | normal =>
      obtain ⟨j, hj, hI'⟩ := h2
      obtain ⟨m, ex2, st2, h3, h4⟩ := ih j hj st1 hI'
      refine ⟨n + m + 1, ex2, st2, ?_, h4⟩
      rw [exec_succ]
      simp only [execWith]
      rw [exec_mono (Nat.le_add_right n m) _ _ _ h1]
      exact exec_mono (Nat.le_add_left m n) _ _ _ h3
    | exit k => exact ⟨n + 1, .exit k, st1, by rw [exec_succ]; simp only [execWith, h1], h2⟩
    | ret => exact ⟨n + 1, .ret, st1, by rw [exec_succ]; simp only [execWith, h1], h2⟩

theorem WCall.mono {f : Nat} {args : List Value} {h : Heap} {Q Q' : Value → Heap → Prop} (c : WCall E f args h Q) (hq : ∀ v h', Q v h' → Q' v h') : WCall E f args h Q' :=
  let ⟨n, v, h', a, b⟩ := c; ⟨n, v, h', a, hq _ _ b⟩

/-- the end of a function's text -/
def Ends (E : Env) (rs : List ResultVar) (Q : Value → Heap → Prop) : Ex → St → Prop
  | .exit _, _ => False
  | _, st => match results E st rs with | some vs => Q (tupled vs) st.h | none => False

theorem WCall.of {f : Nat} {fn : Func} {c : Code} {args : List Value} {h : Heap} {Q : Value → Heap → Prop} (hf : E.fn f = some fn) (hb : fn.body = some c) (hn : args.length ≤ fn.ntmps)
    (hw : W E c ⟨fn.ntmps, T.ofList args, h⟩ (Ends E fn.results.toList Q)) : WCall E f args h Q := by
  obtain ⟨n, ex, st, h1, h2⟩ := hw
  have hn' : Nat.ble args.length fn.ntmps = true := Nat.ble_eq_true_of_le hn
  have key : ∀ ex', (∀ k, ex' ≠ .exit k) → exec E n c ⟨fn.ntmps, T.ofList args, h⟩ = some (ex', st) → (match results E st fn.results.toList with | some vs => Q (tupled vs) st.h | none => False) → WCall E f args h Q := by
    intro ex' hne h1 h2
    split at h2
    · rename_i vs hvs
      refine ⟨n, tupled vs, st.h, ?_, h2⟩
      unfold run callWith
      simp only [hf, hb, hn', cond_true, h1]
      cases ex' with
      | exit k => exact absurd rfl (hne k)
      | normal => simp only [hvs]
      | ret => simp only [hvs]
    · exact h2.elim
  cases ex with
  | exit k => exact h2.elim
  | normal => exact key .normal (fun k h => by cases h) h1 h2
  | ret => exact key .ret (fun k h => by cases h) h1 h2
end
end Go.AM
