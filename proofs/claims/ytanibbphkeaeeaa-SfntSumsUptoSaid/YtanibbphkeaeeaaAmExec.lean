/- The small machine AM: operations in a row, code, calls: what it comes to, the model comes to. -/
import Derived.Test.YtanibbphkeaeeaaAmOp6
import Derived.LoopN
import Derived.Tactics
namespace Go.AM

def GOK (E : Env) (ι : Inj) : Prop := ∀ g, g < E.gl → ∃ m, ι g = some m ∧ m.blk = g ∧ m.base = 0

theorem GOK.mono {E : Env} {ι ι' : Inj} (h : GOK E ι) (hi : ι.le ι') : GOK E ι' := fun g hg => let ⟨m, a, b, c⟩ := h g hg; ⟨m, hi _ _ a, b, c⟩

def tmpV (st : St) (t : Nat) : Value := match st.ts.get t with | some v => v | none => undefV

structure SR (ι : Inj) (st : St) (a : Act) (w : World) : Prop where
  mem : R ι st.h w
  size : a.tmps.size = st.n
  tmps : ∀ t, VR ι (tmpV st t) (a.tmps.getD t undef)

theorem undef_rel (ι : Inj) : VR ι undefV undef := VR.tuple (a := []) (a' := []) rfl (fun i v v' h => by simp at h)

theorem SR.eval {E : Env} {ι : Inj} {st : St} {a : Act} {w : World} (s : SR ι st a w) (hg : GOK E ι) (x : Operand) : VR ι (st.eval E.gl x) (a.eval x) := by
  cases x with
  | tmp t => exact s.tmps t
  | const v =>
    simp only [St.eval, Act.eval]
    cases hs : scalar v with
    | true => exact .scalar hs
    | false => exact .junk
  | global g =>
    simp only [St.eval, Act.eval]
    cases hb : Nat.blt g E.gl with
    | false => exact .junk
    | true =>
      have hlt : g < E.gl := Nat.le_of_ble_eq_true hb
      obtain ⟨m, h1, h2, h3⟩ := hg g hlt
      have := VR.ptr (o := 0) h1
      rw [h2, h3] at this
      exact this
  | func f => exact VR.func (a := []) (a' := []) (c := []) (c' := []) rfl (fun i v v' h => by simp at h) rfl (fun i v v' h => by simp at h)

theorem SR.put {ι : Inj} {st st' : St} {a : Act} {w : World} (s : SR ι st a w) {d : Option Nat} {v v' : Value} (hv : VR ι v v') (e : st.put d v = some st') :
    SR ι st' (a.put d v') w ∧ st'.h = st.h ∧ st'.n = st.n ∧ (a.put d v').defers = a.defers := by
  cases d with
  | none => simp only [St.put, Option.some.injEq] at e; subst e; exact ⟨s, rfl, rfl, rfl⟩
  | some d =>
    simp only [St.put] at e
    cases hb : Nat.blt d st.n with
    | false => rw [hb] at e; cases e
    | true =>
      rw [hb] at e
      simp only [cond_true, Option.some.injEq] at e
      subst e
      have hlt : d < st.n := Nat.le_of_ble_eq_true hb
      refine ⟨⟨s.mem, by simp [Act.put, s.size], fun t => ?_⟩, rfl, rfl, rfl⟩
      simp only [tmpV, T.get_set, Act.put]
      by_cases ht : t = d
      · subst ht
        rw [if_pos rfl]
        have : t < a.tmps.size := by rw [s.size]; exact hlt
        simpa [Array.getD, this] using hv
      · rw [if_neg ht]
        have := s.tmps t
        have e1 : (a.tmps.setIfInBounds d v').getD t undef = a.tmps.getD t undef := by
          simp [Array.getElem?_setIfInBounds_ne (fun e => ht e.symm)]
        rw [e1]; exact this

theorem SR.mono_mem {ι ι' : Inj} {st : St} {h' : Heap} {a : Act} {w w' : World} (s : SR ι st a w) (hi : ι.le ι') (r : R ι' h' w') : SR ι' { st with h := h' } a w' :=
  ⟨r, s.size, fun t => (s.tmps t).mono hi⟩

theorem wanted_rel' {ι : Inj} {ops : Array Oper} {st : St} {a : Act} {o : Oper} {b : Bool}
    (s : ∀ j want oj d, o.guard = some (j, want) → ops.toList[j]? = some oj → oj.dst = some d → VR ι (tmpV st d) (a.tmps.getD d undef)) (e : wantedA ops.toList st.ts o = some b) :
    Region.wanted o (yielded ops a.tmps) = b := by
  unfold wantedA at e
  unfold Region.wanted
  cases hg : o.guard with
  | none => rw [hg] at e; simpa using e
  | some jw =>
    obtain ⟨j, want⟩ := jw
    rw [hg] at e
    simp only at e ⊢
    unfold yielded
    cases hj : ops[j]? with
    | none =>
      have : ops.toList[j]? = none := by simpa using hj
      rw [this] at e; simp only [Option.some.injEq] at e; subst e; rfl
    | some oj =>
      have : ops.toList[j]? = some oj := by simpa using hj
      rw [this] at e
      simp only at e
      cases hd : oj.dst with
      | none => rw [hd] at e; simp only [Option.some.injEq] at e; subst e; simp [hd]
      | some d =>
        rw [hd] at e
        simp only at e
        have hv := s j want oj d hg (by simpa using hj) hd
        unfold tmpV at hv
        simp only [Option.bind_some, hd]
        cases ht : st.ts.get d with
        | none =>
          rw [ht] at e hv
          simp only [Option.some.injEq] at e
          subst e
          simp only at hv
          have hund : a.tmps.getD d undef = undef := by
            generalize a.tmps.getD d undef = y at hv
            cases hv with
            | scalar hs => simp [undefV, scalar] at hs
            | tuple x y =>
              rename_i l'
              cases l' with
              | nil => rfl
              | cons => exact absurd x (by simp)
          cases hq : a.tmps[d]? with
          | none => simp
          | some y =>
            have : a.tmps.getD d undef = y := by simp [hq]
            rw [this] at hund
            subst hund
            rfl
        | some v =>
          rw [ht] at e hv
          simp only at hv
          cases v <;> simp only [Option.some.injEq, reduceCtorEq] at e
          · subst e
            have hb := hv.of_scalar rfl
            cases hq : a.tmps[d]? with
            | none => simp [hq] at hb; exact absurd hb (by simp [undef])
            | some y =>
              have : a.tmps.getD d undef = y := by simp [hq]
              rw [this] at hb
              subst hb
              simp
          · subst e
            cases hq : a.tmps[d]? with
            | none => rfl
            | some y =>
              have : a.tmps.getD d undef = y := by simp [hq]
              rw [this] at hv
              cases hv with
              | scalar hs => simp [scalar] at hs
              | tuple => rfl

theorem wanted_rel {ι : Inj} {ops : Array Oper} {st : St} {a : Act} {w : World} (s : SR ι st a w) {o : Oper} {b : Bool} (e : wantedA ops.toList st.ts o = some b) :
    Region.wanted o (yielded ops a.tmps) = b := wanted_rel' (fun _ _ _ d _ _ _ => s.tmps d) e

/-- what is known of the calls -/
def CallsOk (E : Env) (call : Nat → List Value → Heap → Option (Value × Heap)) : Prop :=
  ∀ f args h v h', call f args h = some (v, h') → ∀ ι w (args' : Array Value), R ι h w → GOK E ι → LR ι args args'.toList →
    Calls E.P f args' w fun e w' => ∃ ι' v', e = .returned v' ∧ Ext ι h w ι' h' w' ∧ R ι' h' w' ∧ VR ι' v v'

section
variable {E : Env} {call : Nat → List Value → Heap → Option (Value × Heap)}

theorem step1_ok (hE : E.OK) (hcall : CallsOk E call) {ops : Array Oper} {o : Oper} {st st' : St} {ι : Inj} {a : Act} {w : World} (s : SR ι st a w) (hg : GOK E ι)
    (e : step1 E call ops.toList o st = some st') {K : Act → World → Prop} {Q : Exit → Act → World → Prop}
    (hK : ∀ ι' a' w', SR ι' st' a' w' → Ext ι st.h w ι' st'.h w' → a'.defers = a.defers → K a' w') :
    if Region.wanted o (yielded ops a.tmps) then o.wp E.P a w K Q ∨ (o.asks E.P a w ∧ LetsOut Q) else K (a.put o.dst undef) w := by
  unfold step1 at e
  split at e
  · rename_i hw
    rw [if_pos (wanted_rel s hw)]
    refine .inl ?_
    unfold Oper.wp
    split at e
    · rename_i v h1 hop
      obtain ⟨ι', v', w', h2, h3, h4, h5⟩ := op_ok hE s.mem (fun x _ => s.eval hg x) hop
      rw [h2, Oper.upon_value]
      obtain ⟨k1, k2, _, k4⟩ := (s.mono_mem h3.le h4).put h5 e
      exact hK ι' _ w' k1 (by rw [k2]; exact h3) k4
    · rename_i h1 hop
      obtain ⟨ι', w', h2, h3, h4⟩ := op_ok hE s.mem (fun x _ => s.eval hg x) hop
      rw [h2, Oper.upon_skip]
      obtain ⟨k1, k2, _, k4⟩ := (s.mono_mem h3.le h4).put (undef_rel ι') e
      exact hK ι' _ w' k1 (by rw [k2]; exact h3) k4
    · rename_i f args hop
      obtain ⟨args', h2, h3⟩ := op_ok hE s.mem (fun x _ => s.eval hg x) hop
      rw [h2, Oper.upon_enter]
      split at e
      · rename_i v h1 hc
        refine (hcall f args st.h v h1 hc ι w args' s.mem hg h3).mono ?_
        rintro en w' ⟨ι', v', rfl, h4, h5, h6⟩
        obtain ⟨k1, k2, _, k4⟩ := (s.mono_mem h4.le h5).put h6 e
        exact hK ι' _ w' k1 (by rw [k2]; exact h4) k4
      · cases e
    · cases e
  · rename_i hw
    rw [if_neg (by rw [wanted_rel s hw]; decide)]
    obtain ⟨k1, k2, _, k4⟩ := s.put (undef_rel ι) e
    exact hK ι _ w k1 (by rw [k2]; exact Ext.refl ι st.h w) k4
  · cases e

theorem steps_ok (hE : E.OK) (hcall : CallsOk E call) {ops : Array Oper} {Q : Exit → Act → World → Prop} : ∀ (l : List Oper) (st st' : St) (ι : Inj) (a : Act) (w : World), SR ι st a w → GOK E ι →
    steps E call ops.toList l st = some st' → (∀ ι' a' w', SR ι' st' a' w' → Ext ι st.h w ι' st'.h w' → a'.defers = a.defers → Q .normal a' w') → wpList E.P ops Q l a w
  | [], st, st', ι, a, w, s, _, e, hQ => by
    simp only [steps, Option.some.injEq] at e
    subst e
    exact hQ ι a w s (Ext.refl ι st.h w) rfl
  | o :: l, st, st', ι, a, w, s, hg, e, hQ => by
    simp only [steps] at e
    split at e
    · rename_i st1 e1
      unfold wpList
      refine step1_ok hE hcall s hg e1 ?_
      intro ι1 a1 w1 s1 x1 d1
      refine steps_ok hE hcall l st1 st' ι1 a1 w1 s1 (hg.mono x1.le) e ?_
      intro ι2 a2 w2 s2 x2 d2
      exact hQ ι2 a2 w2 s2 (x1.trans x2) (d2.trans d1)
    · cases e
end

def exRel : Ex → Exit → Prop
  | .normal, .normal => True
  | .exit k, .exit k' => k = k'
  | .ret, .ret => True
  | _, _ => False

/-- what is asked of the check of regions that draw -/
def DrawsOk (E : Env) (draws : CallF → List Oper → St → Option St) : Prop :=
  ∀ call, CallsOk E call → ∀ (ops : Array Oper) (st st' : St), draws call ops.toList st = some st' → ∀ (ι : Inj) (a : Act) (w : World) (Q : Exit → Act → World → Prop), SR ι st a w → GOK E ι →
    (∀ ι' a' w', SR ι' st' a' w' → Ext ι st.h w ι' st'.h w' → a'.defers = a.defers → Q .normal a' w') → ∀ id, (Code.region id ops true).wp E.P Q a w

def CodeOk (E : Env) (rec : Code → St → Option (Ex × St)) : Prop :=
  ∀ c st ex st', rec c st = some (ex, st') → ∀ (ι : Inj) (a : Act) (w : World) (Q : Exit → Act → World → Prop), SR ι st a w → GOK E ι →
    (∀ e ι' a' w', exRel ex e → SR ι' st' a' w' → Ext ι st.h w ι' st'.h w' → a'.defers = a.defers → Q e a' w') → c.wp E.P Q a w

theorem load_addr {E : Env} (hE : E.OK) {ι : Inj} {h : Heap} {w : World} (r : R ι h w) {t : Nat} {a a' x : Value} (ha : VR ι a a') (e : load E h t a = some x) :
    ∃ ad x', a' = .pointer (some ad) ∧ (loadVar t ad).run E.P w = .ok x' w ∧ VR ι x x' := by
  obtain ⟨x', h1, h2⟩ := load_ok hE r ha e
  have : ∃ b o, a = .pointer (some ⟨b, o, none⟩) := by
    unfold load at e
    split at e
    · exact ⟨_, _, rfl⟩
    · cases e
  obtain ⟨b, o, rfl⟩ := this
  cases ha with
  | scalar hs => simp [scalar] at hs
  | ptr hm =>
    rename_i m
    refine ⟨_, x', rfl, ?_, h2⟩
    simpa [Instr.loadAt, Instr.sureAddr] using h1

theorem results_ok {E : Env} (hE : E.OK) {ι : Inj} {st : St} {a : Act} {w : World} (s : SR ι st a w) : ∀ (l : List ResultVar) (vs : List Value), results E st l = some vs →
    ∃ vs', LR ι vs vs' ∧ ∀ F : ResultVar → Sem Value, (∀ t, F (.tmp t) = pure (a.tmps.getD t undef)) → (∀ x t, F (.cell x t) = do loadVar t (← asAddr (a.tmps.getD x undef))) →
      (l.mapM F).run E.P w = .ok vs' w
  | [], vs, e => by simp [results] at e; subst e; exact ⟨[], .nil, fun _ _ _ => by simp⟩
  | .tmp t :: l, vs, e => by
    simp only [results] at e
    split at e
    · rename_i vs1 e1
      cases e
      obtain ⟨vs', h2, h1⟩ := results_ok hE s l vs1 e1
      refine ⟨a.tmps.getD t undef :: vs', .cons (s.tmps t) h2, fun F f1 f2 => ?_⟩
      simp only [List.mapM_cons, Sem.run_bind, Sem.run_pure, Result.andThen_ok, h1 F f1 f2, f1]
    · cases e
  | .cell x t :: l, vs, e => by
    simp only [results] at e
    split at e
    · rename_i v vs1 e0 e1
      cases e
      obtain ⟨vs', h2, h1⟩ := results_ok hE s l vs1 e1
      obtain ⟨ad, v', k1, k2, k3⟩ := load_addr hE s.mem (s.tmps x) e0
      refine ⟨v' :: vs', .cons k3 h2, fun F f1 f2 => ?_⟩
      simp only [List.mapM_cons, Sem.run_bind, Sem.run_pure, Result.andThen_ok, h1 F f1 f2, f2, k1, asAddr, k2]
    · cases e

theorem getD_pad (a : Array Value) (n t : Nat) : (a ++ Array.replicate n undef).getD t undef = a.getD t undef := by
  rw [Array.getD_eq_getD_getElem?, Array.getD_eq_getD_getElem?]
  by_cases h : t < a.size
  · rw [Array.getElem?_append_left h]
  · rw [Array.getElem?_append_right (by omega), Array.getElem?_replicate, Array.getElem?_eq_none (xs := a) (by omega)]
    split <;> rfl

theorem tupled_rel {ι : Inj} {vs vs' : List Value} (h : LR ι vs vs') : VR ι (tupled vs) (if h : vs'.toArray.size = 1 then vs'.toArray[0] else .tuple vs'.toArray) := by
  cases vs with
  | nil => cases vs' with
    | nil => exact VR.tuple (a := []) (a' := []) h.1 h.2
    | cons => exact absurd h.1 (by simp)
  | cons v l => cases vs' with
    | nil => exact absurd h.1 (by simp)
    | cons v' l' =>
      cases l with
      | nil => cases l' with
        | nil => exact h.head
        | cons => exact absurd h.1 (by simp)
      | cons x l => cases l' with
        | nil => exact absurd h.1 (by simp)
        | cons x' l' => exact VR.tuple h.1 h.2

theorem callWith_ok {E : Env} (hE : E.OK) {rec : Code → St → Option (Ex × St)} (hrec : CodeOk E rec) : CallsOk E (callWith E rec) := by
  intro f args h v h' e ι w args' r hg hl
  unfold callWith at e
  split at e
  · rename_i fn hfn
    split at e
    · rename_i c hc
      cases hb : Nat.ble args.length fn.ntmps with
      | false => rw [hb] at e; cases e
      | true =>
        rw [hb] at e
        simp only [cond_true] at e
        have hle := Nat.le_of_ble_eq_true hb
        have hal : args.length = args'.size := by simpa using hl.1
        have hs : SR ι { n := fn.ntmps, ts := T.ofList args, h := h } { tmps := args' ++ Array.replicate (fn.ntmps - args'.size) undef, defers := [] } w := by
          refine ⟨r, by simp; omega, fun t => ?_⟩
          simp only [tmpV, T.get_ofList]
          by_cases ht : t < args.length
          · obtain ⟨y, g1, g2⟩ := hl.get (List.getElem?_eq_getElem ht)
            rw [List.getElem?_eq_getElem ht]
            have : args'.getD t undef = y := by
              have h1 : args'[t]? = some y := by simpa using g1
              rw [Array.getD_eq_getD_getElem?, h1]; rfl
            rw [getD_pad, this]; exact g2
          · rw [List.getElem?_eq_none (by omega), getD_pad, Array.getD_eq_getD_getElem?, Array.getElem?_eq_none (by omega)]
            exact undef_rel ι
        split at e
        · cases e
        · rename_i ex st' hne e1
          split at e
          · rename_i vs e2
            simp only [Option.some.injEq, Prod.mk.injEq] at e
            obtain ⟨rfl, rfl⟩ := e
            refine calls_of_wp (hE.fn f fn hfn) hc ?_
            refine hrec c _ ex st' e1 ι _ w _ hs hg ?_
            intro en ι' a' w' hex s' x' d'
            obtain ⟨vs', k2, k1⟩ := results_ok hE s' _ _ e2
            have hrun : (Go.results fn a'.tmps).run E.P w' = .ok (if h : vs'.toArray.size = 1 then vs'.toArray[0] else .tuple vs'.toArray) w' := by
              unfold Go.results
              simp only [Sem.run_bind, Array.mapM_eq_mapM_toList, Sem.run_map]
              rw [k1 _ (fun _ => rfl) (fun _ _ => rfl)]; rfl
            have key : a'.defers = [] ∧ ∃ v, (Go.results fn a'.tmps).run E.P w' = .ok v w' ∧ ∃ ι'' v', Ending.returned v = .returned v' ∧ Ext ι h w ι'' st'.h w' ∧ R ι'' st'.h w' ∧ VR ι'' (tupled vs) v' :=
              ⟨d', _, hrun, ι', _, rfl, x', s'.mem, tupled_rel k2⟩
            cases ex with
            | exit k => exact absurd rfl (hne k)
            | normal => cases en <;> first | exact key | exact hex.elim
            | ret => cases en <;> first | exact key | exact hex.elim
          · cases e
        · cases e
    · cases e
  · cases e

def LoopOk (E : Env) (n : Nat) (rec : Code → St → Option (Ex × St)) : Prop :=
  ∀ c st ex st', rec (.loop c) st = some (ex, st') → ∀ (ι : Inj) (a : Act) (w : World) (Q : Exit → Act → World → Prop), SR ι st a w → GOK E ι →
    (∀ e ι' a' w', exRel ex e → SR ι' st' a' w' → Ext ι st.h w ι' st'.h w' → a'.defers = a.defers → Q e a' w') → Code.rounds E.P c Q n a w

theorem execG_succ {E : Env} {draws : CallF → List Oper → St → Option St} (n : Nat) : execG E draws (n + 1) = execWith E draws (execG E draws n) := rfl

theorem exec_ok {E : Env} (hE : E.OK) {draws : CallF → List Oper → St → Option St} (hd : DrawsOk E draws) : ∀ n, CodeOk E (execG E draws n) ∧ LoopOk E n (execG E draws n) := by
  intro n
  induction n with
  | zero => exact ⟨fun c st ex st' e => by simp [execG] at e, fun c st ex st' e => by simp [execG] at e⟩
  | succ n ih =>
    obtain ⟨ihc, ihl⟩ := ih
    rw [execG_succ]
    generalize execG E draws n = rec at *
    have hcall := callWith_ok hE ihc
    have hloop : LoopOk E (n + 1) (execWith E draws rec) := by
      intro c st ex st' e ι a w Q s hg hQ
      simp only [execWith] at e
      rw [rounds_succ]
      split at e
      · rename_i st1 e1
        refine ihc c st .normal st1 e1 ι a w _ s hg ?_
        intro en ι1 a1 w1 hex s1 x1 d1
        cases en <;> first | exact hex.elim | skip
        refine ihl c st1 ex st' e ι1 a1 w1 Q s1 (hg.mono x1.le) ?_
        intro en ι2 a2 w2 hex2 s2 x2 d2
        exact hQ en ι2 a2 w2 hex2 s2 (x1.trans x2) (d2.trans d1)
      · rename_i hne
        refine ihc c st ex st' e ι a w _ s hg ?_
        intro en ι1 a1 w1 hex s1 x1 d1
        have h1 := hQ en ι1 a1 w1 hex s1 x1 d1
        cases en with
        | normal => cases ex <;> first | exact hex.elim | exact absurd e (hne st')
        | _ => exact h1
    refine ⟨?_, hloop⟩
    intro c st ex st' e ι a w Q s hg hQ
    cases c with
    | loop c => exact wp_loop_rounds (n + 1) (hloop c st ex st' e ι a w Q s hg hQ)
    | skip =>
      simp only [execWith, Option.some.injEq, Prod.mk.injEq] at e
      obtain ⟨rfl, rfl⟩ := e
      exact wp_skip (hQ .normal ι a w trivial s (Ext.refl ι st.h w) rfl)
    | exit id =>
      simp only [execWith, Option.some.injEq, Prod.mk.injEq] at e
      obtain ⟨rfl, rfl⟩ := e
      exact wp_exit (hQ (.exit id) ι a w rfl s (Ext.refl ι st.h w) rfl)
    | ret =>
      simp only [execWith, Option.some.injEq, Prod.mk.injEq] at e
      obtain ⟨rfl, rfl⟩ := e
      exact wp_ret (hQ .ret ι a w trivial s (Ext.refl ι st.h w) rfl)
    | region id ops draw =>
      simp only [execWith] at e
      split at e
      · rename_i st1 e1
        simp only [Option.some.injEq, Prod.mk.injEq] at e
        obtain ⟨rfl, rfl⟩ := e
        cases draw with
        | true => exact hd _ hcall ops st st1 e1 ι a w Q s hg (fun ι' a' w' => hQ .normal ι' a' w' trivial) id
        | false => exact wp_region_list (steps_ok hE hcall ops.toList st st1 ι a w s hg e1 (fun ι' a' w' => hQ .normal ι' a' w' trivial))
      · cases e
    | seq x y =>
      simp only [execWith] at e
      apply wp_seq
      split at e
      · rename_i st1 e1
        refine ihc x st .normal st1 e1 ι a w _ s hg ?_
        intro en ι1 a1 w1 hex s1 x1 d1
        cases en <;> first | exact hex.elim | skip
        refine ihc y st1 ex st' e ι1 a1 w1 Q s1 (hg.mono x1.le) ?_
        intro en ι2 a2 w2 hex2 s2 x2 d2
        exact hQ en ι2 a2 w2 hex2 s2 (x1.trans x2) (d2.trans d1)
      · rename_i hne
        refine ihc x st ex st' e ι a w _ s hg ?_
        intro en ι1 a1 w1 hex s1 x1 d1
        have h1 := hQ en ι1 a1 w1 hex s1 x1 d1
        cases en with
        | normal => cases ex <;> first | exact hex.elim | exact absurd e (hne st')
        | _ => exact h1
    | cond x a1 b1 =>
      simp only [execWith] at e
      split at e
      · rename_i t ht
        have hv := s.eval hg x
        rw [ht] at hv
        refine wp_cond (hv.of_scalar rfl) ?_
        cases t with
        | true => exact ihc a1 st ex st' e ι a w Q s hg hQ
        | false => exact ihc b1 st ex st' e ι a w Q s hg hQ
      · cases e
    | block id x =>
      simp only [execWith] at e
      apply wp_block
      split at e
      · rename_i k st1 e1
        refine ihc x st (.exit k) st1 e1 ι a w _ s hg ?_
        intro en ι1 a1 w1 hex s1 x1 d1
        cases en <;> first | exact hex.elim | skip
        rename_i k'
        have hex : k = k' := hex
        subst hex
        cases hb : Nat.beq k id with
        | true =>
          rw [hb] at e
          simp only [cond_true, Option.some.injEq, Prod.mk.injEq] at e
          obtain ⟨rfl, rfl⟩ := e
          have := Nat.eq_of_beq_eq_true hb
          show if k = id then _ else _
          rw [if_pos this]
          exact hQ .normal ι1 a1 w1 trivial s1 x1 d1
        | false =>
          rw [hb] at e
          simp only [cond_false, Option.some.injEq, Prod.mk.injEq] at e
          obtain ⟨rfl, rfl⟩ := e
          have : ¬ (k = id) := fun e => by rw [T.beq_eq e] at hb; cases hb
          show if k = id then _ else _
          rw [if_neg this]
          exact hQ (.exit k) ι1 a1 w1 rfl s1 x1 d1
      · rename_i hne
        refine ihc x st ex st' e ι a w _ s hg ?_
        intro en ι1 a1 w1 hex s1 x1 d1
        have h1 := hQ en ι1 a1 w1 hex s1 x1 d1
        cases en with
        | exit k => cases ex <;> first | exact hex.elim | exact absurd e (hne _ st')
        | _ => exact h1
    | _ => simp [execWith] at e
end Go.AM
