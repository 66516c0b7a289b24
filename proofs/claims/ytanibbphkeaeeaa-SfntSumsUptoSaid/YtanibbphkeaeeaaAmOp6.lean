/- The small machine AM: an operation as a whole does what the model's does. -/
import Derived.Test.YtanibbphkeaeeaaAmOp5
namespace Go.AM

def OutOk (ι : Inj) (h : Heap) (w : World) (res : Result Next) : Out → Prop
  | .value v h' => ∃ ι' v' w', res = .ok (.value v') w' ∧ Ext ι h w ι' h' w' ∧ R ι' h' w' ∧ VR ι' v v'
  | .skip h' => ∃ ι' w', res = .ok .skip w' ∧ Ext ι h w ι' h' w' ∧ R ι' h' w'
  | .enter f args => ∃ args', res = .ok (.enter f args') w ∧ LR ι args args'.toList

section
variable {E : Env} {ι : Inj} {h : Heap} {w : World} {ρ ρ' : Operand → Value}

theorem argsOf_rel : ∀ (l : List Operand), (∀ x ∈ l, VR ι (ρ x) (ρ' x)) → LR ι (argsOf ρ l) (argsOf ρ' l)
  | [], _ => .nil
  | x :: l, hl => .cons (hl x (by simp)) (argsOf_rel l fun y hy => hl y (by simp [hy]))

theorem argsOf_map (l : List Operand) : argsOf ρ l = l.map ρ := by
  induction l with
  | nil => rfl
  | cons x l ih => simp [argsOf, ih]

theorem pairsOf_rel : ∀ (l : List (Nat × Operand)), (∀ x ∈ l, VR ι (ρ x.2) (ρ' x.2)) → PR ι (pairsOf ρ l) (pairsOf ρ' l)
  | [], _ => .nil
  | (i, x) :: l, hl => .cons (hl (i, x) (by simp)) (pairsOf_rel l fun y hy => hl y (by simp [hy]))

theorem pairsOf_map (l : List (Nat × Operand)) : pairsOf ρ l = l.map fun (i, x) => (i, ρ x) := by
  induction l with
  | nil => rfl
  | cons x l ih => simp [pairsOf, ih]

theorem OutOk.of_val {res : Result Value} {v : Value} {h' : Heap} (hv : Val ι h w res v h') :
    OutOk ι h w (res.andThen fun v w => .ok (.value v) w) (.value v h') := by
  obtain ⟨ι', v', w', h1, h2, h3, h4⟩ := hv
  exact ⟨ι', v', w', by rw [h1]; rfl, h2, h3, h4⟩

theorem OutOk.of_pure (r : R ι h w) {res : Result Value} {v v' : Value} (h1 : res = .ok v' w) (h2 : VR ι v v') :
    OutOk ι h w (res.andThen fun v w => .ok (.value v) w) (.value v h) := ⟨ι, v', w, by rw [h1]; rfl, Ext.refl ι h w, r, h2⟩

theorem run_v (P : Program) (s : Sem Value) (w : World) : (do pure (.value (← s)) : Sem Next).run P w = (s.run P w).andThen fun v w => .ok (.value v) w := by
  simp

theorem val_some {x : Option Value} {out : Out} (e : val h x = some out) : ∃ v, x = some v ∧ out = .value v h := by
  cases x with
  | none => cases e
  | some v => simp only [val, Option.some.injEq] at e; exact ⟨v, rfl, e.symm⟩

theorem valH_some {x : Option (Value × Heap)} {out : Out} (e : valH x = some out) : ∃ v h', x = some (v, h') ∧ out = .value v h' := by
  cases x with
  | none => cases e
  | some v => simp only [valH, Option.some.injEq] at e; exact ⟨v.1, v.2, rfl, e.symm⟩

theorem valP_some {x : Option Value} {out : Out} (e : valH (valP h x) = some out) : ∃ v, x = some v ∧ plain v = true ∧ out = .value v h := by
  cases x with
  | none => cases e
  | some v =>
    simp only [valP] at e
    cases hp : plain v with
    | false => rw [hp] at e; cases e
    | true => rw [hp] at e; simp only [cond_true, valH, Option.some.injEq] at e; exact ⟨v, rfl, hp, e.symm⟩

theorem call_ok (hE : E.OK) (r : R ι h w) {c : Call} {ty : Nat} {out : Out} (hρ : ∀ x ∈ c.operands, VR ι (ρ x) (ρ' x)) (e : call E ρ h c = some out) :
    OutOk ι h w ((do let d ← resolve ρ' c ty; invoke d.target d.args : Sem Next).run E.P w) out := by
  have hargs : LR ι (argsOf ρ c.args.toList) (argsOf ρ' c.args.toList) := argsOf_rel _ fun x hx => hρ x (by simp [Call.operands]; exact .inr (by simpa using hx))
  have hmap : c.args.map ρ' = (argsOf ρ' c.args.toList).toArray := by rw [argsOf_map]; apply Array.ext'; simp
  unfold call at e
  split at e
  · rename_i f hcal
    split at e
    · rename_i k first captured hf
      have hv := hρ f (by simp [Call.operands, hcal])
      rw [hf] at hv
      obtain ⟨first', captured', hf', l1, l2⟩ : ∃ first' captured', ρ' f = .func (.func k) first' captured' ∧ LR ι first.toList first'.toList ∧ LR ι captured.toList captured'.toList := by
        generalize hy : ρ' f = y at hv
        cases hv with
        | scalar hs => simp [scalar] at hs
        | func a b c d => exact ⟨_, _, rfl, ⟨a, b⟩, ⟨c, d⟩⟩
      unfold callFn at e
      split at e
      · rename_i fn hfn
        split at e
        · rename_i body hbody
          cases hn : fn.name == "runtime.NumGoroutine" with
          | true => rw [hn] at e; cases e
          | false =>
            rw [hn] at e
            simp only [cond_false, Option.some.injEq] at e
            subst e
            refine ⟨first' ++ c.args.map ρ' ++ captured', ?_, ?_⟩
            · have hP := hE.fn k fn hfn
              simp only [resolve, hcal, Deferred.ofValue, hf', Sem.run_bind, Sem.run_pure, Result.andThen_ok, invoke, callFunc, run_program, hP, hn, Bool.false_eq_true, if_false, hbody, Option.isNone_some]
            · simp only [Array.toList_append]
              rw [hmap, List.append_assoc]
              exact l1.append (hargs.append l2)
        · cases e
      · cases e
    · cases e
  · cases e
  · rename_i b hcal
    obtain ⟨consts, hcal'⟩ : ∃ consts, (resolve ρ' c ty >>= fun d => invoke d.target d.args).run E.P w =
        (builtin b c.argTypes ty consts (argsOf ρ' c.args.toList).toArray).run E.P w := by
      refine ⟨c.args.map fun | .const _ => true | _ => false, ?_⟩
      simp only [resolve, hcal, Sem.run_bind, Sem.run_pure, Result.andThen_ok, invoke, hmap]
      rfl
    rw [hcal']
    clear hcal'
    generalize argsOf ρ c.args.toList = args at *
    generalize argsOf ρ' c.args.toList = args' at *
    have hts : c.argTypes = c.argTypes.toList.toArray := by simp
    rw [hts]
    generalize c.argTypes.toList = ts at *
    split at e
    · rename_i x t
      obtain ⟨v, h1, rfl⟩ := val_some e
      cases args' with
      | nil => exact absurd hargs.1 (by simp)
      | cons x' l =>
        cases l with
        | cons y l => exact absurd hargs.1 (by simp)
        | nil =>
          obtain ⟨h2, h3⟩ := lenV_ok (w := w) (ts := [t].toArray) (ty := ty) hE (by simp) hargs.head h1
          simp only [builtin, run_v]
          exact .of_pure r h2 (.scalar h3)
    · rename_i s x t u
      cases args' with
      | nil => exact absurd hargs.1 (by simp)
      | cons s' l =>
        cases l with
        | nil => exact absurd hargs.1 (by simp)
        | cons x' l =>
          cases l with
          | cons y l => exact absurd hargs.1 (by simp)
          | nil =>
            split at e
            · cases e
            · rename_i d hd hu
              obtain ⟨v, h', e1, rfl⟩ := valH_some e
              simp only [builtin, run_v]
              exact .of_val (append_ok hE r hu (fun k hk => by subst hk; exact hd k rfl) hargs.head hargs.tail.head e1)
            · cases e
    · rename_i d x t ts'
      cases args' with
      | nil => exact absurd hargs.1 (by simp)
      | cons s' l =>
        cases l with
        | nil => exact absurd hargs.1 (by simp)
        | cons x' l =>
          cases l with
          | cons y l => exact absurd hargs.1 (by simp)
          | nil =>
            obtain ⟨v, h', e1, rfl⟩ := valH_some e
            simp only [builtin, run_v]
            exact .of_val (copy_ok hE r (by simp) hargs.head hargs.tail.head e1)
    · cases hc : allS args with
      | false => rw [hc] at e; cases e
      | true =>
        rw [hc] at e
        obtain ⟨v, h1, h2, rfl⟩ := valP_some (h := h) e
        have := LR.of_scalar hc hargs
        subst this
        simp only [builtin, run_v]
        exact .of_pure r (peel_run _ _ _ h1 w) (plain_refl h2)
    · cases hc : allS args with
      | false => rw [hc] at e; cases e
      | true =>
        rw [hc] at e
        obtain ⟨v, h1, h2, rfl⟩ := valP_some (h := h) e
        have := LR.of_scalar hc hargs
        subst this
        simp only [builtin, run_v]
        exact .of_pure r (peel_run _ _ _ h1 w) (plain_refl h2)
    · cases e

theorem opt_rel {lo : Option Operand} (hl : ∀ x ∈ lo.toArray, VR ι (ρ x) (ρ' x)) :
    (lo.map ρ = none ∧ lo.map ρ' = none) ∨ ∃ y y', lo.map ρ = some y ∧ lo.map ρ' = some y' ∧ VR ι y y' := by
  cases lo with
  | none => exact .inl ⟨rfl, rfl⟩
  | some x => exact .inr ⟨_, _, rfl, rfl, hl x (by simp)⟩

theorem op_ok (hE : E.OK) (r : R ι h w) {o : Oper} {out : Out} (hρ : ∀ x ∈ o.op.operands, VR ι (ρ x) (ρ' x)) (e : op E ρ h o.op = some out) :
    OutOk ι h w ((execOp ρ' o).run E.P w) out := by
  obtain ⟨dst, p, type, pos, after, guard⟩ := o
  simp only at hρ e
  cases p <;> simp only [Op.operands] at hρ <;> simp only [op, reduceCtorEq] at e
  case move x =>
    cases e
    exact ⟨ι, ρ' x, w, rfl, Ext.refl ι h w, r, hρ x (by simp)⟩
  case assign x =>
    cases e
    exact ⟨ι, ρ' x, w, rfl, Ext.refl ι h w, r, hρ x (by simp)⟩
  case pick c a b =>
    split at e
    · rename_i t ht
      cases e
      have h1 := hρ c (by simp)
      rw [ht] at h1
      have h2 := h1.of_scalar rfl
      refine ⟨ι, cond t (ρ' a) (ρ' b), w, ?_, Ext.refl ι h w, r, ?_⟩
      · simp only [execOp, h2, asBool, Sem.run_bind, Sem.run_pure, Result.andThen_ok]
        cases t <;> rfl
      · cases t
        · exact hρ b (by simp)
        · exact hρ a (by simp)
    · cases e
  case alloc t =>
    obtain ⟨v, h', e1, rfl⟩ := valH_some e
    simp only [execOp, run_v]
    exact .of_val (alloc_ok hE r e1)
  case box t x =>
    obtain ⟨v, h', e1, rfl⟩ := valH_some e
    simp only [execOp, run_v]
    exact .of_val (box_ok r (hρ x (by simp)) e1)
  case build t ps =>
    obtain ⟨v, e1, rfl⟩ := val_some e
    have hp : PR ι (pairsOf ρ ps.toList) (pairsOf ρ' ps.toList) := pairsOf_rel _ fun x hx => hρ x.2 (by simp; exact ⟨x.1, by simpa using hx⟩)
    obtain ⟨v', h1, h2⟩ := build_ok hE (w := w) hp e1
    have hmap : (ps.map fun (i, x) => (i, ρ' x)) = (pairsOf ρ' ps.toList).toArray := by rw [pairsOf_map]; apply Array.ext'; simp
    simp only [execOp, run_v, hmap]
    exact .of_pure r h1 h2
  case buildSlice t n ps =>
    obtain ⟨v, h', e1, rfl⟩ := valH_some e
    have hp : PR ι (pairsOf ρ ps.toList) (pairsOf ρ' ps.toList) := pairsOf_rel _ fun x hx => hρ x.2 (by simp; exact ⟨x.1, by simpa using hx⟩)
    have hmap : (ps.map fun (i, x) => (i, ρ' x)) = (pairsOf ρ' ps.toList).toArray := by rw [pairsOf_map]; apply Array.ext'; simp
    simp only [execOp, run_v, hmap]
    exact .of_val (buildSlice_ok hE r hp e1)
  case load t a =>
    obtain ⟨v, e1, rfl⟩ := val_some e
    obtain ⟨v', h1, h2⟩ := load_ok hE r (hρ a (by simp)) e1
    simp only [execOp, run_v]
    exact .of_pure r h1 h2
  case store t a x =>
    split at e
    · rename_i h' e1
      cases e
      obtain ⟨w', h1, h2, h3⟩ := storeV_ok hE r (hρ a (by simp)) (hρ x (by simp)) e1
      refine ⟨ι, w', ?_, h3, h2⟩
      simp only [execOp, Sem.run_bind, h1, Result.andThen_ok, Sem.run_pure]
    · cases e
  case nilCheck x =>
    obtain ⟨v, e1, rfl⟩ := val_some e
    have hx := hρ x (by simp)
    simp only [execOp]
    generalize ρ x = y at *
    generalize ρ' x = y' at *
    unfold nilCheck at e1
    split at e1
    · cases e1
      cases hx with
      | scalar hs => simp [scalar] at hs
      | ptr hm => exact ⟨ι, _, w, rfl, Ext.refl ι h w, r, .ptr hm⟩
    · cases e1
      cases hx with
      | scalar hs => simp [scalar] at hs
      | iface hv => exact ⟨ι, _, w, rfl, Ext.refl ι h w, r, .iface hv⟩
    · cases e1
      cases hx with
      | scalar hs => simp [scalar] at hs
      | func a b c d => exact ⟨ι, _, w, rfl, Ext.refl ι h w, r, .func a b c d⟩
    · cases e1
  case binOp op t x y yt =>
    obtain ⟨v, e1, rfl⟩ := val_some e
    obtain ⟨v', h1, h2⟩ := binOpV_plain (w := w) hE (hρ x (by simp)) (hρ y (by simp)) e1
    simp only [execOp, run_v]
    exact .of_pure r h1 h2
  case unOp u t x =>
    cases hc : plain (ρ x) with
    | false => rw [hc] at e; cases e
    | true =>
      rw [hc] at e
      obtain ⟨v, h1, h2, rfl⟩ := valP_some (h := h) e
      have := (hρ x (by simp)).of_plain hc
      simp only [execOp, run_v, this]
      exact .of_pure r (peel_run _ _ _ h1 w) (plain_refl h2)
  case convert s d x =>
    obtain ⟨v, h', e1, rfl⟩ := valH_some e
    simp only [execOp, run_v]
    exact .of_val (convert_ok hE r (hρ x (by simp)) e1)
  case makeInterface t x =>
    split at e
    · cases e
    · rename_i d hn hd
      cases e
      refine ⟨ι, .iface t (ρ' x), w, ?_, Ext.refl ι h w, r, .iface (hρ x (by simp))⟩
      simp only [execOp, Instr.makeInterface, Sem.run_bind, run_und hE hd, Result.andThen_ok]
      rfl
    · cases e
  case makeFunc f first captured =>
    cases e
    have l1 := argsOf_rel (ι := ι) (ρ := ρ) (ρ' := ρ') first.toList fun x hx => hρ x (by simp; exact .inl (by simpa using hx))
    have l2 := argsOf_rel (ι := ι) (ρ := ρ) (ρ' := ρ') captured.toList fun x hx => hρ x (by simp; exact .inr (by simpa using hx))
    have m1 : first.map ρ' = (argsOf ρ' first.toList).toArray := by rw [argsOf_map]; apply Array.ext'; simp
    have m2 : captured.map ρ' = (argsOf ρ' captured.toList).toArray := by rw [argsOf_map]; apply Array.ext'; simp
    refine ⟨ι, .func f (first.map ρ') (captured.map ρ'), w, rfl, Ext.refl ι h w, r, ?_⟩
    rw [m1, m2]
    exact .func l1.1 l1.2 l2.1 l2.2
  case makeSlice t a b =>
    obtain ⟨v, h', e1, rfl⟩ := valH_some e
    simp only [execOp, run_v]
    exact .of_val (makeSlice_ok hE r (hρ a (by simp)) (hρ b (by simp)) e1)
  case slice t x lo hi mx =>
    cases mx with
    | some m => cases e
    | none =>
      obtain ⟨v, e1, rfl⟩ := val_some e
      obtain ⟨v', h1, h2⟩ := slice_ok hE (w := w) r (hρ x (by simp)) (opt_rel fun y hy => hρ y (by simp at hy ⊢; exact .inr (.inl hy)))
        (opt_rel fun y hy => hρ y (by simp at hy ⊢; exact .inr (.inr hy))) e1
      simp only [execOp, run_v, Option.map_none]
      exact .of_pure r h1 h2
  case fieldAddr t x f =>
    obtain ⟨v, e1, rfl⟩ := val_some e
    obtain ⟨v', h1, h2⟩ := fieldAddr_ok hE (w := w) (hρ x (by simp)) e1
    simp only [execOp, run_v]
    exact .of_pure r h1 h2
  case field t x f =>
    obtain ⟨v, e1, rfl⟩ := val_some e
    obtain ⟨v', h1, h2⟩ := field_ok hE (w := w) (hρ x (by simp)) e1
    simp only [execOp, run_v]
    exact .of_pure r h1 h2
  case indexAddr t x i =>
    obtain ⟨v, e1, rfl⟩ := val_some e
    obtain ⟨v', h1, h2⟩ := indexAddr_ok hE (w := w) (hρ x (by simp)) (hρ i (by simp)) e1
    simp only [execOp, run_v]
    exact .of_pure r h1 h2
  case index t x i =>
    obtain ⟨v, e1, rfl⟩ := val_some e
    obtain ⟨v', h1, h2⟩ := index_ok hE (w := w) (hρ x (by simp)) (hρ i (by simp)) e1
    simp only [execOp, run_v]
    exact .of_pure r h1 h2
  case extract x i =>
    have hx := hρ x (by simp)
    split at e
    · rename_i vs hvs
      obtain ⟨v, e1, rfl⟩ := val_some e
      rw [hvs] at hx
      simp only [execOp, run_v]
      generalize ρ' x = y at *
      cases hx with
      | scalar hs => simp [scalar] at hs
      | tuple a b =>
        rename_i l l'
        obtain ⟨v', g1, g2⟩ := LR.get ⟨a, b⟩ (by simpa using e1)
        refine .of_pure r ?_ g2
        have : l'.toArray[i]? = some v' := by simpa using g1
        simp only [Instr.extract, this, Sem.run_pure]
    · cases e
  case call c =>
    simp only [execOp]
    exact call_ok hE r hρ e
  all_goals cases e
end
end Go.AM
