/- The small machine AM: what each operation gives on values that are written out: rules for simp. -/
import Derived.Test.YtanibbphkeaeeaaAmEnv
namespace Go.AM
section
variable {E : Env} {t : Nat} {x y : Operand} {k : IntKind} {a b : Int} {h : Heap}

theorem bin_of {op : BinOp} {u v r : Value} (hp : (plain u && plain v) = true) (hq : peel E.P (do eqGuard op t x y u v; Go.binOp op t u v) = some r) (hr : plain r = true) :
    binOpV E op t x y u v = some r := by
  unfold binOpV
  rw [hp]
  simp only [cond_true, hq, hr]

theorem bin_add : binOpV E .add t x y (.int k a) (.int k b) = some (.int k (k.wrap (a + b))) := bin_of rfl (by cases k <;> rfl) rfl
theorem bin_sub : binOpV E .sub t x y (.int k a) (.int k b) = some (.int k (k.wrap (a - b))) := bin_of rfl (by cases k <;> rfl) rfl
theorem bin_mul : binOpV E .mul t x y (.int k a) (.int k b) = some (.int k (k.wrap (a * b))) := bin_of rfl (by cases k <;> rfl) rfl
theorem bin_quo (hb : b ≠ 0) : binOpV E .quo t x y (.int k a) (.int k b) = some (.int k (k.wrap (a.tdiv b))) := by
  refine bin_of rfl ?_ rfl
  have : Go.binOp .quo t (.int k a) (.int k b) = .pure (.int k (k.wrap (a.tdiv b))) := by
    simp only [Go.binOp, ne_eq, not_true_eq_false, if_false, Op.intDiv, if_neg hb]; rfl
  show peel E.P (do Go.binOp .quo t (.int k a) (.int k b)) = _
  rw [this]; rfl
theorem bin_rem (hb : b ≠ 0) : binOpV E .rem t x y (.int k a) (.int k b) = some (.int k (a.tmod b)) := by
  refine bin_of rfl ?_ rfl
  have : Go.binOp .rem t (.int k a) (.int k b) = .pure (.int k (a.tmod b)) := by
    simp only [Go.binOp, ne_eq, not_true_eq_false, if_false, Op.intDiv, if_neg hb]; rfl
  show peel E.P (do Go.binOp .rem t (.int k a) (.int k b)) = _
  rw [this]; rfl
theorem bin_lss : binOpV E .lss t x y (.int k a) (.int k b) = some (.bool (decide (a < b))) := bin_of rfl (by cases k <;> rfl) rfl
theorem bin_leq : binOpV E .leq t x y (.int k a) (.int k b) = some (.bool (decide (a ≤ b))) := bin_of rfl (by cases k <;> rfl) rfl
theorem bin_gtr : binOpV E .gtr t x y (.int k a) (.int k b) = some (.bool (decide (a > b))) := bin_of rfl (by cases k <;> rfl) rfl
theorem bin_geq : binOpV E .geq t x y (.int k a) (.int k b) = some (.bool (decide (a ≥ b))) := bin_of rfl (by cases k <;> rfl) rfl
theorem bin_eql : binOpV E .eql t x y (.int k a) (.int k b) = some (.bool (a == b)) := bin_of rfl (by cases k <;> rfl) rfl
theorem bin_neq : binOpV E .neq t x y (.int k a) (.int k b) = some (.bool (a != b)) := bin_of rfl (by cases k <;> rfl) rfl
theorem bin_shl {k' : IntKind} (hb : 0 ≤ b) : binOpV E .shl t x y (.int k a) (.int k' b) = some (.int k (k.wrap (a * 2 ^ (min b.toNat k.bits)))) := by
  refine bin_of rfl ?_ rfl
  have : Go.binOp .shl t (.int k a) (.int k' b) = .pure (.int k (k.wrap (a * 2 ^ (min b.toNat k.bits)))) := by
    have hb' : ¬ (b < 0) := by omega
    simp only [Go.binOp, Op.shift, if_neg hb']; rfl
  show peel E.P (do Go.binOp .shl t (.int k a) (.int k' b)) = _
  rw [this]; rfl
theorem bin_shr {k' : IntKind} (hb : 0 ≤ b) : binOpV E .shr t x y (.int k a) (.int k' b) = some (.int k (a.fdiv (2 ^ (min b.toNat k.bits)))) := by
  refine bin_of rfl ?_ rfl
  have : Go.binOp .shr t (.int k a) (.int k' b) = .pure (.int k (a.fdiv (2 ^ (min b.toNat k.bits)))) := by
    have hb' : ¬ (b < 0) := by omega
    simp only [Go.binOp, Op.shift, if_neg hb']; rfl
  show peel E.P (do Go.binOp .shr t (.int k a) (.int k' b)) = _
  rw [this]; rfl

theorem un_not {c : Bool} : valP h (peel E.P (Op.unary .not (.bool c))) = some (.bool (!c), h) := rfl
theorem un_neg : valP h (peel E.P (Op.unary .neg (.int k a))) = some (.int k (k.wrap (0 - a)), h) := by cases k <;> rfl

theorem peel_bind {α β : Type} (P : Program) : ∀ (s : Sem α) (f : α → Sem β), peel P (Sem.bind s f) = (peel P s).bind fun a => peel P (f a) := by
  intro s f
  induction s with
  | pure a => rfl
  | program k ih => exact ih P
  | mark m k ih => exact ih
  | _ => rfl

theorem peel_und (hE : E.OK) {s : Nat} {d : TypeDesc} (hs : E.und s = some d) : peel E.P (underlying s) = some d := by
  unfold underlying
  show peel E.P (Sem.bind (Sem.program Sem.pure) _) = _
  rw [peel_bind]
  simp only [peel, Option.bind_some]
  rw [show E.P.underlying s = some d from hE.und s d hs]
  rfl

theorem conv_int (hE : E.OK) {s d : Nat} {k' : IntKind} (hs : E.und s = some (.int k)) (hd : E.und d = some (.int k')) : convert E h s d (.int k a) = some (.int k' (k'.wrap a), h) := by
  have hp : peel E.P (Go.convert s d (.int k a)) = some (.int k' (k'.wrap a)) := by
    unfold Go.convert
    show peel E.P (Sem.bind (underlying s) _) = _
    rw [peel_bind, peel_und hE hs, Option.bind_some]
    show peel E.P (Sem.bind (underlying d) _) = _
    rw [peel_bind, peel_und hE hd, Option.bind_some]
    rfl
  unfold convert
  rw [hs, hd, hp]
  rfl
end
end Go.AM
