/- The small machine AM: the tables of a program. -/
import Derived.Test.YtanibbphkeaeeaaAmRow
import Derived.KernelRfl
namespace Go.AM

def undIn (t : T TypeInfo) (k : Nat) : Option TypeDesc := match t.get k with
  | some i => match i.desc with
    | .named _ u => match t.get u with | some j => some j.desc | none => none
    | d => some d
  | none => none

def mkEnv (P : Program) : Env := { P := P, gl := 0, info := (T.ofList P.types.toList).get, und := undIn (T.ofList P.types.toList), fn := (T.ofList P.funcs.toList).get }

theorem info_in {P : Program} {t : Nat} {i : TypeInfo} (h : (T.ofList P.types.toList).get t = some i) : P.info? t = some i := by
  rw [T.get_ofList] at h
  have h1 : P.types[t]? = some i := by simpa using h
  have h2 : t < P.types.size := (Array.getElem?_eq_some_iff.1 h1).1
  unfold Tables.info?
  rw [if_pos h2]; exact h1

theorem mkEnv_ok {P : Program} (hm : P.follows .mixedOrders = true) : (mkEnv P).OK where
  info := fun t i h => info_in h
  und := fun t d h => by
    have h : undIn (T.ofList P.types.toList) t = some d := h
    unfold undIn at h
    split at h
    · rename_i i hi
      have hi := info_in hi
      show P.underlying t = some d
      unfold Program.underlying
      rw [hi]
      split at h
      · rename_i n u hd
        obtain ⟨desc, x2, x3, x4, x5, x6, x7, x8, x9, x10⟩ := i
        simp only at hd
        subst hd
        split at h
        · rename_i j hj
          simp only [info_in hj, Option.map_some]; exact h
        · cases h
      · rename_i hd
        cases h
        obtain ⟨desc, x2, x3, x4, x5, x6, x7, x8, x9, x10⟩ := i
        simp only at hd ⊢
        split
        · rename_i heq
          simp only [Option.some.injEq, TypeInfo.mk.injEq] at heq
          exact absurd heq.1 (hd _ _)
        · rename_i heq; simp only [Option.some.injEq] at heq; rw [← heq]
        · rename_i heq; cases heq
    · cases h
  fn := fun f g h => by
    have h : (T.ofList P.funcs.toList).get f = some g := h
    rw [T.get_ofList] at h
    show P.funcs[f]? = some g
    simpa using h
  mixed := hm
end Go.AM
