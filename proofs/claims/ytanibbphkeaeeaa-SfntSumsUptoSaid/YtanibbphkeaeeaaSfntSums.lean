/- For every a and b of bulk at most 1048576 the law SfntSums answers true and leaves a and b as they were. Condition: the arguments' bulk (the form's own). -/
import Derived.Test.YtanibbphkeaeeaaRows
import Derived.WalkKit
import Derived.ProofKit
import Derived.OpenShut
import Derived.ShutString
import Derived.ChangeOld
import Derived.Below
import Derived.JoinedCond
import Derived.Test.YtanibbphkeaeeaaBulk
import Derived.Test.YtanibbphkeaeeaaAmSfnt
import Derived.Test.YtanibbphkeaeeaaAmArgs
namespace Go.Proofs.Ytanibbphkeaeeaa.sfntSums
open Go.ChangeShapes Go.WideShapes Go.ChangeAt Go.RowKit Go.AM

theorem own : ownKnob Try.prog.godebug = none := by kernel_rfl
theorem laidOut : laidOutB Try.prog = true := by kernel_rfl

theorem bytes_of {zs : List Int} (h : ∀ n ∈ zs, (Lit.int .u8 n).wf = true) : Bytes zs := fun n hn => by
  have := h n hn
  simp [Lit.wf, IntKind.min, IntKind.max, IntKind.signed, IntKind.bits] at this
  omega

theorem ints_wf {kd : IntKind} {w : World} {a : Option Addr} {len cap : Nat} {zs : List Int} (h : IsInts kd w a len cap zs) : zs.length = len ∧ ∀ n ∈ zs, (Lit.int kd n).wf = true := by
  rcases h with ⟨_, rfl, _, rfl⟩ | ⟨_, _, _, _, h1, _, h2⟩
  · exact ⟨rfl, fun n hn => by cases hn⟩
  · exact ⟨h1, h2⟩

/-- THE WALK -/
theorem walk (a0 : Option Addr) (len0 cap0 : Nat) (z0 : List Int) (a1 : Option Addr) (len1 cap1 : Nat) (z1 : List Int) (w : World) (w0 : IsInts .u8 w a0 len0 cap0 z0) (w1 : IsInts .u8 w a1 len1 cap1 z1)
    (hb : len0 + len1 ≤ 1048576) :
    Calls Try.prog 5 #[.slice a0 len0 cap0, .slice a1 len1 cap1] w fun e w' => e = .returned (.bool true) ∧ Below w.heap.size w w' := by
  obtain ⟨X, r, hx⟩ := isInts_arg w0 0
  obtain ⟨Y, s, hy⟩ := isInts_arg w1 1
  obtain ⟨rfl, f0⟩ := ints_wf w0
  obtain ⟨rfl, f1⟩ := ints_wf w1
  refine law_ok (E := E0) E0_ok gl0 (l := [r, s]) (args := [.slice X z0.length z0.length, .slice Y z1.length z1.length]) ?_ ?_ ?_
  · intro k q hk
    match k, hk with
    | 0, hk => cases hk; exact hx.cells
    | 1, hk => cases hk; exact hy.cells
  · exact .cons (hx.rel _ rfl) (.cons (hy.rel _ rfl) .nil)
  · refine law5 r s X Y z0 z1 ?_ ?_ (bytes_of f0) (bytes_of f1) (by omega)
    · rcases hx.hrow with ⟨h1, h2⟩ | h
      · exact .inl ⟨h1, by simpa using h2⟩
      · exact .inr h
    · rcases hy.hrow with ⟨h1, h2⟩ | h
      · exact .inl ⟨h1, by simpa using h2⟩
      · exact .inr h

set_option maxRecDepth 100000 in
/-- a row of bytes that the form hands over -/
theorem ints_in {H : Type} {enc : TypeId × Value → H} {W : World} {fuel base : Nat} {a : Option Addr} {len cap : Nat} {x : DataW H × List MemPlace}
    (hv : Value.okWide Try.prog W .any base 36 (.slice a len cap)) (h : DataW.trod enc Try.prog W 0 (fun _ => true) true fuel 36 (Value.slice a len cap).cells.toList = some x) :
    ∃ zs, IsInts .u8 W a len cap zs ∧ len ≤ Rows.uptoBulk x.1 := by
  rcases open_ints Try.underlying36 Try.underlying5 (by kernel_rfl) h with ⟨hcs, rfl⟩ | ⟨y, l, c, zs, hcs, _, hl, _, hz, rfl, hcell, hwz⟩
  · simp [Value.cells] at hcs
    obtain ⟨rfl, rfl, rfl⟩ := hcs
    exact ⟨[], .inl ⟨rfl, rfl, rfl, rfl⟩, Nat.zero_le _⟩
  · simp [Value.cells] at hcs
    obtain ⟨rfl, rfl, rfl⟩ := hcs
    have hz : zs.length = cap := by simpa using hz
    have hs : y.spot = none := okWide_spot (P := Try.prog) (t := 36) (e := 5) Try.underlying36 hv
    refine ⟨zs.take len, .inr ⟨y, rfl, hs, hl, by rw [List.length_take]; omega, fun i hi => ?_, fun n hn => hwz n (List.mem_of_mem_take hn)⟩, ?_⟩
    · rw [List.length_take] at hi
      rw [hcell i (by omega)]
      have : (zs.take len).getD i 0 = zs.getD i 0 := by simp [show i < len by omega]
      rw [this]
    · have h1 := bulks.slice_le (H := H) (lits .u8 (zs.take len)) (lits .u8 (zs.drop len))
      have h2 : (lits (H := H) .u8 (zs.take len)).length = len := by simp [lits]; omega
      show len ≤ Rows.uptoBulk (DataW.slice (lits .u8 (zs.take len)) (lits .u8 (zs.drop len)))
      omega

theorem contract (H : Type) (enc : TypeId × Value → H) (W : World) (base : Nat) (args : Array Value) (ds gs : List (DataW H)) (before : List MemPlace)
    (hval0 : ∀ (j : Nat) t v, Try.f5.params[j]? = some t → args[j]? = some v → Value.okWide Try.prog W .any base t v)
    (hW : DataW.Whole enc Try.prog Try.f5.params.toList Rows.sfntSumsSpec.vars false W args.toList ds gs before) (hk : Rows.uptoSmall H (ds ++ gs) = true) :
    Calls Try.prog 5 args W fun e W' => ∃ v, e = .returned v ∧ Rows.sfntSumsSpec.post enc Try.prog Try.f5 false true false false W args v W' := by
  have hval : ∀ (j : Nat) t v, Try.f5.params[j]? = some t → args[j]? = some v → Value.okWide Try.prog W .any base t v := hval0
  have hW' := hW
  obtain ⟨p, q, hA0, hV, rfl, hfz, hnd⟩ := hW
  have hA : DataW.TrodAll enc Try.prog W 0 (fun _ => true) true Try.f5.params.toList args.toList ds p := hA0
  rw [Try.params5] at hA hval
  obtain ⟨v0, vs0, d0, ds0, p0, q0, hargs, rfl, rfl, h0, r0⟩ := trodAll_cons hA
  obtain ⟨v1, vs1, d1, ds1, p1, q1, rfl, rfl, rfl, h1, r1⟩ := trodAll_cons r0
  obtain ⟨rfl, rfl, rfl⟩ := trodAll_nil r1
  obtain rfl : args = #[v0, v1] := by cases args; simp_all
  obtain ⟨rfl, rfl⟩ := trodVars_none hV
  obtain ⟨a0, len0, cap0, rfl⟩ := okWide_slice Try.underlying36 (hval 0 36 v0 rfl rfl)
  have k0 := h0
  have lt0 : ∀ x ∈ p0, x.block < W.heap.size := by obtain ⟨m, hm⟩ := k0; exact DataW.trod_lt m _ _ _ hm
  obtain ⟨z0, w0, b0⟩ := ints_in (hval 0 36 _ rfl rfl) h0.choose_spec
  obtain ⟨a1, len1, cap1, rfl⟩ := okWide_slice Try.underlying36 (hval 1 36 v1 rfl rfl)
  have k1 := h1
  have lt1 : ∀ x ∈ p1, x.block < W.heap.size := by obtain ⟨m, hm⟩ := k1; exact DataW.trod_lt m _ _ _ hm
  obtain ⟨z1, w1, b1⟩ := ints_in (hval 1 36 _ rfl rfl) h1.choose_spec
  clear hA0 hval0
  have hb : Rows.uptoBulkAll ([d0, d1] ++ []) ≤ 1048576 := of_decide_eq_true hk
  simp only [List.append_nil, Rows.uptoBulkAll] at hb
  refine (walk a0 len0 cap0 z0 a1 len1 cap1 z1 W w0 w1 (by simp only at b0 b1; omega)).mono fun e W' ⟨he, bel⟩ => ?_
  subst he
  exact ⟨_, rfl, _, _, _, [], _, [], hW', trodAll_mk1 (shut_bool Try.underlying4 _), (trodAll_cons_mk (Below.trod laidOut (by kernel_rfl) (of_decide_eq_true (by kernel_rfl)) k0 bel lt0) (trodAll_cons_mk (Below.trod laidOut (by kernel_rfl) (of_decide_eq_true (by kernel_rfl)) k1 bel lt1) trodAll_mk0)), rfl, bel.frame _, fun h => by cases h⟩

set_option maxRecDepth 100000 in
theorem lifted (os : Os) (started : os.Started) (H : Type) (enc : TypeId × Value → H) (F : Stop.Interp) :
    ReturnsInHanded {} Try.checked os 5 .any ((Rows.OpenSpec.upto Rows.sfntSumsSpec).pre6 enc Try.prog Try.f5 Rows.sfntSumsUptoRow.domain false) (((Rows.OpenSpec.upto Rows.sfntSumsSpec).at F).post enc Try.prog Try.f5 false true false false) := by
  refine returnsInHanded_of_cond (C := Try.checked) (s := Rows.OpenSpec.upto Rows.sfntSumsSpec) (k := Rows.uptoSmall) rfl own started (by kernel_rfl) Try.func5
    (OpenSpec.witness (enc := enc) (C := Try.checked) (s := Rows.OpenSpec.upto Rows.sfntSumsSpec) (k := Rows.uptoSmall) rfl false ⟨#[], #[.slice none 0 0, .slice none 0 0], []⟩ 8 (by kernel_rfl) (by kernel_rfl) (by kernel_rfl)
      (x := ([.nil, .nil], [], [])) (by kernel_rfl) rfl (by kernel_rfl)) ?_
  intro W base args ds gs before hval hW _ hk _
  exact contract H enc W base args ds gs before hval hW hk

/-- THE STATEMENT -/
theorem proved : Rows.SfntSumsUptoSaid :=
  OpenClaim.holds_of_cond 5 Try.f5 rfl rfl rfl rfl rfl rfl rfl ⟨rfl, rfl, rfl, rfl, rfl⟩ rfl rfl rfl rfl rfl (by kernel_rfl) Try.func5 (by kernel_rfl)
    (of_decide_eq_true (by kernel_rfl)) (by unfold Func.isWrapper; first | (rw [if_pos (by decide +kernel)]; kernel_rfl) | (rw [if_neg (by decide +kernel)]; exact ⟨rfl, rfl⟩))
    (fun os started H enc _ F => lifted os started H enc F)
#print axioms proved
end Go.Proofs.Ytanibbphkeaeeaa.sfntSums
