/- Contracts: sfnt.Sum, serifref03.Sum. -/
import Derived.Test.YtanibbphkeaeeaaAmSeat
import Derived.Test.YtanibbphkeaeeaaAmMem
import Derived.Laws.BitsLemmas
namespace Go.AM
open Go.Proofs
set_option maxRecDepth 100000
set_option linter.unusedSimpArgs false
set_option linter.unusedVariables false
theorem fn11 : E0.fn 11 = some Try.f11 := by kernel_rfl
theorem fn12 : E0.fn 12 = some Try.f12 := by kernel_rfl
theorem und36 : E0.und 36 = some (.slice 5) := by kernel_rfl
theorem und5 : E0.und 5 = some (.int .u8) := by kernel_rfl
theorem und58 : E0.und 58 = some (.int .u32) := by kernel_rfl
theorem und3 : E0.und 3 = some (.int .i64) := by kernel_rfl
theorem sz5 : (E0.info 5).map (·.size) = some 1 := by kernel_rfl
theorem gl0 : E0.gl = 0 := rfl

/-- the sum of the first bytes -/
def sumTo (l : List Int) : Nat → Int
  | 0 => 0
  | n + 1 => (sumTo l n + (l.getD n 0) * 2 ^ (24 - 8 * (n % 4))) % 4294967296

theorem sumTo_lt (l : List Int) : ∀ n, 0 ≤ sumTo l n ∧ sumTo l n < 4294967296
  | 0 => by simp only [sumTo]; omega
  | n + 1 => by simp only [sumTo]; omega

structure I11 (h : Heap) (a : Option Addr) (cap : Nat) (l : List Int) (n : Nat) (st : St) : Prop where
  hn : st.n = 25
  hh : st.h = h
  hi : n ≤ l.length
  t3 : st.ts.get 3 = some (.int .u32 (sumTo l n))
  t6 : st.ts.get 6 = some (.slice a l.length cap)
  t7 : st.ts.get 7 = some (.int .i64 (l.length : Int))
  t8 : st.ts.get 8 = some (.int .i64 (n : Int))

def byteL (l : List Int) : List Value := l.map (Value.int .u8)
def Bytes (l : List Int) : Prop := ∀ n ∈ l, 0 ≤ n ∧ n < 256

theorem sum11 (h : Heap) (a : Option Addr) (cap : Nat) (l : List Int) (hc : Src h a (byteL l)) (hb : Bytes l) (hl : l.length < 2 ^ 40) :
    WCall E0 11 [.slice a l.length cap] h fun v h' => v = .int .i64 (sumTo l l.length) ∧ h' = h := by
  refine WCall.of fn11 rfl (Nat.le_of_ble_eq_true rfl) ?_
  refine W.seqK fun K hK => W.region ?_
  simp only [WS, wantedA, op, St.eval, PutK, Then, InB, scalar, T.get_set, T.get_ofList, call, argsOf, val, valH, pairsOf, List.getElem?_cons_zero, List.getElem?_cons_succ, List.getElem?_nil, if_true, if_false, reduceIte, Nat.reduceEqDiff, Nat.reduceLT, Nat.reduceAdd, reduceCtorEq, true_and, and_true, cond_true, cond_false, Nat.lt_irrefl, Option.map_some, Option.map_none, List.toList_toArray, Option.some.injEq, Option.toList, List.nil_append, List.append_nil, List.cons_append, plain_bool, plain_int, Try.f11]
  refine hK _ ?_
  clear hK K
  refine W.seqK fun K hK => W.region ?_
  simp only [WS, wantedA, op, St.eval, PutK, Then, InB, scalar, T.get_set, T.get_ofList, call, argsOf, val, valH, pairsOf, List.getElem?_cons_zero, List.getElem?_cons_succ, List.getElem?_nil, if_true, if_false, reduceIte, Nat.reduceEqDiff, Nat.reduceLT, Nat.reduceAdd, reduceCtorEq, true_and, and_true, cond_true, cond_false, Nat.lt_irrefl, Option.map_some, Option.map_none, List.toList_toArray, Option.some.injEq, Option.toList, List.nil_append, List.append_nil, List.cons_append, plain_bool, plain_int, Try.f11]
  refine hK _ ?_
  clear hK K
  refine W.seqK fun K hK => ?_
  refine W.seqK fun K2 hK2 => W.region ?_
  simp only [WS, wantedA, op, St.eval, PutK, Then, InB, scalar, T.get_set, T.get_ofList, call, argsOf, val, valH, pairsOf, List.getElem?_cons_zero, List.getElem?_cons_succ, List.getElem?_nil, if_true, if_false, reduceIte, Nat.reduceEqDiff, Nat.reduceLT, Nat.reduceAdd, reduceCtorEq, true_and, and_true, cond_true, cond_false, Nat.lt_irrefl, Option.map_some, Option.map_none, List.toList_toArray, Option.some.injEq, Option.toList, List.nil_append, List.append_nil, List.cons_append, plain_bool, plain_int, Try.f11, lenV_slice und36]
  refine hK2 _ ?_
  clear hK2 K2
  refine W.block ?_
  refine W.loop (fun k st => ∃ n, k = l.length - n ∧ I11 h a cap l n st) ?_ (l.length - 0) _ ⟨0, rfl, ?_⟩
  · rintro k ⟨sn, ts, sh⟩ ⟨n, rfl, hn, hh, hi, t3, t6, t7, t8⟩
    simp only at hn hh t3 t6 t7 t8
    subst hn hh
    refine W.seqK fun K2 hK2 => W.region ?_
    simp only [WS, wantedA, op, St.eval, PutK, Then, InB, scalar, T.get_set, T.get_ofList, call, argsOf, val, valH, pairsOf, List.getElem?_cons_zero, List.getElem?_cons_succ, List.getElem?_nil, if_true, if_false, reduceIte, Nat.reduceEqDiff, Nat.reduceLT, Nat.reduceAdd, reduceCtorEq, true_and, and_true, cond_true, cond_false, Nat.lt_irrefl, Option.map_some, Option.map_none, List.toList_toArray, Option.some.injEq, Option.toList, List.nil_append, List.append_nil, List.cons_append, plain_bool, plain_int, t7, t8, bin_lss]
    refine hK2 _ ?_
    clear hK2 K2
    refine W.seqK fun K2 hK2 => ?_
    refine W.condK fun A B hA hB => ?_
    simp only [WS, wantedA, op, St.eval, PutK, Then, InB, scalar, T.get_set, T.get_ofList, call, argsOf, val, valH, pairsOf, List.getElem?_cons_zero, List.getElem?_cons_succ, List.getElem?_nil, if_true, if_false, reduceIte, Nat.reduceEqDiff, Nat.reduceLT, Nat.reduceAdd, reduceCtorEq, true_and, and_true, cond_true, cond_false, Nat.lt_irrefl, Option.map_some, Option.map_none, List.toList_toArray, Option.some.injEq, Option.toList, List.nil_append, List.append_nil, List.cons_append, plain_bool, plain_int]
    by_cases c : n < l.length
    · rw [if_pos (by simpa using c)]
      refine hA (W.skip ?_)
      clear hA hB A B
      simp only [WS, wantedA, op, St.eval, PutK, Then, InB, scalar, T.get_set, T.get_ofList, call, argsOf, val, valH, pairsOf, List.getElem?_cons_zero, List.getElem?_cons_succ, List.getElem?_nil, if_true, if_false, reduceIte, Nat.reduceEqDiff, Nat.reduceLT, Nat.reduceAdd, reduceCtorEq, true_and, and_true, cond_true, cond_false, Nat.lt_irrefl, Option.map_some, Option.map_none, List.toList_toArray, Option.some.injEq, Option.toList, List.nil_append, List.append_nil, List.cons_append, plain_bool, plain_int]
      refine hK2 _ ?_
      clear hK2 K2
      have hv := hb l[n] (List.getElem_mem c)
      obtain ⟨b, o, rfl, kc⟩ := hc.row (by simp [byteL]; omega)
      have e1 : indexAddr E0 36 (.slice (some ⟨b, o, none⟩) l.length cap) (.int .i64 (n : Int)) = some (ptr b (o + n)) := by
        have := indexAddr_slice (b := b) (o := o) (cap := cap) (k := .i64) und36 sz5 (Int.natCast_nonneg n) (show (n : Int) < (l.length : Nat) by omega)
        simpa using this
      have e2 : load E0 sh 5 (ptr b (o + n)) = some (.int .u8 l[n]) := load_cell und5 sz5 rfl (kc n _ (by simp [byteL, c]))
      have e3 : convert E0 sh 5 58 (.int .u8 l[n]) = some (.int .u32 l[n], sh) := by
        rw [conv_int E0_ok und5 und58, IntKind.wrap_u32, Int.emod_eq_of_lt hv.1 (by omega)]
      have e4 : (n : Int).tmod 4 = ((n % 4 : Nat) : Int) := by rw [Int.tmod_eq_emod_of_nonneg (Int.natCast_nonneg n)]; omega
      have e5 : IntKind.i64.wrap (8 * ((n % 4 : Nat) : Int)) = 8 * ((n % 4 : Nat) : Int) := by rw [IntKind.wrap_i64]; omega
      have e6 : IntKind.i64.wrap (24 - 8 * ((n % 4 : Nat) : Int)) = ((24 - 8 * (n % 4) : Nat) : Int) := by rw [IntKind.wrap_i64]; omega
      have e7 : Nat.min (24 - 8 * (n % 4)) 32 = 24 - 8 * (n % 4) := Nat.min_eq_left (by omega)
      refine W.seqK fun K2 hK2 => W.block ?_
      refine W.seqK fun K3 hK3 => W.region ?_
      simp only [WS, wantedA, op, St.eval, PutK, Then, InB, scalar, T.get_set, T.get_ofList, call, argsOf, val, valH, pairsOf, List.getElem?_cons_zero, List.getElem?_cons_succ, List.getElem?_nil, if_true, if_false, reduceIte, Nat.reduceEqDiff, Nat.reduceLT, Nat.reduceAdd, reduceCtorEq, true_and, and_true, cond_true, cond_false, Nat.lt_irrefl, Option.map_some, Option.map_none, List.toList_toArray, Option.some.injEq, Option.toList, List.nil_append, List.append_nil, List.cons_append, plain_bool, plain_int, t6, t8, e1, e2]
      refine hK3 _ ?_
      clear hK3 K3
      refine W.region ?_
      simp only [WS, wantedA, op, St.eval, PutK, Then, InB, scalar, T.get_set, T.get_ofList, call, argsOf, val, valH, pairsOf, List.getElem?_cons_zero, List.getElem?_cons_succ, List.getElem?_nil, if_true, if_false, reduceIte, Nat.reduceEqDiff, Nat.reduceLT, Nat.reduceAdd, reduceCtorEq, true_and, and_true, cond_true, cond_false, Nat.lt_irrefl, Option.map_some, Option.map_none, List.toList_toArray, Option.some.injEq, Option.toList, List.nil_append, List.append_nil, List.cons_append, plain_bool, plain_int, t3, e3, bin_rem (show (4 : Int) ≠ 0 by decide), e4, bin_mul, e5, bin_sub, e6, bin_shl (Int.natCast_nonneg _), Int.toNat_natCast, e7, bin_add, IntKind.bits]
      refine hK2 _ ?_
      clear hK2 K2
      refine W.region ?_
      have e8 : IntKind.i64.wrap ((n : Int) + 1) = ((n + 1 : Nat) : Int) := by rw [IntKind.wrap_i64]; omega
      simp only [WS, wantedA, op, St.eval, PutK, Then, InB, scalar, T.get_set, T.get_ofList, call, argsOf, val, valH, pairsOf, List.getElem?_cons_zero, List.getElem?_cons_succ, List.getElem?_nil, if_true, if_false, reduceIte, Nat.reduceEqDiff, Nat.reduceLT, Nat.reduceAdd, reduceCtorEq, true_and, and_true, cond_true, cond_false, Nat.lt_irrefl, Option.map_some, Option.map_none, List.toList_toArray, Option.some.injEq, Option.toList, List.nil_append, List.append_nil, List.cons_append, plain_bool, plain_int, t8, bin_add, e8]
      refine ⟨_, ?_, n + 1, rfl, rfl, rfl, c, ?_, ?_, ?_, ?_⟩
      · omega
      · simp only [T.get_set, Nat.reduceEqDiff, if_false, if_true, sumTo, IntKind.wrap_u32]
        rw [Int.add_emod_emod]
        simp [c]
      · simp only [T.get_set, Nat.reduceEqDiff, if_false, t6]
      · simp only [T.get_set, Nat.reduceEqDiff, if_false, t7]
      · simp only [T.get_set, if_true]
    · rw [if_neg (by simpa using c)]
      have hn : n = l.length := by omega
      subst hn
      refine hB (W.exit ?_)
      clear hA hB A B
      simp only [WS, wantedA, op, St.eval, PutK, Then, InB, scalar, T.get_set, T.get_ofList, call, argsOf, val, valH, pairsOf, List.getElem?_cons_zero, List.getElem?_cons_succ, List.getElem?_nil, if_true, if_false, reduceIte, Nat.reduceEqDiff, Nat.reduceLT, Nat.reduceAdd, reduceCtorEq, true_and, and_true, cond_true, cond_false, Nat.lt_irrefl, Option.map_some, Option.map_none, List.toList_toArray, Option.some.injEq, Option.toList, List.nil_append, List.append_nil, List.cons_append, plain_bool, plain_int]
      clear hK2 K2
      refine hK _ ?_
      clear hK K
      have hs := sumTo_lt l l.length
      have e3 : convert E0 sh 58 3 (.int .u32 (sumTo l l.length)) = some (.int .i64 (sumTo l l.length), sh) := by
        rw [conv_int E0_ok und58 und3, IntKind.wrap_i64]; congr; omega
      refine W.seqK fun K hK => W.region ?_
      simp only [WS, wantedA, op, St.eval, PutK, Then, InB, scalar, T.get_set, T.get_ofList, call, argsOf, val, valH, pairsOf, List.getElem?_cons_zero, List.getElem?_cons_succ, List.getElem?_nil, if_true, if_false, reduceIte, Nat.reduceEqDiff, Nat.reduceLT, Nat.reduceAdd, reduceCtorEq, true_and, and_true, cond_true, cond_false, Nat.lt_irrefl, Option.map_some, Option.map_none, List.toList_toArray, Option.some.injEq, Option.toList, List.nil_append, List.append_nil, List.cons_append, plain_bool, plain_int, t3, e3]
      refine hK _ ?_
      clear hK K
      refine W.ret ?_
      simp only [Ends, results, tupled, WS, wantedA, op, St.eval, PutK, Then, InB, scalar, T.get_set, T.get_ofList, call, argsOf, val, valH, pairsOf, List.getElem?_cons_zero, List.getElem?_cons_succ, List.getElem?_nil, if_true, if_false, reduceIte, Nat.reduceEqDiff, Nat.reduceLT, Nat.reduceAdd, reduceCtorEq, true_and, and_true, cond_true, cond_false, Nat.lt_irrefl, Option.map_some, Option.map_none, List.toList_toArray, Option.some.injEq, Option.toList, List.nil_append, List.append_nil, List.cons_append, plain_bool, plain_int, Try.f11]
  · exact ⟨rfl, rfl, Nat.zero_le _, by simp only [T.get_set, T.get_ofList]; rfl, by simp only [T.get_set, T.get_ofList]; rfl, by simp only [T.get_set, T.get_ofList]; rfl, by simp only [T.get_set, T.get_ofList]; rfl⟩
theorem cf11 (args : List Value) : callFn E0 11 args = some (.enter 11 args) := callFn_of fn11 rfl (by kernel_rfl) args
theorem cf12 (args : List Value) : callFn E0 12 args = some (.enter 12 args) := callFn_of fn12 rfl (by kernel_rfl) args

/-- a word's first bytes -/
def wordTo (l : List Int) (i : Nat) : Nat → Int
  | 0 => 0
  | j + 1 => wordTo l i j * 256 + l.getD (i + j) 0
def refTo (l : List Int) : Nat → Int
  | 0 => 0
  | m + 1 => (refTo l m + wordTo l (4 * m) 4) % 4294967296

theorem getD_byte {l : List Int} (hb : Bytes l) (i : Nat) : 0 ≤ l.getD i 0 ∧ l.getD i 0 < 256 := by
  by_cases h : i < l.length
  · have : l.getD i 0 = l[i] := by simp [h]
    rw [this]; exact hb _ (List.getElem_mem h)
  · have : l.getD i 0 = 0 := by simp [h]
    rw [this]; omega

theorem wordTo_lt {l : List Int} (hb : Bytes l) (i : Nat) : ∀ j, 0 ≤ wordTo l i j ∧ wordTo l i j < 256 ^ j
  | 0 => by simp [wordTo]
  | j + 1 => by
    have := wordTo_lt hb i j
    have := getD_byte hb (i + j)
    simp only [wordTo, Int.pow_succ]
    omega

theorem refTo_lt (l : List Int) : ∀ n, 0 ≤ refTo l n ∧ refTo l n < 4294967296
  | 0 => by simp only [refTo]; omega
  | n + 1 => by simp only [refTo]; omega

structure I12 (h : Heap) (a : Option Addr) (cap : Nat) (l : List Int) (m : Nat) (st : St) : Prop where
  hn : st.n = 39
  hh : st.h = h
  hi : 4 * m ≤ l.length + 3
  t0 : st.ts.get 0 = some (.slice a l.length cap)
  t3 : st.ts.get 3 = some (.int .i64 (refTo l m))
  t4 : st.ts.get 4 = some (.int .i64 ((4 * m : Nat) : Int))

structure J12 (h : Heap) (a : Option Addr) (cap : Nat) (l : List Int) (m j : Nat) (st : St) : Prop where
  hn : st.n = 39
  hh : st.h = h
  hi : j ≤ 4
  t0 : st.ts.get 0 = some (.slice a l.length cap)
  t3 : st.ts.get 3 = some (.int .i64 (refTo l m))
  t4 : st.ts.get 4 = some (.int .i64 ((4 * m : Nat) : Int))
  t5 : st.ts.get 5 = some (.int .i64 (wordTo l (4 * m) j))
  t6 : st.ts.get 6 = some (.int .i64 (j : Int))

theorem sum12 (h : Heap) (a : Option Addr) (cap : Nat) (l : List Int) (hc : Src h a (byteL l)) (hb : Bytes l) (hl : l.length < 2 ^ 40) :
    WCall E0 12 [.slice a l.length cap] h fun v h' => v = .int .i64 (refTo l ((l.length + 3) / 4)) ∧ h' = h := by
  refine WCall.of fn12 rfl (Nat.le_of_ble_eq_true rfl) ?_
  refine W.seqK fun K hK => W.region ?_
  simp only [WS, wantedA, op, St.eval, PutK, Then, InB, scalar, T.get_set, T.get_ofList, call, argsOf, val, valH, pairsOf, List.getElem?_cons_zero, List.getElem?_cons_succ, List.getElem?_nil, if_true, if_false, reduceIte, Nat.reduceEqDiff, Nat.reduceLT, Nat.reduceAdd, reduceCtorEq, true_and, and_true, cond_true, cond_false, Nat.lt_irrefl, Option.map_some, Option.map_none, List.toList_toArray, Option.some.injEq, Option.toList, List.nil_append, List.append_nil, List.cons_append, plain_bool, plain_int, Try.f12]
  refine hK _ ?_
  clear hK K
  refine W.seqK fun K hK => W.region ?_
  simp only [WS, wantedA, op, St.eval, PutK, Then, InB, scalar, T.get_set, T.get_ofList, call, argsOf, val, valH, pairsOf, List.getElem?_cons_zero, List.getElem?_cons_succ, List.getElem?_nil, if_true, if_false, reduceIte, Nat.reduceEqDiff, Nat.reduceLT, Nat.reduceAdd, reduceCtorEq, true_and, and_true, cond_true, cond_false, Nat.lt_irrefl, Option.map_some, Option.map_none, List.toList_toArray, Option.some.injEq, Option.toList, List.nil_append, List.append_nil, List.cons_append, plain_bool, plain_int]
  refine hK _ ?_
  clear hK K
  refine W.seqK fun K hK => ?_
  refine W.seqK fun K2 hK2 => W.region ?_
  simp only [WS, wantedA, op, St.eval, PutK, Then, InB, scalar, T.get_set, T.get_ofList, call, argsOf, val, valH, pairsOf, List.getElem?_cons_zero, List.getElem?_cons_succ, List.getElem?_nil, if_true, if_false, reduceIte, Nat.reduceEqDiff, Nat.reduceLT, Nat.reduceAdd, reduceCtorEq, true_and, and_true, cond_true, cond_false, Nat.lt_irrefl, Option.map_some, Option.map_none, List.toList_toArray, Option.some.injEq, Option.toList, List.nil_append, List.append_nil, List.cons_append, plain_bool, plain_int]
  refine hK2 _ ?_
  clear hK2 K2
  refine W.block ?_
  refine W.loop (fun k st => ∃ m, k = l.length + 4 - 4 * m ∧ I12 h a cap l m st) ?_ (l.length + 4 - 4 * 0) _ ⟨0, rfl, ?_⟩
  · rintro k ⟨sn, ts, sh⟩ ⟨m, rfl, hn, hh, hi, t0, t3, t4⟩
    simp only at hn hh t0 t3 t4
    subst hn hh
    refine W.seqK fun K2 hK2 => ?_
    refine W.seqK fun K3 hK3 => W.region ?_
    simp only [WS, wantedA, op, St.eval, PutK, Then, InB, scalar, T.get_set, T.get_ofList, call, argsOf, val, valH, pairsOf, List.getElem?_cons_zero, List.getElem?_cons_succ, List.getElem?_nil, if_true, if_false, reduceIte, Nat.reduceEqDiff, Nat.reduceLT, Nat.reduceAdd, reduceCtorEq, true_and, and_true, cond_true, cond_false, Nat.lt_irrefl, Option.map_some, Option.map_none, List.toList_toArray, Option.some.injEq, Option.toList, List.nil_append, List.append_nil, List.cons_append, plain_bool, plain_int, t0, t4, lenV_slice und36, bin_lss]
    refine hK3 _ ?_
    clear hK3 K3
    refine W.condK fun A B hA hB => ?_
    simp only [WS, wantedA, op, St.eval, PutK, Then, InB, scalar, T.get_set, T.get_ofList, call, argsOf, val, valH, pairsOf, List.getElem?_cons_zero, List.getElem?_cons_succ, List.getElem?_nil, if_true, if_false, reduceIte, Nat.reduceEqDiff, Nat.reduceLT, Nat.reduceAdd, reduceCtorEq, true_and, and_true, cond_true, cond_false, Nat.lt_irrefl, Option.map_some, Option.map_none, List.toList_toArray, Option.some.injEq, Option.toList, List.nil_append, List.append_nil, List.cons_append, plain_bool, plain_int]
    by_cases c : 4 * m < l.length
    · rw [if_pos (by simp only [decide_eq_true_eq]; omega)]
      refine hA (W.skip ?_)
      clear hA hB A B
      simp only [WS, wantedA, op, St.eval, PutK, Then, InB, scalar, T.get_set, T.get_ofList, call, argsOf, val, valH, pairsOf, List.getElem?_cons_zero, List.getElem?_cons_succ, List.getElem?_nil, if_true, if_false, reduceIte, Nat.reduceEqDiff, Nat.reduceLT, Nat.reduceAdd, reduceCtorEq, true_and, and_true, cond_true, cond_false, Nat.lt_irrefl, Option.map_some, Option.map_none, List.toList_toArray, Option.some.injEq, Option.toList, List.nil_append, List.append_nil, List.cons_append, plain_bool, plain_int]
      refine hK2 _ ?_
      clear hK2 K2
      refine W.seqK fun K2 hK2 => W.block ?_
      refine W.seqK fun K3 hK3 => W.region ?_
      simp only [WS, wantedA, op, St.eval, PutK, Then, InB, scalar, T.get_set, T.get_ofList, call, argsOf, val, valH, pairsOf, List.getElem?_cons_zero, List.getElem?_cons_succ, List.getElem?_nil, if_true, if_false, reduceIte, Nat.reduceEqDiff, Nat.reduceLT, Nat.reduceAdd, reduceCtorEq, true_and, and_true, cond_true, cond_false, Nat.lt_irrefl, Option.map_some, Option.map_none, List.toList_toArray, Option.some.injEq, Option.toList, List.nil_append, List.append_nil, List.cons_append, plain_bool, plain_int]
      refine hK3 _ ?_
      clear hK3 K3
      refine W.seqK fun K3 hK3 => ?_
      refine W.seqK fun K4 hK4 => W.region ?_
      simp only [WS, wantedA, op, St.eval, PutK, Then, InB, scalar, T.get_set, T.get_ofList, call, argsOf, val, valH, pairsOf, List.getElem?_cons_zero, List.getElem?_cons_succ, List.getElem?_nil, if_true, if_false, reduceIte, Nat.reduceEqDiff, Nat.reduceLT, Nat.reduceAdd, reduceCtorEq, true_and, and_true, cond_true, cond_false, Nat.lt_irrefl, Option.map_some, Option.map_none, List.toList_toArray, Option.some.injEq, Option.toList, List.nil_append, List.append_nil, List.cons_append, plain_bool, plain_int]
      refine hK4 _ ?_
      clear hK4 K4
      refine W.block ?_
      refine W.loop (fun k st => ∃ j, k = 4 - j ∧ J12 sh a cap l m j st) ?_ (4 - 0) _ ⟨0, rfl, ?_⟩
      · clear t0 t3 t4 ts
        rintro k ⟨sn, ts, sh⟩ ⟨j, rfl, hn, hh, hj, t0, t3, t4, t5, t6⟩
        simp only at hn hh t0 t3 t4 t5 t6
        subst hn hh
        have hw := wordTo_lt hb (4 * m) j
        refine W.seqK fun K4 hK4 => ?_
        refine W.seqK fun K5 hK5 => W.region ?_
        simp only [WS, wantedA, op, St.eval, PutK, Then, InB, scalar, T.get_set, T.get_ofList, call, argsOf, val, valH, pairsOf, List.getElem?_cons_zero, List.getElem?_cons_succ, List.getElem?_nil, if_true, if_false, reduceIte, Nat.reduceEqDiff, Nat.reduceLT, Nat.reduceAdd, reduceCtorEq, true_and, and_true, cond_true, cond_false, Nat.lt_irrefl, Option.map_some, Option.map_none, List.toList_toArray, Option.some.injEq, Option.toList, List.nil_append, List.append_nil, List.cons_append, plain_bool, plain_int, t6, bin_lss]
        refine hK5 _ ?_
        clear hK5 K5
        refine W.condK fun A B hA hB => ?_
        simp only [WS, wantedA, op, St.eval, PutK, Then, InB, scalar, T.get_set, T.get_ofList, call, argsOf, val, valH, pairsOf, List.getElem?_cons_zero, List.getElem?_cons_succ, List.getElem?_nil, if_true, if_false, reduceIte, Nat.reduceEqDiff, Nat.reduceLT, Nat.reduceAdd, reduceCtorEq, true_and, and_true, cond_true, cond_false, Nat.lt_irrefl, Option.map_some, Option.map_none, List.toList_toArray, Option.some.injEq, Option.toList, List.nil_append, List.append_nil, List.cons_append, plain_bool, plain_int]
        by_cases d : j < 4
        · rw [if_pos (by simp only [decide_eq_true_eq]; omega)]
          refine hA (W.skip ?_)
          clear hA hB A B
          simp only [WS, wantedA, op, St.eval, PutK, Then, InB, scalar, T.get_set, T.get_ofList, call, argsOf, val, valH, pairsOf, List.getElem?_cons_zero, List.getElem?_cons_succ, List.getElem?_nil, if_true, if_false, reduceIte, Nat.reduceEqDiff, Nat.reduceLT, Nat.reduceAdd, reduceCtorEq, true_and, and_true, cond_true, cond_false, Nat.lt_irrefl, Option.map_some, Option.map_none, List.toList_toArray, Option.some.injEq, Option.toList, List.nil_append, List.append_nil, List.cons_append, plain_bool, plain_int]
          refine hK4 _ ?_
          clear hK4 K4
          have hp : (256 : Int) ^ j ≤ 256 ^ 3 := by
            have : j = 0 ∨ j = 1 ∨ j = 2 ∨ j = 3 := by omega
            rcases this with rfl | rfl | rfl | rfl <;> decide
          have e1 : IntKind.i64.wrap (wordTo l (4 * m) j * 256) = wordTo l (4 * m) j * 256 := by rw [IntKind.wrap_i64]; omega
          have e2 : IntKind.i64.wrap (((4 * m : Nat) : Int) + (j : Int)) = ((4 * m + j : Nat) : Int) := by rw [IntKind.wrap_i64]; omega
          have e9 : IntKind.i64.wrap ((j : Int) + 1) = ((j + 1 : Nat) : Int) := by rw [IntKind.wrap_i64]; omega
          refine W.seqK fun K4 hK4 => W.block ?_
          refine W.seqK fun K5 hK5 => W.region ?_
          simp only [WS, wantedA, op, St.eval, PutK, Then, InB, scalar, T.get_set, T.get_ofList, call, argsOf, val, valH, pairsOf, List.getElem?_cons_zero, List.getElem?_cons_succ, List.getElem?_nil, if_true, if_false, reduceIte, Nat.reduceEqDiff, Nat.reduceLT, Nat.reduceAdd, reduceCtorEq, true_and, and_true, cond_true, cond_false, Nat.lt_irrefl, Option.map_some, Option.map_none, List.toList_toArray, Option.some.injEq, Option.toList, List.nil_append, List.append_nil, List.cons_append, plain_bool, plain_int, t5, bin_mul, e1]
          refine hK5 _ ?_
          clear hK5 K5
          refine W.seqK fun K5 hK5 => W.region ?_
          simp only [WS, wantedA, op, St.eval, PutK, Then, InB, scalar, T.get_set, T.get_ofList, call, argsOf, val, valH, pairsOf, List.getElem?_cons_zero, List.getElem?_cons_succ, List.getElem?_nil, if_true, if_false, reduceIte, Nat.reduceEqDiff, Nat.reduceLT, Nat.reduceAdd, reduceCtorEq, true_and, and_true, cond_true, cond_false, Nat.lt_irrefl, Option.map_some, Option.map_none, List.toList_toArray, Option.some.injEq, Option.toList, List.nil_append, List.append_nil, List.cons_append, plain_bool, plain_int, t0, t4, t6, bin_add, e2, lenV_slice und36, bin_lss]
          refine hK5 _ ?_
          clear hK5 K5
          refine W.condK fun A B hA hB => ?_
          simp only [WS, wantedA, op, St.eval, PutK, Then, InB, scalar, T.get_set, T.get_ofList, call, argsOf, val, valH, pairsOf, List.getElem?_cons_zero, List.getElem?_cons_succ, List.getElem?_nil, if_true, if_false, reduceIte, Nat.reduceEqDiff, Nat.reduceLT, Nat.reduceAdd, reduceCtorEq, true_and, and_true, cond_true, cond_false, Nat.lt_irrefl, Option.map_some, Option.map_none, List.toList_toArray, Option.some.injEq, Option.toList, List.nil_append, List.append_nil, List.cons_append, plain_bool, plain_int]
          by_cases f : 4 * m + j < l.length
          · rw [if_pos (by simp only [decide_eq_true_eq]; omega)]
            have hv := hb l[4 * m + j] (List.getElem_mem f)
            obtain ⟨b, o, rfl, kc⟩ := hc.row (by simp [byteL]; omega)
            have e3 : indexAddr E0 36 (.slice (some ⟨b, o, none⟩) l.length cap) (.int .i64 ((4 * m + j : Nat) : Int)) = some (ptr b (o + (4 * m + j))) := by
              have := indexAddr_slice (b := b) (o := o) (cap := cap) (k := .i64) und36 sz5 (Int.natCast_nonneg (4 * m + j)) (show ((4 * m + j : Nat) : Int) < (l.length : Nat) by omega)
              simpa only [Int.toNat_natCast, Nat.mul_one] using this
            have e4 : load E0 sh 5 (ptr b (o + (4 * m + j))) = some (.int .u8 l[4 * m + j]) := load_cell und5 sz5 rfl (kc (4 * m + j) _ (by simp [byteL, f]))
            have e5 : convert E0 sh 5 3 (.int .u8 l[4 * m + j]) = some (.int .i64 l[4 * m + j], sh) := by
              rw [conv_int E0_ok und5 und3, IntKind.wrap_i64]; congr; omega
            have e6 : IntKind.i64.wrap (wordTo l (4 * m) j * 256 + l[4 * m + j]) = wordTo l (4 * m) (j + 1) := by
              simp only [wordTo]
              rw [IntKind.wrap_i64]
              simp [f]
              omega
            refine hA (W.region ?_)
            clear hA hB A B
            simp only [WS, wantedA, op, St.eval, PutK, Then, InB, scalar, T.get_set, T.get_ofList, call, argsOf, val, valH, pairsOf, List.getElem?_cons_zero, List.getElem?_cons_succ, List.getElem?_nil, if_true, if_false, reduceIte, Nat.reduceEqDiff, Nat.reduceLT, Nat.reduceAdd, reduceCtorEq, true_and, and_true, cond_true, cond_false, Nat.lt_irrefl, Option.map_some, Option.map_none, List.toList_toArray, Option.some.injEq, Option.toList, List.nil_append, List.append_nil, List.cons_append, plain_bool, plain_int, t0, t4, t6, bin_add, e2, e3, e4, e5, e6]
            refine hK4 _ ?_
            clear hK4 K4
            refine W.region ?_
            simp only [WS, wantedA, op, St.eval, PutK, Then, InB, scalar, T.get_set, T.get_ofList, call, argsOf, val, valH, pairsOf, List.getElem?_cons_zero, List.getElem?_cons_succ, List.getElem?_nil, if_true, if_false, reduceIte, Nat.reduceEqDiff, Nat.reduceLT, Nat.reduceAdd, reduceCtorEq, true_and, and_true, cond_true, cond_false, Nat.lt_irrefl, Option.map_some, Option.map_none, List.toList_toArray, Option.some.injEq, Option.toList, List.nil_append, List.append_nil, List.cons_append, plain_bool, plain_int, t6, bin_add, e9]
            refine ⟨_, ?_, j + 1, rfl, rfl, rfl, d, ?_, ?_, ?_, ?_, ?_⟩
            · omega
            all_goals simp only [T.get_set, Nat.reduceEqDiff, if_false, if_true, t0, t3, t4]
          · rw [if_neg (by simp only [decide_eq_true_eq]; omega)]
            have e6 : wordTo l (4 * m) j * 256 = wordTo l (4 * m) (j + 1) := by
              simp [wordTo, f]
            refine hB (W.skip ?_)
            clear hA hB A B
            simp only [WS, wantedA, op, St.eval, PutK, Then, InB, scalar, T.get_set, T.get_ofList, call, argsOf, val, valH, pairsOf, List.getElem?_cons_zero, List.getElem?_cons_succ, List.getElem?_nil, if_true, if_false, reduceIte, Nat.reduceEqDiff, Nat.reduceLT, Nat.reduceAdd, reduceCtorEq, true_and, and_true, cond_true, cond_false, Nat.lt_irrefl, Option.map_some, Option.map_none, List.toList_toArray, Option.some.injEq, Option.toList, List.nil_append, List.append_nil, List.cons_append, plain_bool, plain_int]
            refine hK4 _ ?_
            clear hK4 K4
            refine W.region ?_
            simp only [WS, wantedA, op, St.eval, PutK, Then, InB, scalar, T.get_set, T.get_ofList, call, argsOf, val, valH, pairsOf, List.getElem?_cons_zero, List.getElem?_cons_succ, List.getElem?_nil, if_true, if_false, reduceIte, Nat.reduceEqDiff, Nat.reduceLT, Nat.reduceAdd, reduceCtorEq, true_and, and_true, cond_true, cond_false, Nat.lt_irrefl, Option.map_some, Option.map_none, List.toList_toArray, Option.some.injEq, Option.toList, List.nil_append, List.append_nil, List.cons_append, plain_bool, plain_int, t6, bin_add, e9]
            refine ⟨_, ?_, j + 1, rfl, rfl, rfl, d, ?_, ?_, ?_, ?_, ?_⟩
            · omega
            all_goals simp only [T.get_set, Nat.reduceEqDiff, if_false, if_true, t0, t3, t4, e6]
        · rw [if_neg (by simp only [decide_eq_true_eq]; omega)]
          have : j = 4 := by omega
          subst this
          refine hB (W.exit ?_)
          clear hA hB A B
          simp only [WS, wantedA, op, St.eval, PutK, Then, InB, scalar, T.get_set, T.get_ofList, call, argsOf, val, valH, pairsOf, List.getElem?_cons_zero, List.getElem?_cons_succ, List.getElem?_nil, if_true, if_false, reduceIte, Nat.reduceEqDiff, Nat.reduceLT, Nat.reduceAdd, reduceCtorEq, true_and, and_true, cond_true, cond_false, Nat.lt_irrefl, Option.map_some, Option.map_none, List.toList_toArray, Option.some.injEq, Option.toList, List.nil_append, List.append_nil, List.cons_append, plain_bool, plain_int]
          clear hK4 K4
          refine hK3 _ ?_
          clear hK3 K3
          have hr := refTo_lt l m
          have e1 : IntKind.i64.wrap (refTo l m + wordTo l (4 * m) 4) = refTo l m + wordTo l (4 * m) 4 := by rw [IntKind.wrap_i64]; omega
          have e2 : (refTo l m + wordTo l (4 * m) 4).tmod 4294967296 = refTo l (m + 1) := by
            rw [Int.tmod_eq_emod_of_nonneg (by omega)]; rfl
          have e3 : IntKind.i64.wrap (((4 * m : Nat) : Int) + 4) = ((4 * (m + 1) : Nat) : Int) := by rw [IntKind.wrap_i64]; omega
          refine W.region ?_
          simp only [WS, wantedA, op, St.eval, PutK, Then, InB, scalar, T.get_set, T.get_ofList, call, argsOf, val, valH, pairsOf, List.getElem?_cons_zero, List.getElem?_cons_succ, List.getElem?_nil, if_true, if_false, reduceIte, Nat.reduceEqDiff, Nat.reduceLT, Nat.reduceAdd, reduceCtorEq, true_and, and_true, cond_true, cond_false, Nat.lt_irrefl, Option.map_some, Option.map_none, List.toList_toArray, Option.some.injEq, Option.toList, List.nil_append, List.append_nil, List.cons_append, plain_bool, plain_int, t3, t5, bin_add, e1, bin_rem (show (4294967296 : Int) ≠ 0 by decide), e2]
          refine hK2 _ ?_
          clear hK2 K2
          refine W.region ?_
          simp only [WS, wantedA, op, St.eval, PutK, Then, InB, scalar, T.get_set, T.get_ofList, call, argsOf, val, valH, pairsOf, List.getElem?_cons_zero, List.getElem?_cons_succ, List.getElem?_nil, if_true, if_false, reduceIte, Nat.reduceEqDiff, Nat.reduceLT, Nat.reduceAdd, reduceCtorEq, true_and, and_true, cond_true, cond_false, Nat.lt_irrefl, Option.map_some, Option.map_none, List.toList_toArray, Option.some.injEq, Option.toList, List.nil_append, List.append_nil, List.cons_append, plain_bool, plain_int, t4, bin_add, e3]
          refine ⟨_, ?_, m + 1, rfl, rfl, rfl, ?_, ?_, ?_, ?_⟩
          · omega
          · omega
          all_goals simp only [T.get_set, Nat.reduceEqDiff, if_false, if_true, t0]
      · refine ⟨rfl, rfl, Nat.zero_le _, ?_, ?_, ?_, ?_, ?_⟩
        all_goals simp only [T.get_set, Nat.reduceEqDiff, if_false, if_true, t0, t3, t4, wordTo]
        rfl
    · rw [if_neg (by simp only [decide_eq_true_eq]; omega)]
      have hm : m = (l.length + 3) / 4 := by omega
      refine hB (W.exit ?_)
      clear hA hB A B
      simp only [WS, wantedA, op, St.eval, PutK, Then, InB, scalar, T.get_set, T.get_ofList, call, argsOf, val, valH, pairsOf, List.getElem?_cons_zero, List.getElem?_cons_succ, List.getElem?_nil, if_true, if_false, reduceIte, Nat.reduceEqDiff, Nat.reduceLT, Nat.reduceAdd, reduceCtorEq, true_and, and_true, cond_true, cond_false, Nat.lt_irrefl, Option.map_some, Option.map_none, List.toList_toArray, Option.some.injEq, Option.toList, List.nil_append, List.append_nil, List.cons_append, plain_bool, plain_int]
      clear hK2 K2
      refine hK _ ?_
      clear hK K
      refine W.seqK fun K hK => W.region ?_
      simp only [WS, wantedA, op, St.eval, PutK, Then, InB, scalar, T.get_set, T.get_ofList, call, argsOf, val, valH, pairsOf, List.getElem?_cons_zero, List.getElem?_cons_succ, List.getElem?_nil, if_true, if_false, reduceIte, Nat.reduceEqDiff, Nat.reduceLT, Nat.reduceAdd, reduceCtorEq, true_and, and_true, cond_true, cond_false, Nat.lt_irrefl, Option.map_some, Option.map_none, List.toList_toArray, Option.some.injEq, Option.toList, List.nil_append, List.append_nil, List.cons_append, plain_bool, plain_int, t3]
      refine hK _ ?_
      clear hK K
      refine W.ret ?_
      simp only [Ends, results, tupled, WS, wantedA, op, St.eval, PutK, Then, InB, scalar, T.get_set, T.get_ofList, call, argsOf, val, valH, pairsOf, List.getElem?_cons_zero, List.getElem?_cons_succ, List.getElem?_nil, if_true, if_false, reduceIte, Nat.reduceEqDiff, Nat.reduceLT, Nat.reduceAdd, reduceCtorEq, true_and, and_true, cond_true, cond_false, Nat.lt_irrefl, Option.map_some, Option.map_none, List.toList_toArray, Option.some.injEq, Option.toList, List.nil_append, List.append_nil, List.cons_append, plain_bool, plain_int, Try.f12, ← hm]
  · exact ⟨rfl, rfl, Nat.zero_le _, by simp only [T.get_set, T.get_ofList]; rfl, by simp only [T.get_set, T.get_ofList]; rfl, by simp only [T.get_set, T.get_ofList]; rfl⟩
end Go.AM
