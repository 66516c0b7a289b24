/- The law SfntSums: what its run comes to. -/
import Derived.Test.YtanibbphkeaeeaaAmSum
namespace Go.AM
open Go.Proofs
set_option maxRecDepth 100000
set_option linter.unusedSimpArgs false
set_option linter.unusedVariables false

/-! ## The plain law -/
theorem sumTo_past {l : List Int} : ∀ k, sumTo l (l.length + k) = sumTo l l.length
  | 0 => rfl
  | k + 1 => by
    have h := sumTo_lt l l.length
    have hz : l.getD (l.length + k) 0 = 0 := by simp
    rw [← Nat.add_assoc]
    simp only [sumTo, sumTo_past k, hz]
    omega

theorem sumTo_word {l : List Int} : ∀ m, sumTo l (4 * m) = refTo l m
  | 0 => rfl
  | m + 1 => by
    have q0 : (4 * m) % 4 = 0 := by omega
    have q1 : (4 * m + 1) % 4 = 1 := by omega
    have q2 : (4 * m + 2) % 4 = 2 := by omega
    have q3 : (4 * m + 3) % 4 = 3 := by omega
    rw [show 4 * (m + 1) = 4 * m + 1 + 1 + 1 + 1 by omega]
    simp only [sumTo, refTo, wordTo, sumTo_word m, Nat.add_assoc, q0, q1, q2, q3, Nat.add_zero]
    omega

theorem sum_ref (l : List Int) : sumTo l l.length = refTo l ((l.length + 3) / 4) := by
  rw [← sumTo_word, show 4 * ((l.length + 3) / 4) = l.length + (4 * ((l.length + 3) / 4) - l.length) by omega, sumTo_past]

theorem sumTo_left {a b : List Int} : ∀ n, n ≤ a.length → sumTo (a ++ b) n = sumTo a n
  | 0, _ => rfl
  | n + 1, h => by
    have : (a ++ b).getD n 0 = a.getD n 0 := by simp [List.getElem?_append, show n < a.length by omega]
    simp only [sumTo, sumTo_left (a := a) (b := b) n (by omega), this]

theorem sumTo_right {a b : List Int} (h4 : a.length % 4 = 0) : ∀ n, sumTo (a ++ b) (a.length + n) = (sumTo a a.length + sumTo b n) % 4294967296
  | 0 => by
    have := sumTo_lt a a.length
    rw [Nat.add_zero, sumTo_left _ (Nat.le_refl _)]
    simp only [sumTo]
    omega
  | n + 1 => by
    have hg : (a ++ b).getD (a.length + n) 0 = b.getD n 0 := by simp [List.getElem?_append, show ¬ (a.length + n < a.length) by omega]
    have hm : (a.length + n) % 4 = n % 4 := by omega
    rw [← Nat.add_assoc]
    simp only [sumTo, sumTo_right h4 n, hg, hm]
    generalize b.getD n 0 * 2 ^ (24 - 8 * (n % 4)) = x
    omega

theorem sum_append {a b : List Int} (h4 : a.length % 4 = 0) : sumTo (a ++ b) (a ++ b).length = (sumTo a a.length + sumTo b b.length) % 4294967296 := by
  rw [List.length_append]; exact sumTo_right h4 _

/-! ## The walk -/
theorem argHeap_cells {l : List InRow} {k : Nat} {r : InRow} (hk : l[k]? = some r) : Cells (argHeap l) k 0 r.cells := fun i v hv => by
  have hne : r.cells ≠ [] := by intro e; rw [e] at hv; simp at hv
  rw [Nat.zero_add]
  exact cell_blk (argHeap_get hk hne) (List.getElem?_eq_some_iff.1 hv).1 (by simp only [T.get_ofList]; exact hv)

theorem argHeap_esz {l : List InRow} {k : Nat} {B : Blk} (hB : (argHeap l).blks.get k = some B) : B.esz = 0 := by
  obtain ⟨r, _, _, rfl⟩ := argHeap_some hB
  rfl

theorem zero5 : zeroCells E0 5 = some [.int .u8 0] := by kernel_rfl
theorem inf5' : (E0.info 5).map (fun i => (i.size, i.bytes)) = some (1, 1) := by kernel_rfl
theorem inf5 : ∃ inf, E0.info 5 = some inf ∧ inf.size = 1 ∧ inf.bytes ≤ 256 := by
  have h := inf5'
  cases hi : E0.info 5 with
  | none => rw [hi] at h; cases h
  | some inf => rw [hi] at h; simp only [Option.map_some, Option.some.injEq, Prod.mk.injEq] at h; exact ⟨inf, rfl, h.1, by omega⟩

theorem allOne_bytes : ∀ l : List Int, allOne (byteL l) = true
  | [] => rfl
  | _ :: l => allOne_bytes l

theorem app36 {h : Heap} {b cap : Nat} {x : Option Addr} {l m : List Int} (own : Own h b (byteL l) 1) (hb : b < h.next) (c : Src h x (byteL m)) (hl : l.length + m.length < 2 ^ 39) :
    ∃ b' h', append E0 h 36 (.slice (some ⟨b, 0, none⟩) l.length l.length) (.slice x m.length cap) = some (.slice (some ⟨b', 0, none⟩) (l ++ m).length (l ++ m).length, h') ∧
      Own h' b' (byteL (l ++ m)) 1 ∧ b' < h'.next ∧ h.next ≤ h'.next ∧ (b' = b ∨ h.next ≤ b') ∧ ∀ k, k < h.next → k ≠ b → h'.blks.get k = h.blks.get k := by
  obtain ⟨inf, h1, h2, h3⟩ := inf5
  obtain ⟨b', h', e, q1, q2, q3, q4, q5⟩ := append_own (E := E0) (t := 36) (n := l.length) (m := byteL m) (x := .slice x m.length cap) und36 h1 zero5 (by omega) h3 (by rw [h2]; exact own) hb (by rw [h2]; simp [byteL]) rfl
    (source_src c (by omega) (by rw [h2]; simp [byteL])) (by rw [h2]; simp [byteL]) (allOne_bytes m) (by omega)
  refine ⟨b', h', by rw [List.length_append]; exact e, ?_, q2, q3, q4, q5⟩
  have : byteL (l ++ m) = byteL l ++ byteL m := by simp [byteL]
  rw [this, ← h2]; exact q1

theorem new36 (h : Heap) : buildSlice E0 h 36 0 [] = some (.slice (some ⟨h.next, 0, none⟩) 0 0, h.alloc [] 1) := buildSlice_none und36 sz5 zero5 (by omega)

theorem fresh36 {h : Heap} {x : Option Addr} {cap : Nat} {m : List Int} (c : Src h x (byteL m)) (hb : ∀ b o, x = some ⟨b, o, none⟩ → b < h.next) (hl : m.length < 2 ^ 39) :
    ∃ b' h', append E0 (h.alloc [] 1) 36 (.slice (some ⟨h.next, 0, none⟩) 0 0) (.slice x m.length cap) = some (.slice (some ⟨b', 0, none⟩) m.length m.length, h') ∧
      Own h' b' (byteL m) 1 ∧ b' < h'.next ∧ h.next ≤ b' ∧ Keeps h h' := by
  have own := alloc_own h [] 1
  obtain ⟨b', h', e, q1, q2, q3, q4, q5⟩ := app36 (l := []) (cap := cap) own (Nat.lt_succ_self _) ((alloc_keeps h [] 1).src hb c) (by simpa using hl)
  refine ⟨b', h', e, q1, q2, q4.elim (fun e => Nat.le_of_eq e.symm) fun e => Nat.le_trans (Nat.le_succ _) e, Nat.le_trans (Nat.le_succ _) q3, fun k hk => ?_⟩
  rw [q5 k (Nat.lt_succ_of_lt hk) (by omega)]
  exact (alloc_keeps h [] 1).blks k hk

theorem cf10 (args : List Value) : callFn E0 10 args = some (.enter 10 args) := callFn_of (show E0.fn 10 = some Try.f10 by kernel_rfl) rfl (by kernel_rfl) args

theorem alive (r s : InRow) : WCall E0 10 [] (argHeap [r, s]) fun v h' => v = .bool true ∧ 2 ≤ h'.next ∧ h'.blks.get 0 = (argHeap [r, s]).blks.get 0 ∧ h'.blks.get 1 = (argHeap [r, s]).blks.get 1 := by
  have h := alive10 (rowBlk r) (rowBlk s)
  have g0 : (argHeap [r, s]).blks.get 0 = rowBlk r := by rw [argHeap, argBlks_get]; rfl
  have g1 : (argHeap [r, s]).blks.get 1 = rowBlk s := by rw [argHeap, argBlks_get]; rfl
  unfold told2 at h
  split at h
  · rename_i b h' e
    simp only [Option.some.injEq, Prod.mk.injEq] at h
    obtain ⟨rfl, hn, e0, e1⟩ := h
    exact ⟨1000, _, h', e, rfl, by omega, e0.trans g0.symm, e1.trans g1.symm⟩
  · cases h

theorem fn5 : E0.fn 5 = some Try.f5 := by kernel_rfl

structure I5 (h : Heap) (x y : Option Addr) (l m : List Int) (n : Nat) (st : St) : Prop where
  hn : st.n = 42
  hh : st.h = h
  hi : n ≤ l.length
  t0 : st.ts.get 0 = some (.slice x n l.length)
  t1 : st.ts.get 1 = some (.slice y m.length m.length)

theorem law5 (r s : InRow) (x y : Option Addr) (l m : List Int) (hr : x = none ∧ l = [] ∨ x = some ⟨0, 0, none⟩ ∧ r.cells = byteL l) (hs : y = none ∧ m = [] ∨ y = some ⟨1, 0, none⟩ ∧ s.cells = byteL m) (bl : Bytes l) (bm : Bytes m) (hlen : l.length + m.length < 2 ^ 38) :
    WCall E0 5 [.slice x l.length l.length, .slice y m.length m.length] (argHeap [r, s]) fun v _ => v = .bool true := by
  have c0 : Src (argHeap [r, s]) x (byteL l) := by
    rcases hr with ⟨rfl, rfl⟩ | ⟨rfl, hr⟩
    · exact .inl ⟨rfl, rfl⟩
    · rw [← hr]; exact (argHeap_cells rfl).src
  have c1 : Src (argHeap [r, s]) y (byteL m) := by
    rcases hs with ⟨rfl, rfl⟩ | ⟨rfl, hs⟩
    · exact .inl ⟨rfl, rfl⟩
    · rw [← hs]; exact (argHeap_cells rfl).src
  have x0 : ∀ b o, x = some ⟨b, o, none⟩ → b = 0 := fun b o e => by
    rcases hr with ⟨rfl, _⟩ | ⟨rfl, _⟩ <;> cases e
    rfl
  have y0 : ∀ b o, y = some ⟨b, o, none⟩ → b = 1 := fun b o e => by
    rcases hs with ⟨rfl, _⟩ | ⟨rfl, _⟩ <;> cases e
    rfl
  refine WCall.of fn5 rfl (Nat.le_of_ble_eq_true rfl) ?_
  refine W.seqK fun K hK => W.region ?_
  simp only [WS, wantedA, op, St.eval, PutK, Then, InB, scalar, T.get_set, T.get_ofList, call, argsOf, val, valH, pairsOf, List.getElem?_cons_zero, List.getElem?_cons_succ, List.getElem?_nil, if_true, if_false, reduceIte, Nat.reduceEqDiff, Nat.reduceLT, Nat.reduceAdd, reduceCtorEq, true_and, and_true, cond_true, cond_false, Nat.lt_irrefl, Option.map_some, Option.map_none, List.toList_toArray, Option.some.injEq, Option.toList, List.nil_append, List.append_nil, List.cons_append, plain_bool, plain_int, Try.f5]
  refine hK _ ?_
  clear hK K
  refine W.seqK fun K hK => ?_
  refine W.seqK fun K2 hK2 => ?_
  refine W.region ?_
  simp only [WS, wantedA, op, St.eval, PutK, Then, InB, scalar, T.get_set, T.get_ofList, call, argsOf, val, valH, pairsOf, List.getElem?_cons_zero, List.getElem?_cons_succ, List.getElem?_nil, if_true, if_false, reduceIte, Nat.reduceEqDiff, Nat.reduceLT, Nat.reduceAdd, reduceCtorEq, true_and, and_true, cond_true, cond_false, Nat.lt_irrefl, Option.map_some, Option.map_none, List.toList_toArray, Option.some.injEq, Option.toList, List.nil_append, List.append_nil, List.cons_append, plain_bool, plain_int, cf10]
  refine (alive r s).mono ?_
  rintro v h1 ⟨rfl, hn1, g0, g1⟩
  simp only [WS, wantedA, op, St.eval, PutK, Then, InB, scalar, T.get_set, T.get_ofList, call, argsOf, val, valH, pairsOf, List.getElem?_cons_zero, List.getElem?_cons_succ, List.getElem?_nil, if_true, if_false, reduceIte, Nat.reduceEqDiff, Nat.reduceLT, Nat.reduceAdd, reduceCtorEq, true_and, and_true, cond_true, cond_false, Nat.lt_irrefl, Option.map_some, Option.map_none, List.toList_toArray, Option.some.injEq, Option.toList, List.nil_append, List.append_nil, List.cons_append, plain_bool, plain_int, un_not]
  refine hK2 _ ?_
  clear hK2 K2
  have k0 : Src h1 x (byteL l) := by
    rcases c0 with c0 | ⟨b, o, e, c0⟩
    · exact .inl c0
    · refine .inr ⟨b, o, e, fun i v hv => ?_⟩
      have := c0 i v hv
      unfold Heap.cell at this ⊢
      rw [x0 b o e] at this ⊢
      rw [g0]; exact this
  have k1 : Src h1 y (byteL m) := by
    rcases c1 with c1 | ⟨b, o, e, c1⟩
    · exact .inl c1
    · refine .inr ⟨b, o, e, fun i v hv => ?_⟩
      have := c1 i v hv
      unfold Heap.cell at this ⊢
      rw [y0 b o e] at this ⊢
      rw [g1]; exact this
  have z0 : ∀ B, h1.blks.get 0 = some B → B.esz = 0 := fun B hB => argHeap_esz (g0 ▸ hB)
  clear c0 c1 g0 g1 hr hs
  refine W.condK fun A B hA hB => ?_
  simp only [WS, wantedA, op, St.eval, PutK, Then, InB, scalar, T.get_set, T.get_ofList, call, argsOf, val, valH, pairsOf, List.getElem?_cons_zero, List.getElem?_cons_succ, List.getElem?_nil, if_true, if_false, reduceIte, Nat.reduceEqDiff, Nat.reduceLT, Nat.reduceAdd, reduceCtorEq, true_and, and_true, cond_true, cond_false, Nat.lt_irrefl, Option.map_some, Option.map_none, List.toList_toArray, Option.some.injEq, Option.toList, List.nil_append, List.append_nil, List.cons_append, plain_bool, plain_int]
  rw [if_neg (by decide)]
  refine hB (W.skip ?_)
  clear hA hB A B
  simp only [WS, wantedA, op, St.eval, PutK, Then, InB, scalar, T.get_set, T.get_ofList, call, argsOf, val, valH, pairsOf, List.getElem?_cons_zero, List.getElem?_cons_succ, List.getElem?_nil, if_true, if_false, reduceIte, Nat.reduceEqDiff, Nat.reduceLT, Nat.reduceAdd, reduceCtorEq, true_and, and_true, cond_true, cond_false, Nat.lt_irrefl, Option.map_some, Option.map_none, List.toList_toArray, Option.some.injEq, Option.toList, List.nil_append, List.append_nil, List.cons_append, plain_bool, plain_int]
  refine hK _ ?_
  clear hK K
  refine W.seqK fun K hK => ?_
  refine W.seqK fun K2 hK2 => ?_
  obtain ⟨b2, h2, a2, own2, lt2, ge2, kp2⟩ := fresh36 (cap := l.length) k0 (fun b o e => by have := x0 b o e; omega) (by omega)
  refine W.region ?_
  simp only [WS, wantedA, op, St.eval, PutK, Then, InB, scalar, T.get_set, T.get_ofList, call, argsOf, val, valH, pairsOf, List.getElem?_cons_zero, List.getElem?_cons_succ, List.getElem?_nil, if_true, if_false, reduceIte, Nat.reduceEqDiff, Nat.reduceLT, Nat.reduceAdd, reduceCtorEq, true_and, and_true, cond_true, cond_false, Nat.lt_irrefl, Option.map_some, Option.map_none, List.toList_toArray, Option.some.injEq, Option.toList, List.nil_append, List.append_nil, List.cons_append, plain_bool, plain_int, und36, new36, a2, cf11]
  refine (sum11 h2 (some ⟨b2, 0, none⟩) l.length l own2.cells.src bl (by omega)).mono ?_
  rintro v h' ⟨rfl, rfl⟩
  simp only [WS, wantedA, op, St.eval, PutK, Then, InB, scalar, T.get_set, T.get_ofList, call, argsOf, val, valH, pairsOf, List.getElem?_cons_zero, List.getElem?_cons_succ, List.getElem?_nil, if_true, if_false, reduceIte, Nat.reduceEqDiff, Nat.reduceLT, Nat.reduceAdd, reduceCtorEq, true_and, and_true, cond_true, cond_false, Nat.lt_irrefl, Option.map_some, Option.map_none, List.toList_toArray, Option.some.injEq, Option.toList, List.nil_append, List.append_nil, List.cons_append, plain_bool, plain_int, cf12]
  refine (sum12 h' x l.length l (kp2.src (fun b o e => by have := x0 b o e; omega) k0) bl (by omega)).mono ?_
  rintro v h2 ⟨rfl, rfl⟩
  simp only [WS, wantedA, op, St.eval, PutK, Then, InB, scalar, T.get_set, T.get_ofList, call, argsOf, val, valH, pairsOf, List.getElem?_cons_zero, List.getElem?_cons_succ, List.getElem?_nil, if_true, if_false, reduceIte, Nat.reduceEqDiff, Nat.reduceLT, Nat.reduceAdd, reduceCtorEq, true_and, and_true, cond_true, cond_false, Nat.lt_irrefl, Option.map_some, Option.map_none, List.toList_toArray, Option.some.injEq, Option.toList, List.nil_append, List.append_nil, List.cons_append, plain_bool, plain_int, bin_neq]
  refine hK2 _ ?_
  clear hK2 K2
  refine W.condK fun A B hA hB => ?_
  simp only [WS, wantedA, op, St.eval, PutK, Then, InB, scalar, T.get_set, T.get_ofList, call, argsOf, val, valH, pairsOf, List.getElem?_cons_zero, List.getElem?_cons_succ, List.getElem?_nil, if_true, if_false, reduceIte, Nat.reduceEqDiff, Nat.reduceLT, Nat.reduceAdd, reduceCtorEq, true_and, and_true, cond_true, cond_false, Nat.lt_irrefl, Option.map_some, Option.map_none, List.toList_toArray, Option.some.injEq, Option.toList, List.nil_append, List.append_nil, List.cons_append, plain_bool, plain_int]
  rw [if_neg (by rw [sum_ref]; simp)]
  refine hB (W.skip ?_)
  clear hA hB A B
  simp only [WS, wantedA, op, St.eval, PutK, Then, InB, scalar, T.get_set, T.get_ofList, call, argsOf, val, valH, pairsOf, List.getElem?_cons_zero, List.getElem?_cons_succ, List.getElem?_nil, if_true, if_false, reduceIte, Nat.reduceEqDiff, Nat.reduceLT, Nat.reduceAdd, reduceCtorEq, true_and, and_true, cond_true, cond_false, Nat.lt_irrefl, Option.map_some, Option.map_none, List.toList_toArray, Option.some.injEq, Option.toList, List.nil_append, List.append_nil, List.cons_append, plain_bool, plain_int]
  refine hK _ ?_
  clear hK K
  have k0 := kp2.src (fun b o e => by have := x0 b o e; omega) k0
  have k1 := kp2.src (fun b o e => by have := y0 b o e; omega) k1
  have z0 : ∀ B, h2.blks.get 0 = some B → B.esz = 0 := fun B hB => z0 B (by rwa [kp2.blks 0 (by omega)] at hB)
  have hn2 : 2 ≤ h2.next := Nat.le_trans hn1 kp2.next
  clear a2 own2 lt2 ge2 kp2 hn1
  refine W.seqK fun K hK => ?_
  refine W.block ?_
  refine W.loop (I5 h2 x y l m) ?_ l.length _ ?_
  · rintro n ⟨sn, ts, sh⟩ ⟨hn, hh, hi, t0, t1⟩
    simp only at hn hh t0 t1
    subst hn hh
    have e4 : (n : Int).tmod 4 = ((n % 4 : Nat) : Int) := by rw [Int.tmod_eq_emod_of_nonneg (Int.natCast_nonneg n)]; omega
    refine W.seqK fun K2 hK2 => ?_
    refine W.seqK fun K3 hK3 => W.region ?_
    simp only [WS, wantedA, op, St.eval, PutK, Then, InB, scalar, T.get_set, T.get_ofList, call, argsOf, val, valH, pairsOf, List.getElem?_cons_zero, List.getElem?_cons_succ, List.getElem?_nil, if_true, if_false, reduceIte, Nat.reduceEqDiff, Nat.reduceLT, Nat.reduceAdd, reduceCtorEq, true_and, and_true, cond_true, cond_false, Nat.lt_irrefl, Option.map_some, Option.map_none, List.toList_toArray, Option.some.injEq, Option.toList, List.nil_append, List.append_nil, List.cons_append, plain_bool, plain_int, t0, lenV_slice und36, bin_rem (show (4 : Int) ≠ 0 by decide), e4, bin_neq]
    refine hK3 _ ?_
    clear hK3 K3
    refine W.condK fun A B hA hB => ?_
    simp only [WS, wantedA, op, St.eval, PutK, Then, InB, scalar, T.get_set, T.get_ofList, call, argsOf, val, valH, pairsOf, List.getElem?_cons_zero, List.getElem?_cons_succ, List.getElem?_nil, if_true, if_false, reduceIte, Nat.reduceEqDiff, Nat.reduceLT, Nat.reduceAdd, reduceCtorEq, true_and, and_true, cond_true, cond_false, Nat.lt_irrefl, Option.map_some, Option.map_none, List.toList_toArray, Option.some.injEq, Option.toList, List.nil_append, List.append_nil, List.cons_append, plain_bool, plain_int]
    by_cases c : n % 4 = 0
    · rw [if_neg (by simp [c])]
      refine hB (W.exit ?_)
      clear hA hB A B
      simp only [WS, wantedA, op, St.eval, PutK, Then, InB, scalar, T.get_set, T.get_ofList, call, argsOf, val, valH, pairsOf, List.getElem?_cons_zero, List.getElem?_cons_succ, List.getElem?_nil, if_true, if_false, reduceIte, Nat.reduceEqDiff, Nat.reduceLT, Nat.reduceAdd, reduceCtorEq, true_and, and_true, cond_true, cond_false, Nat.lt_irrefl, Option.map_some, Option.map_none, List.toList_toArray, Option.some.injEq, Option.toList, List.nil_append, List.append_nil, List.cons_append, plain_bool, plain_int]
      clear hK2 K2
      refine hK _ ?_
      clear hK K
      have hl : (l.take n).length = n := by rw [List.length_take]; omega
      have ba : Bytes (l.take n) := fun x hx => bl x (List.mem_of_mem_take hx)
      have ka : Src sh x (byteL (l.take n)) := by
        have : byteL (l.take n) = (byteL l).take n := by simp [byteL]
        rw [this]
        rcases k0 with ⟨e, k0⟩ | ⟨b, o, e, k0⟩
        · exact .inl ⟨e, by rw [k0]; simp⟩
        · exact .inr ⟨b, o, e, k0.take n⟩
      generalize l.take n = a at hl ba ka
      subst hl
      obtain ⟨b3, h3, a3, own3, lt3, ge3, kp3⟩ := fresh36 (cap := l.length) ka (fun b o e => by have := x0 b o e; omega) (by omega)
      have kb3 := kp3.src (fun b o e => by have := y0 b o e; omega) k1
      obtain ⟨b4, h4, a4, own4, lt4, le4, _, kp4⟩ := app36 (cap := m.length) own3 lt3 kb3 (by omega)
      refine W.seqK fun K hK => W.region ?_
      simp only [WS, wantedA, op, St.eval, PutK, Then, InB, scalar, T.get_set, T.get_ofList, call, argsOf, val, valH, pairsOf, List.getElem?_cons_zero, List.getElem?_cons_succ, List.getElem?_nil, if_true, if_false, reduceIte, Nat.reduceEqDiff, Nat.reduceLT, Nat.reduceAdd, reduceCtorEq, true_and, and_true, cond_true, cond_false, Nat.lt_irrefl, Option.map_some, Option.map_none, List.toList_toArray, Option.some.injEq, Option.toList, List.nil_append, List.append_nil, List.cons_append, plain_bool, plain_int, t0, t1, und36, new36, a3, a4]
      refine hK _ ?_
      clear hK K
      have kp : Keeps sh h4 := ⟨Nat.le_trans kp3.next le4, fun k hk => (kp4 k (Nat.lt_of_lt_of_le hk kp3.next) (by omega)).trans (kp3.blks k hk)⟩
      have ka := kp.src (fun b o e => by have := x0 b o e; omega) ka
      have kb := kp.src (fun b o e => by have := y0 b o e; omega) k1
      have hn4 : 2 ≤ h4.next := Nat.le_trans hn2 kp.next
      obtain ⟨b5, h5, a5, own5, lt5, ge5, kp5⟩ := fresh36 (cap := l.length) ka (fun b o e => by have := x0 b o e; omega) (by omega)
      have kb := kp5.src (fun b o e => by have := y0 b o e; omega) kb
      have hn5 : 2 ≤ h5.next := Nat.le_trans hn4 kp5.next
      obtain ⟨b6, h6, a6, own6, lt6, ge6, kp6⟩ := fresh36 (cap := m.length) kb (fun b o e => by have := y0 b o e; omega) (by omega)
      have bb : Bytes (a ++ m) := fun x hx => (List.mem_append.1 hx).elim (ba x) (bm x)
      have hsum := sum_append (b := m) c
      have s1 := sumTo_lt a a.length
      have s2 := sumTo_lt m m.length
      have e1 : IntKind.i64.wrap (sumTo a a.length + sumTo m m.length) = sumTo a a.length + sumTo m m.length := by rw [IntKind.wrap_i64]; omega
      have e2 : (sumTo a a.length + sumTo m m.length).tmod 4294967296 = sumTo (a ++ m) (a ++ m).length := by rw [Int.tmod_eq_emod_of_nonneg (by omega), hsum]
      refine W.seqK fun K hK => W.region ?_
      simp only [WS, wantedA, op, St.eval, PutK, Then, InB, scalar, T.get_set, T.get_ofList, call, argsOf, val, valH, pairsOf, List.getElem?_cons_zero, List.getElem?_cons_succ, List.getElem?_nil, if_true, if_false, reduceIte, Nat.reduceEqDiff, Nat.reduceLT, Nat.reduceAdd, reduceCtorEq, true_and, and_true, cond_true, cond_false, Nat.lt_irrefl, Option.map_some, Option.map_none, List.toList_toArray, Option.some.injEq, Option.toList, List.nil_append, List.append_nil, List.cons_append, plain_bool, plain_int, cf11]
      refine (sum11 h4 (some ⟨b4, 0, none⟩) (a ++ m).length (a ++ m) own4.cells.src bb (by rw [List.length_append]; omega)).mono ?_
      rintro v h' ⟨rfl, rfl⟩
      simp only [WS, wantedA, op, St.eval, PutK, Then, InB, scalar, T.get_set, T.get_ofList, call, argsOf, val, valH, pairsOf, List.getElem?_cons_zero, List.getElem?_cons_succ, List.getElem?_nil, if_true, if_false, reduceIte, Nat.reduceEqDiff, Nat.reduceLT, Nat.reduceAdd, reduceCtorEq, true_and, and_true, cond_true, cond_false, Nat.lt_irrefl, Option.map_some, Option.map_none, List.toList_toArray, Option.some.injEq, Option.toList, List.nil_append, List.append_nil, List.cons_append, plain_bool, plain_int, t0, t1, und36, new36, a5, cf11]
      refine (sum11 h5 (some ⟨b5, 0, none⟩) a.length a own5.cells.src ba (by omega)).mono ?_
      rintro v h5' ⟨rfl, rfl⟩
      simp only [WS, wantedA, op, St.eval, PutK, Then, InB, scalar, T.get_set, T.get_ofList, call, argsOf, val, valH, pairsOf, List.getElem?_cons_zero, List.getElem?_cons_succ, List.getElem?_nil, if_true, if_false, reduceIte, Nat.reduceEqDiff, Nat.reduceLT, Nat.reduceAdd, reduceCtorEq, true_and, and_true, cond_true, cond_false, Nat.lt_irrefl, Option.map_some, Option.map_none, List.toList_toArray, Option.some.injEq, Option.toList, List.nil_append, List.append_nil, List.cons_append, plain_bool, plain_int, t0, t1, und36, new36, a6, cf11]
      refine (sum11 h6 (some ⟨b6, 0, none⟩) m.length m own6.cells.src bm (by omega)).mono ?_
      rintro v h6' ⟨rfl, rfl⟩
      simp only [WS, wantedA, op, St.eval, PutK, Then, InB, scalar, T.get_set, T.get_ofList, call, argsOf, val, valH, pairsOf, List.getElem?_cons_zero, List.getElem?_cons_succ, List.getElem?_nil, if_true, if_false, reduceIte, Nat.reduceEqDiff, Nat.reduceLT, Nat.reduceAdd, reduceCtorEq, true_and, and_true, cond_true, cond_false, Nat.lt_irrefl, Option.map_some, Option.map_none, List.toList_toArray, Option.some.injEq, Option.toList, List.nil_append, List.append_nil, List.cons_append, plain_bool, plain_int, bin_add, e1, bin_rem (show (4294967296 : Int) ≠ 0 by decide), e2, bin_eql]
      refine hK _ ?_
      clear hK K
      refine W.ret ?_
      simp only [Ends, results, tupled, WS, wantedA, op, St.eval, PutK, Then, InB, scalar, T.get_set, T.get_ofList, call, argsOf, val, valH, pairsOf, List.getElem?_cons_zero, List.getElem?_cons_succ, List.getElem?_nil, if_true, if_false, reduceIte, Nat.reduceEqDiff, Nat.reduceLT, Nat.reduceAdd, reduceCtorEq, true_and, and_true, cond_true, cond_false, Nat.lt_irrefl, Option.map_some, Option.map_none, List.toList_toArray, Option.some.injEq, Option.toList, List.nil_append, List.append_nil, List.cons_append, plain_bool, plain_int, Try.f5, beq_self_eq_true]
    · rw [if_pos (by simp only [bne_iff_ne, ne_eq]; omega)]
      refine hA (W.skip ?_)
      clear hA hB A B
      simp only [WS, wantedA, op, St.eval, PutK, Then, InB, scalar, T.get_set, T.get_ofList, call, argsOf, val, valH, pairsOf, List.getElem?_cons_zero, List.getElem?_cons_succ, List.getElem?_nil, if_true, if_false, reduceIte, Nat.reduceEqDiff, Nat.reduceLT, Nat.reduceAdd, reduceCtorEq, true_and, and_true, cond_true, cond_false, Nat.lt_irrefl, Option.map_some, Option.map_none, List.toList_toArray, Option.some.injEq, Option.toList, List.nil_append, List.append_nil, List.cons_append, plain_bool, plain_int]
      refine hK2 _ ?_
      clear hK2 K2
      have hpos : 0 < l.length := by omega
      obtain ⟨b, o, rfl, kc⟩ := k0.row (by simp [byteL]; omega)
      obtain rfl := x0 b o rfl
      obtain ⟨B, hB, _, _⟩ := cell_of (kc 0 (.int .u8 l[0]) (by simp [byteL, hpos]))
      have e1 : IntKind.i64.wrap ((n : Int) - 1) = ((n - 1 : Nat) : Int) := by rw [IntKind.wrap_i64]; omega
      have e2 : slice E0 sh 36 (.slice (some ⟨0, o, none⟩) n l.length) none (some (.int .i64 ((n - 1 : Nat) : Int))) = some (.slice (some ⟨0, o, none⟩) (n - 1) l.length) := by
        have := slice_hi (o := o) (len := n) (cap := l.length) (k := .i64) und36 sz5 hB (.inl (z0 B hB)) (Int.natCast_nonneg (n - 1)) (by omega)
        simpa only [Int.toNat_natCast] using this
      refine W.block ?_
      refine W.region ?_
      simp only [WS, wantedA, op, St.eval, PutK, Then, InB, scalar, T.get_set, T.get_ofList, call, argsOf, val, valH, pairsOf, List.getElem?_cons_zero, List.getElem?_cons_succ, List.getElem?_nil, if_true, if_false, reduceIte, Nat.reduceEqDiff, Nat.reduceLT, Nat.reduceAdd, reduceCtorEq, true_and, and_true, cond_true, cond_false, Nat.lt_irrefl, Option.map_some, Option.map_none, List.toList_toArray, Option.some.injEq, Option.toList, List.nil_append, List.append_nil, List.cons_append, plain_bool, plain_int, t0, lenV_slice und36, bin_sub, e1, e2]
      refine ⟨n - 1, by omega, rfl, rfl, by omega, ?_, ?_⟩
      all_goals simp only [T.get_set, Nat.reduceEqDiff, if_false, if_true, t1]
  · exact ⟨rfl, rfl, Nat.le_refl _, by simp only [T.get_set, T.get_ofList]; rfl, by simp only [T.get_set, T.get_ofList]; rfl⟩
end Go.AM
