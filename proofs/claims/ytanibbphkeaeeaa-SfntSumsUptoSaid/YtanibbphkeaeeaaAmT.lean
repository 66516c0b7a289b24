/- The small machine AM: laws of its store. -/
import Derived.Test.YtanibbphkeaeeaaAmDef
namespace Go.AM.T
variable {α : Type}

theorem beq_ne {a b : Nat} (h : a ≠ b) : Nat.beq a b = false := by
  cases e : Nat.beq a b
  · rfl
  · exact absurd (Nat.eq_of_beq_eq_true e) h
theorem beq_eq {a b : Nat} (h : a = b) : Nat.beq a b = true := by subst h; exact Nat.beq_refl a

theorem get_put (f : Nat) : ∀ (t : T α) (n m : Nat) (o : Option α), n < f → (put f t n o).get m = if m = n then o else t.get m := by
  induction f with
  | zero => intro t n m o h; omega
  | succ f ih =>
    intro t n m o h
    have key : ∀ (l : T α) (v : Option α) (r : T α),
        (cond (Nat.beq n 0) (node l o r) (cond (Nat.beq (n % 2) 1) (node (put f l (n / 2) o) v r) (node l v (put f r (n / 2 - 1) o)))).get m
          = if m = n then o else (node l v r).get m := by
      intro l v r
      by_cases h0 : n = 0
      · subst h0
        by_cases hm : m = 0
        · subst hm; simp [get]
        · have : Nat.beq m 0 = false := beq_ne hm
          simp [get, this, hm]
      · have hb : Nat.beq n 0 = false := beq_ne h0
        rw [hb]
        simp only [cond_false]
        by_cases h1 : n % 2 = 1
        · have hb1 : Nat.beq (n % 2) 1 = true := beq_eq h1
          rw [hb1]
          simp only [cond_true, get]
          by_cases hm : m = 0
          · subst hm
            have : ¬ (0 = n) := fun e => h0 e.symm
            simp [this]
          · have hmb : Nat.beq m 0 = false := beq_ne hm
            rw [hmb]
            simp only [cond_false]
            by_cases hm1 : m % 2 = 1
            · have hmb1 : Nat.beq (m % 2) 1 = true := beq_eq hm1
              rw [hmb1]
              simp only [cond_true]
              rw [ih l (n / 2) (m / 2) o (by omega)]
              by_cases e : m = n
              · subst e; simp
              · have : ¬ (m / 2 = n / 2) := by omega
                simp [e, this]
            · have hmb1 : Nat.beq (m % 2) 1 = false := beq_ne hm1
              rw [hmb1]
              simp only [cond_false]
              have : ¬ (m = n) := by intro e; subst e; exact hm1 h1
              simp [this]
        · have hb1 : Nat.beq (n % 2) 1 = false := beq_ne h1
          rw [hb1]
          simp only [cond_false, get]
          by_cases hm : m = 0
          · subst hm
            have : ¬ (0 = n) := fun e => h0 e.symm
            simp [this]
          · have hmb : Nat.beq m 0 = false := beq_ne hm
            rw [hmb]
            simp only [cond_false]
            by_cases hm1 : m % 2 = 1
            · have hmb1 : Nat.beq (m % 2) 1 = true := beq_eq hm1
              rw [hmb1]
              simp only [cond_true]
              have : ¬ (m = n) := by intro e; subst e; exact h1 hm1
              simp [this]
            · have hmb1 : Nat.beq (m % 2) 1 = false := beq_ne hm1
              rw [hmb1]
              simp only [cond_false]
              rw [ih r (n / 2 - 1) (m / 2 - 1) o (by omega)]
              by_cases e : m = n
              · subst e; simp
              · have : ¬ (m / 2 - 1 = n / 2 - 1) := by omega
                simp [e, this]
    cases t with
    | leaf =>
      simp only [put]
      have := key leaf none leaf
      rw [this]
      simp only [get]
      congr 1
      cases Nat.beq m 0 <;> cases Nat.beq (m % 2) 1 <;> rfl
    | node l v r => simp only [put]; exact key l v r

theorem get_set (t : T α) (n m : Nat) (v : α) : (t.set n v).get m = if m = n then some v else t.get m := get_put _ t n m _ (Nat.lt_succ_self n)
theorem get_set_same (t : T α) (n : Nat) (v : α) : (t.set n v).get n = some v := by simp [get_set]
theorem get_set_ne (t : T α) {n m : Nat} (v : α) (h : m ≠ n) : (t.set n v).get m = t.get m := by simp [get_set, h]
theorem get_del (t : T α) (n m : Nat) : (t.del n).get m = if m = n then none else t.get m := get_put _ t n m _ (Nat.lt_succ_self n)
theorem get_leaf (m : Nat) : (leaf : T α).get m = none := rfl

theorem get_ofListFrom : ∀ (l : List α) (i : Nat) (t : T α) (m : Nat), (ofListFrom l i t).get m = if i ≤ m ∧ m < i + l.length then l[m - i]? else t.get m
  | [], i, t, m => by simp [ofListFrom]; omega
  | v :: l, i, t, m => by
    rw [ofListFrom, get_ofListFrom l (i + 1) _ m, get_set]
    by_cases h1 : i + 1 ≤ m ∧ m < i + 1 + l.length
    · rw [if_pos h1, if_pos (by simp; omega)]
      have : m - i = (m - (i + 1)) + 1 := by omega
      rw [this, List.getElem?_cons_succ]
    · rw [if_neg h1]
      by_cases e : m = i
      · subst e; rw [if_pos rfl, if_pos (by simp)]; simp
      · rw [if_neg e, if_neg (by simp; omega)]

theorem get_ofList (l : List α) (m : Nat) : (ofList l).get m = l[m]? := by
  rw [ofList, get_ofListFrom]
  by_cases h : m < l.length
  · rw [if_pos (by omega)]; simp
  · rw [if_neg (by omega)]; simp [get_leaf]; omega

end Go.AM.T
