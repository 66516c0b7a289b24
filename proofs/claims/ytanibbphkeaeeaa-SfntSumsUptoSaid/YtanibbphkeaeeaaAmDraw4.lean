/- The small machine AM: regions that draw their order: the theorem; and what a call comes to, the model's call comes to. -/
import Derived.Test.YtanibbphkeaeeaaAmDraw3
namespace Go.AM
section
variable {E : Env} {call : CallF} {ops : Array Oper} {L : List Ent} {S : Nat → St}
variable {ι0 ι : Inj} {w0 w : World} {d0 : List Deferred} {f : Nat} {listed : Array Bool} {a : Act}

/-- what was read along the schedule is read where the model stands -/
theorem Inv.read (pa : Path E call ops L S) (I : Inv E ops L S ι0 w0 d0 f listed a w ι) {q : Nat} {x : Ent} (hx : L[q]? = some x) (hun : listed.getD x.bit false = false)
    (hw : wantedA ops.toList (S q).ts x.o = some true) (hc : cls x.o.op = .read) {v : Value} (hop : op E ((S q).eval E.gl) (S q).h x.o.op = some (.value v (S q).h)) :
    ∀ k, q + 1 + k ≤ f → op E ((S q).eval E.gl) (S (q + 1 + k)).h x.o.op = some (.value v (S (q + 1 + k)).h) := by
  obtain ⟨y, hy, hwatch⟩ := pa.watch q x hx hw (.inl hc)
  have hyv : y = .read (S q) x.o.op v := by
    unfold newWatch at hy
    rw [hc] at hy
    simp only [hop, Option.some.injEq, List.cons.injEq, and_true] at hy
    exact hy.symm
  intro k
  induction k with
  | zero =>
    intro hk
    rcases pa.calm hx (by rw [hc]; decide) with h | ⟨h, _⟩
    · rw [Nat.add_zero, h]; exact hop
    · rw [hc] at h; cases h
  | succ k ih =>
    intro hk
    have ih := ih (by omega)
    have hfl := I.fle
    have hlt : q + 1 + k < L.length := by omega
    have hz := List.getElem?_eq_getElem hlt
    have byWatch : wantedA ops.toList (S (q + 1 + k)).ts (L[q + 1 + k]).o = some true → Hits (L[q + 1 + k]) x.bit →
        op E ((S q).eval E.gl) (S (q + 1 + k + 1)).h x.o.op = some (.value v (S (q + 1 + k + 1)).h) := by
      intro hwz hh
      have := hwatch (q + 1 + k) _ (by omega) hz hwz hh
      rw [hyv] at this
      simp only [Watch.ok] at this
      split at this
      · rename_i u h1 ho
        obtain ⟨u', h2⟩ := op_read hc ho
        cases h2
        rw [ho, eqV_spec this]
      · cases this
    have same : (S (q + 1 + k + 1)).h = (S (q + 1 + k)).h → op E ((S q).eval E.gl) (S (q + 1 + k + 1)).h x.o.op = some (.value v (S (q + 1 + k + 1)).h) := by
      intro h; rw [h]; exact ih
    show op E ((S q).eval E.gl) (S (q + 1 + k + 1)).h x.o.op = some (.value v (S (q + 1 + k + 1)).h)
    by_cases hcz : cls (L[q + 1 + k]).o.op = .eff
    · rcases step1_cases (pa.step _ _ hz) with ⟨hwz, _⟩ | ⟨_, e⟩
      · refine byWatch hwz (.inl ⟨hcz, ?_⟩)
        cases hb : hasBit (L[q + 1 + k]).bef x.bit with
        | false => rfl
        | true =>
          have := I.dc _ _ hz (I.fbelow _ _ (by omega) hz hcz) _ hb
          rw [hun] at this; cases this
      · exact same (put_spec e).1
    · rcases pa.calm hz hcz with h | ⟨hca, hwz, _⟩
      · exact same h
      · exact byWatch hwz (.inr hca)

/-- a block laid along the schedule stands unturned where the model stands -/
theorem Inv.fresh (pa : Path E call ops L S) (I : Inv E ops L S ι0 w0 d0 f listed a w ι) {q : Nat} {x : Ent} (hx : L[q]? = some x) (hun : listed.getD x.bit false = false)
    (hw : wantedA ops.toList (S q).ts x.o = some true) (hc : cls x.o.op = .alloc) {l : List Value} {esz : Nat} (hst : (S (q + 1)).h = (S q).h.alloc l esz) :
    ∀ k, q + 1 + k ≤ f → ∃ B, (S (q + 1 + k)).h.blks.get (S q).h.next = some B ∧ B.size = l.length ∧ B.esz = esz ∧ B.ro = false ∧ ∀ i, i < l.length → B.cells.get i = l[i]? := by
  have hB0 : (S (q + 1)).h.blks.get (S q).h.next = some { size := l.length, esz, ro := false, cells := T.ofList l } := by rw [hst]; simp [Heap.alloc, T.get_set]
  obtain ⟨y, hy, hwatch⟩ := pa.watch q x hx hw (.inr hc)
  have hyv : y = .blk (S q).h.next l esz := by
    unfold newWatch at hy
    rw [hc] at hy
    simp only [hB0] at hy
    split at hy
    · rename_i r hr
      simp only [Option.some.injEq, List.cons.injEq, and_true] at hy
      obtain ⟨r1, r2⟩ := Blk.row_spec _ _ _ _ hr
      have r1 : r.length = l.length := r1
      have : r = l := by
        apply List.ext_getElem?
        intro i
        by_cases hi : i < l.length
        · have hir : i < r.length := by rw [r1]; exact hi
          have := r2 i _ (List.getElem?_eq_getElem hir)
          simp only [Nat.zero_add] at this
          rw [T.get_ofList] at this
          rw [List.getElem?_eq_getElem hir, this]
        · rw [List.getElem?_eq_none (by omega), List.getElem?_eq_none (by omega)]
      rw [this] at hy; exact hy.symm
    · cases hy
  intro k
  induction k with
  | zero =>
    intro _
    exact ⟨_, hB0, rfl, rfl, rfl, fun i _ => T.get_ofList l i⟩
  | succ k ih =>
    intro hk
    have ih := ih (by omega)
    have hfl := I.fle
    have hlt : q + 1 + k < L.length := by omega
    have hz := List.getElem?_eq_getElem hlt
    have byWatch : wantedA ops.toList (S (q + 1 + k)).ts (L[q + 1 + k]).o = some true → Hits (L[q + 1 + k]) x.bit →
        ∃ B, (S (q + 1 + k + 1)).h.blks.get (S q).h.next = some B ∧ B.size = l.length ∧ B.esz = esz ∧ B.ro = false ∧ ∀ i, i < l.length → B.cells.get i = l[i]? := by
      intro hwz hh
      have := hwatch (q + 1 + k) _ (by omega) hz hwz hh
      rw [hyv] at this
      simp only [Watch.ok] at this
      split at this
      · rename_i B hB
        simp only [Bool.and_eq_true, Bool.not_eq_true'] at this
        obtain ⟨k1, k2, k3, k4⟩ := this
        refine ⟨B, hB, Nat.eq_of_beq_eq_true k1, Nat.eq_of_beq_eq_true k2, k3, fun i hi => ?_⟩
        split at k4
        · rename_i r hr
          have := eqL_spec k4
          subst this
          have := (Blk.row_spec _ _ _ _ hr).2 i _ (List.getElem?_eq_getElem hi)
          rw [Nat.zero_add] at this
          rw [this, List.getElem?_eq_getElem hi]
        · cases k4
      · cases this
    have same : (S (q + 1 + k + 1)).h = (S (q + 1 + k)).h →
        ∃ B, (S (q + 1 + k + 1)).h.blks.get (S q).h.next = some B ∧ B.size = l.length ∧ B.esz = esz ∧ B.ro = false ∧ ∀ i, i < l.length → B.cells.get i = l[i]? := by
      intro h; rw [h]; exact ih
    show ∃ B, (S (q + 1 + k + 1)).h.blks.get (S q).h.next = some B ∧ _
    by_cases hcz : cls (L[q + 1 + k]).o.op = .eff
    · rcases step1_cases (pa.step _ _ hz) with ⟨hwz, _⟩ | ⟨_, e⟩
      · refine byWatch hwz (.inl ⟨hcz, ?_⟩)
        cases hb : hasBit (L[q + 1 + k]).bef x.bit with
        | false => rfl
        | true =>
          have := I.dc _ _ hz (I.fbelow _ _ (by omega) hz hcz) _ hb
          rw [hun] at this; cases this
      · exact same (put_spec e).1
    · rcases pa.calm hz hcz with h | ⟨hca, hwz, _⟩
      · exact same h
      · exact byWatch hwz (.inr hca)

def cnt (n : Nat) (listed : Array Bool) : Nat := (List.range n).countP fun i => !listed.getD i false

theorem cnt_set {n i : Nat} {listed : Array Bool} (hi : i < n) (hl : listed.getD i false = false) (hb : i < listed.size) : cnt n listed = cnt n (listed.setIfInBounds i true) + 1 := by
  unfold cnt
  have hgd := fun j => getD_set (listed := listed) (j := j) hb
  induction n with
  | zero => omega
  | succ n ih =>
    rw [List.range_succ, List.countP_append, List.countP_append]
    by_cases h : i = n
    · subst h
      have e1 : (List.range i).countP (fun j => !(listed.setIfInBounds i true).getD j false) = (List.range i).countP (fun j => !listed.getD j false) := by
        apply List.countP_congr
        intro j hj
        have : j ≠ i := by have := List.mem_range.1 hj; omega
        rw [hgd, if_neg this]
      rw [e1]
      have e2 : [i].countP (fun j => !listed.getD j false) = 1 := by simp only [List.countP_cons, List.countP_nil]; rw [hl]; rfl
      have e3 : [i].countP (fun j => !(listed.setIfInBounds i true).getD j false) = 0 := by simp only [List.countP_cons, List.countP_nil]; rw [hgd, if_pos rfl]; rfl
      rw [e2, e3]
    · have := ih (by omega)
      have e2 : [n].countP (fun j => !(listed.setIfInBounds i true).getD j false) = [n].countP (fun j => !listed.getD j false) := by
        have hni : n ≠ i := fun e => h e.symm
        simp only [List.countP_cons, List.countP_nil, hgd, if_neg hni]
      rw [e2]; omega

theorem any_ok (hE : E.OK) (hcall : CallsOk E call) (hs : Sched ops L) (pa : Path E call ops L S) (hg : GOK E ι0) {Q : Exit → Act → World → Prop} (hQ : ∀ ι' a' w', SR ι' (S L.length) a' w' → Ext ι0 (S 0).h w0 ι' (S L.length).h w' → a'.defers = d0 → Q .normal a' w') :
    ∀ (fuel : Nat) (f : Nat) (listed : Array Bool) (a : Act) (w : World) (ι : Inj), Inv E ops L S ι0 w0 d0 f listed a w ι → cnt ops.size listed = fuel →
      wpAny E.P .any ops Q fuel listed a w := by
  intro fuel
  induction fuel with
  | zero =>
    intro f listed a w ι I hcnt
    have hall : ∀ i, i < ops.size → listed.getD i false = true := by
      intro i hi
      cases h : listed.getD i false with
      | true => rfl
      | false =>
        have := cnt_set hi h (by rw [I.sz]; exact hi)
        omega
    obtain ⟨h1, h2⟩ := I.done hs pa fun p x hx => hall x.bit (hs.lt p x hx)
    refine ⟨?_, hQ ι a w h1 h2 I.df⟩
    cases hr : Region.ready .any ops listed with
    | nil => rfl
    | cons i l =>
      have : i ∈ Region.ready .any ops listed := by rw [hr]; simp
      obtain ⟨q, x, hx, hb, _, hun, _⟩ := I.bef_of_ready hs pa this
      rw [hall x.bit (hs.lt q x hx)] at hun; cases hun
  | succ fuel ih =>
    intro f listed a w ι I hcnt
    refine ⟨fun hr => ?_, fun i hi => ?_⟩
    · obtain ⟨h1, h2⟩ := I.done hs pa (I.all_of_none hs pa hr)
      exact hQ ι a w h1 h2 I.df
    · obtain ⟨q, x, hx, hb, hop, hun, hbef⟩ := I.bef_of_ready hs pa hi
      have hql : q < L.length := (List.getElem?_eq_some_iff.1 hx).1
      have hfl := I.fle
      obtain ⟨hqf, hqe⟩ := I.place hs pa hx hun hbef
      have hbl : x.bit < listed.size := by rw [I.sz]; exact hs.lt q x hx
      have hcnt' : cnt ops.size (listed.setIfInBounds x.bit true) = fuel := by
        have := cnt_set (hs.lt q x hx) hun hbl; omega
      -- how the invariant goes on where the place of the next effect stays
      have stay : q ≠ f → ∀ (ι' : Inj) (w' : World) (v' : Value), ι.le ι' → R ι' (S f).h w' → Ext ι0 (S 0).h w0 ι' (S f).h w' → (∀ t, x.o.dst = some t → VR ι' (tmpV (S (q + 1)) t) v') →
          (∀ b m, ι' b = some m → ι b = some m ∨ b = (S q).h.next ∧ wantedA ops.toList (S q).ts x.o = some true ∧ cls x.o.op = .alloc) →
          wpAny E.P .any ops Q fuel (listed.setIfInBounds i true) (a.put x.o.dst v') w' := by
        intro hne ι' w' v' hle hm he hv hnew
        rw [← hb]
        refine ih f _ _ w' ι' (I.behind hs pa hx hun hbef hle hfl (fun p z hp hz hc _ => I.fbelow p z hp hz hc)
          (fun z hz => ⟨(I.fat z hz).1, fun e => hne e.symm, (I.fat z hz).2⟩) hm he hv ?_) hcnt'
        intro p z hz hpq hwz hcz hlz
        cases hn : ι' (S p).h.next with
        | none => rfl
        | some m =>
          exfalso
          rcases hnew _ m hn with h1 | ⟨h1, h2, h3⟩
          · rw [I.al p z hz hwz hcz hlz] at h1; cases h1
          · have hpl : p < L.length := (List.getElem?_eq_some_iff.1 hz).1
            rcases Nat.lt_or_ge p q with h4 | h4
            · have h5 := pa.laid hz hwz hcz
              have h6 := pa.next' (p := p + 1) (q := q) (by omega) (by omega)
              omega
            · have h5 := pa.laid hx h2 h3
              have h6 := pa.next' (p := q + 1) (q := p) (by omega) (by omega)
              omega
      -- and where this is the next effect
      have turn : q = f → ∀ (ι' : Inj) (w' : World) (v' : Value), ι.le ι' → R ι' (S (q + 1)).h w' → Ext ι0 (S 0).h w0 ι' (S (q + 1)).h w' →
          (∀ t, x.o.dst = some t → VR ι' (tmpV (S (q + 1)) t) v') → (∀ b m, ι' b = some m → ι b = some m ∨ (S q).h.next ≤ b) →
          wpAny E.P .any ops Q fuel (listed.setIfInBounds i true) (a.put x.o.dst v') w' := by
        intro heq ι' w' v' hle hm he hv hnew
        subst heq
        obtain ⟨f', g1, g2, g3, g4⟩ := next_eff L (L.length - (q + 1)) (q + 1) (by omega)
        obtain ⟨r1, x1⟩ := pa.ahead (f' - (q + 1)) (q + 1) (by omega) (fun p z h1 h2 hz => g3 p z h1 (by omega) hz) hm he
        rw [show q + 1 + (f' - (q + 1)) = f' by omega] at r1 x1
        rw [← hb]
        have hcx : cls x.o.op = .eff := (I.fat x hx).1
        refine ih f' _ _ w' ι' (I.behind hs pa hx hun hbef hle g2 ?_ ?_ r1 x1 hv ?_) hcnt'
        · intro p z hp hz hc hpq
          rcases Nat.lt_or_ge p q with h4 | h4
          · exact I.fbelow p z h4 hz hc
          · exact absurd hc (g3 p z (by omega) hp hz)
        · intro z hz
          refine ⟨g4 z hz, by omega, ?_⟩
          cases hl : listed.getD z.bit false with
          | false => rfl
          | true =>
            have := hs.effs f' z q x hz (by omega) hx hcx
            rw [I.dc f' z hz hl _ this] at hun; cases hun
        · intro p z hz hpq hwz hcz hlz
          have hpl : p < L.length := (List.getElem?_eq_some_iff.1 hz).1
          cases hn : ι' (S p).h.next with
          | none => rfl
          | some m =>
            exfalso
            rcases hnew _ m hn with h1 | h1
            · rw [I.al p z hz hwz hcz hlz] at h1; cases h1
            · rcases Nat.lt_or_ge p q with h4 | h4
              · have h5 := pa.laid hz hwz hcz
                have h6 := pa.next' (p := p + 1) (q := q) (by omega) (by omega)
                omega
              · have h6 := pa.next' (p := q + 1) (q := p) (by omega) (by omega)
                have h7 := hm.dom _ m hn
                omega
      unfold wpOp
      rw [hop]
      simp only
      have hval := I.eval hs pa hg hx hun hbef
      have hgi : GOK E ι := hg.mono I.ext.le
      rcases step1_cases (pa.step q x hx) with ⟨hw, hcases⟩ | ⟨hw, hput⟩
      · rw [if_pos (I.wanted hs pa hx hun hbef hw)]
        refine .inl ?_
        unfold Oper.wp
        cases hk : cls x.o.op with
        | eff =>
          have heq := hqe hk
          have hmem : R ι (S q).h w := heq ▸ I.mem
          have hext : Ext ι0 (S 0).h w0 ι (S q).h w := heq ▸ I.ext
          rcases hcases with ⟨v, h, ho, e⟩ | ⟨h, ho, e⟩ | ⟨fn, args, v, h, ho, hc, e⟩
          · obtain ⟨ι', v', w', k1, k2, k3, k4⟩ := op_ok hE hmem hval ho
            rw [k1, Oper.upon_value]
            obtain ⟨p1, p2, p3, _⟩ := put_spec e
            refine turn heq ι' w' v' k2.le (by rw [p1]; exact k3) (by rw [p1]; exact hext.trans k2) (fun t ht => by rw [p3, if_pos ht]; exact k4) k2.newb
          · obtain ⟨ι', w', k1, k2, k3⟩ := op_ok hE hmem hval ho
            rw [k1, Oper.upon_skip]
            obtain ⟨p1, p2, p3, _⟩ := put_spec e
            refine turn heq ι' w' undef k2.le (by rw [p1]; exact k3) (by rw [p1]; exact hext.trans k2) (fun t ht => by rw [p3, if_pos ht]; exact undef_rel ι') k2.newb
          · obtain ⟨args', k1, k2⟩ := op_ok hE hmem hval ho
            rw [k1, Oper.upon_enter]
            refine (hcall fn args (S q).h v h hc ι w args' hmem hgi k2).mono ?_
            rintro en w' ⟨ι', v', rfl, m1, m2, m3⟩
            obtain ⟨p1, p2, p3, _⟩ := put_spec e
            exact turn heq ι' w' v' m1.le (by rw [p1]; exact m2) (by rw [p1]; exact hext.trans m1) (fun t ht => by rw [p3, if_pos ht]; exact m3) m1.newb
        | pure =>
          have hne : q ≠ f := by
            intro e; subst e
            have := (I.fat x hx).1
            rw [hk] at this; cases this
          rcases hcases with ⟨v, h, ho, e⟩ | ⟨h, ho, e⟩ | ⟨fn, args, v, h, ho, hc, e⟩
          all_goals (obtain ⟨u, h1, h2⟩ := op_pure hk ho)
          · cases h1
            obtain ⟨ι', v', w', k1, k2, k3, k4⟩ := op_ok hE I.mem hval (h2 (S f).h)
            rw [k1, Oper.upon_value]
            obtain ⟨p1, p2, p3, _⟩ := put_spec e
            refine stay hne ι' w' v' k2.le k3 (I.ext.trans k2) (fun t ht => by rw [p3, if_pos ht]; exact k4) (fun b m hm => ?_)
            rcases k2.newb b m hm with h5 | h5
            · exact .inl h5
            · have := k3.dom b m hm; omega
          · cases h1
          · cases h1
        | read =>
          have hne : q ≠ f := by
            intro e; subst e
            have := (I.fat x hx).1
            rw [hk] at this; cases this
          rcases hcases with ⟨v, h, ho, e⟩ | ⟨h, ho, e⟩ | ⟨fn, args, v, h, ho, hc, e⟩
          all_goals (obtain ⟨u, h1⟩ := op_read hk ho)
          · cases h1
            have h2 := I.read pa hx hun hw hk ho (f - (q + 1)) (by omega)
            rw [show q + 1 + (f - (q + 1)) = f by omega] at h2
            obtain ⟨ι', v', w', k1, k2, k3, k4⟩ := op_ok hE I.mem hval h2
            rw [k1, Oper.upon_value]
            obtain ⟨p1, p2, p3, _⟩ := put_spec e
            refine stay hne ι' w' v' k2.le k3 (I.ext.trans k2) (fun t ht => by rw [p3, if_pos ht]; exact k4) (fun b m hm => ?_)
            rcases k2.newb b m hm with h5 | h5
            · exact .inl h5
            · have := k3.dom b m hm; omega
          · cases h1
          · cases h1
        | alloc =>
          have hne : q ≠ f := by
            intro e; subst e
            have := (I.fat x hx).1
            rw [hk] at this; cases this
          rcases hcases with ⟨v, h, ho, e⟩ | ⟨h, ho, e⟩ | ⟨fn, args, v, h, ho, hc, e⟩
          all_goals (obtain ⟨l, l', esz, te, mk, h1, h2, h3, h4⟩ := op_alloc (ι := ι) (w := w) hE hk hval ho)
          · cases h1
            rw [h4, Oper.upon_value]
            obtain ⟨p1, p2, p3, _⟩ := put_spec e
            have hst : (S (q + 1)).h = (S q).h.alloc l esz := p1
            obtain ⟨B, b1, b2, b3, b4, b5⟩ := I.fresh pa hx hun hw hk hst (f - (q + 1)) (by omega)
            rw [show q + 1 + (f - (q + 1)) = f by omega] at b1
            have hnone := I.al q x hx hw hk hun
            have hltn : (S q).h.next < (S f).h.next := by
              have h5 := pa.laid hx hw hk
              have h6 := pa.next' (p := q + 1) (q := f) (by omega) hfl
              omega
            have r1 := I.mem.late hnone hltn b1 b2 b5 h3 [] te
            rw [List.append_nil, b3, ← h3.1] at r1
            have hge : (S 0).h.next ≤ (S q).h.next := pa.next' (Nat.zero_le _) (by omega)
            have x1 := I.ext.late2 (m := ⟨w.heap.size, 0, l.length, esz⟩) hnone rfl (.cells l'.toArray te) hge
            have hadd : (ι.add (S q).h.next ⟨w.heap.size, 0, l.length, esz⟩) (S q).h.next = some ⟨w.heap.size, 0, l.length, esz⟩ := Inj.add_same _ _ _
            refine stay hne _ _ _ (Inj.le_add _ hnone) r1 x1 (fun t ht => by rw [p3, if_pos ht]; exact h2.rel _ _ _ hadd) (fun b m hm => ?_)
            unfold Inj.add at hm
            split at hm
            · rename_i hbb; exact .inr ⟨hbb, hw, hk⟩
            · exact .inl hm
          · cases h1
          · cases h1
      · rw [if_neg (by rw [I.wanted hs pa hx hun hbef hw]; decide)]
        obtain ⟨p1, p2, p3, _⟩ := put_spec hput
        by_cases heq : q = f
        · exact turn heq ι w undef (Inj.le_refl ι) (by rw [p1, heq]; exact I.mem) (by rw [p1, heq]; exact I.ext) (fun t ht => by rw [p3, if_pos ht]; exact undef_rel ι) (fun b m h => .inl h)
        · exact stay heq ι w undef (Inj.le_refl ι) I.mem I.ext (fun t ht => by rw [p3, if_pos ht]; exact undef_rel ι) (fun b m h => .inl h)
end

theorem draws_ok {E : Env} (hE : E.OK) : DrawsOk E (draws E) := by
  intro call hcall ops st st' h ι a w Q s hg hQ id
  unfold draws at h
  split at h
  · rename_i L hL
    have hs := sched_of hL
    obtain ⟨S, s0, sl, s1, _, s3, s4⟩ := drun_spec L [] st st' h
    have pa : Path E call ops L S := ⟨s1, s3, s4⟩
    obtain ⟨f, g1, g2, g3, g4⟩ := next_eff L L.length 0 (by omega)
    have r0 : R ι (S 0).h w.drew := by rw [s0]; exact s.mem.drew
    have x0 : Ext ι (S 0).h w ι (S 0).h w.drew := Ext.drew ι _ w
    obtain ⟨r1, x1⟩ := pa.ahead f 0 (by omega) (fun q x _ h2 hx => g3 q x (by omega) (by omega) hx) r0 x0
    rw [Nat.zero_add] at r1 x1
    refine wp_region_any hE.mixed ?_
    have hfalse : ∀ i, (Array.replicate ops.size false).getD i false = false := by intro i; rw [Array.getD_eq_getD_getElem?, Array.getElem?_replicate]; split <;> rfl
    refine any_ok hE hcall hs pa hg (d0 := a.defers) (fun ι' a' w' k1 k2 k3 => hQ ι' a' w' (by rw [← sl]; exact k1) (by rw [← sl, ← s0]; exact k2) k3) ops.size f (Array.replicate ops.size false) a w.drew ι ?_ ?_
    · refine ⟨by simp, fun p x _ hl => ?_, g2, fun p x hp hx hc => absurd hc (g3 p x (by omega) hp hx), fun x hx => ⟨g4 x hx, hfalse _⟩, r1, x1, rfl, by rw [s.size, s0], fun t => ?_, ?_⟩
      · rw [hfalse] at hl; cases hl
      · exact ⟨0, by omega, .inl rfl, fun q x _ _ _ => hfalse _, by rw [s0]; exact s.tmps t⟩
      · intro p x hx hw hc _
        refine r0.next _ (pa.next' (Nat.zero_le _) ?_)
        exact Nat.le_of_lt (List.getElem?_eq_some_iff.1 hx).1
    · unfold cnt
      have : (List.range ops.size).countP (fun i => !(Array.replicate ops.size false).getD i false) = (List.range ops.size).countP (fun _ => true) := by
        apply List.countP_congr
        intro i _
        simp only [hfalse, Bool.not_false]
      rw [this, List.countP_true, List.length_range]
  · cases h

/-- THE SMALL MACHINE IS SOUND: what its call comes to, the model's call comes to -/
theorem run_ok {E : Env} (hE : E.OK) {fuel f : Nat} {args : List Value} {h h' : Heap} {v : Value} (e : run E fuel f args h = some (v, h')) {ι : Inj} {w : World} {args' : Array Value}
    (r : R ι h w) (hg : GOK E ι) (hl : LR ι args args'.toList) :
    Calls E.P f args' w fun en w' => ∃ ι' v', en = .returned v' ∧ Ext ι h w ι' h' w' ∧ R ι' h' w' ∧ VR ι' v v' :=
  callWith_ok hE (exec_ok hE (draws_ok hE) fuel).1 f args h v h' e ι w args' r hg hl
end Go.AM
