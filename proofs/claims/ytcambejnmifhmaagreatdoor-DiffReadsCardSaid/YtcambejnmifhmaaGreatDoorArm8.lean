/- Drawn regions: the invariant, and that every order comes to the same.
   Drawn regions: sound.
   Checks of an environment, by evaluation.
   What makes new memory alone; a closed run stands for a call.
   The chapter's example, by evaluation.
   Printed by chk.py. The environment is as it is asked.
   utf8.ValidString, by its contract; the chapter's example, by its run. What the evaluator answers, the program does.
   Specs: cells are read.
   Specs: cells are read, on.
   Lists in memory.
   Specs: plain.Get; cells that are compared.
   Specs: what cells may be, when they are equal. -/
import Derived.Test.YtcambejnmifhmaaGreatDoorArm7
import Derived.Test.YtcambejnmifhmaaGreatDoorArm4
import Derived.Below
import Derived.KernelRfl
import Derived.Shelf.Unicode.ValidAny
namespace Go.Arm
variable {R : Type} {E : Env} {P : Program} {C : CF} {L : LF}

def Held (all : List Oper) (bf : List Nat) (tr : Nat → Rec) (D : Nat → Bool) (p j : Nat) : Prop :=
  D j = true ∧ isFlo all j ∧ (tr (j + 1)).out.isSome = true ∧ ∀ e, isAct all e → e < p → (tr (e + 1)).out.isSome = true → (bf.getD e 0).testBit j = false
def FSet (all : List Oper) (bf : List Nat) (base : Nat) (tr : Nat → Rec) (D : Nat → Bool) (p : Nat) (f : Nat) : Prop := ∃ j, Held all bf tr D p j ∧ f = base + fnum all j
def NSet (all : List Oper) (base : Nat) (D : Nat → Bool) (f : Nat) : Prop := ∃ j, isFlo all j ∧ D j = false ∧ f = base + fnum all j

structure Inv (E : Env) (all : List Oper) (bf : List Nat) (base : Nat) (tr : Nat → Rec) (β0 : Beta) (S : Sc) (w0 : World) (a0 : Act) (D : Nat → Bool) (a : Act) (w : World) (β : Beta) (p : Nat) : Prop where
  le : β0.le β
  acts : ∀ e, isAct all e → (D e = true ↔ e < p)
  ple : p ≤ all.length
  tmr : TmR β (slotsF all tr D all.length) a
  rh : RH E β (tr p).h (cutX S β (FSet all bf base tr D p) (NSet all base D)) w
  flo : ∀ j, Held all bf tr D p j → ∃ x, β (base + fnum all j) = some x ∧ BlkOK E β S w x (tr (j + 1)).blk
  fr : Fr S w0 w
  defers : a.defers = a0.defers
  size : a.tmps.size = a0.tmps.size
  unset : ∀ (i : Nat) (o : Oper) (g : Nat) (wn : Bool) (s : Tmp), all[i]? = some o → o.guard = some (g, wn) → gslot all g = some s → D g = true → (tr (g + 1)).out = none → slotB a s = none
  closed : ∀ i, D i = true → ∀ j, (bf.getD i 0).testBit j = true → D j = true

/-- what is fixed of a region -/
structure Reg (E : Env) (C : CF) (L : LF) (ops : Array Oper) (bf : List Nat) (base : Nat) (tr : Nat → Rec) (S : Sc) (a0 : Act) : Prop where
  chk : DrawC ops.toList bf
  good : Good E C L ops.toList bf base tr ops.toList.length
  flo0 : (tr 0).flo = []
  tms : (tr 0).tm.length ≤ a0.tmps.size
  old : ∀ b, S.hol b ∨ S.held b → b < base
  closed : ∀ D : Nat → Prop, (∀ i o, ops.toList[i]? = some o → D i → ∀ e ∈ o.after, Region.binds .any e = true → D e.on) → ∀ i, D i → ∀ j, (bf.getD i 0).testBit j = true → D j

section
variable {ops : Array Oper} {bf : List Nat} {base : Nat} {tr : Nat → Rec} {β0 : Beta} {S : Sc} {w0 : World} {a0 : Act}

/-- an operation that may come next: its slots are as in the text -/
theorem Reg.slots (hR : Reg E C L ops bf base tr S a0) {D : Nat → Bool} (hcl : ∀ i, D i = true → ∀ j, (bf.getD i 0).testBit j = true → D j = true) {i : Nat} {o : Oper} (ho : ops.toList[i]? = some o) (hD : D i = false)
    (hbf : ∀ j, (bf.getD i 0).testBit j = true → D j = true) {t : Tmp} (ht : t ∈ looks o) : lget (tr i).tm t = lget (slotsF ops.toList tr D ops.toList.length) t := by
  have hil : i < ops.toList.length := (List.getElem?_eq_some_iff.1 ho).1
  have h1 := slots_text hR.good (D := D) (t := t) i (by omega) fun j q hj hq hd => hbf j (hR.chk.clash i o j q ho hj hq (by unfold clash; simp [hd, ht]))
  have h2 := slots_tail (all := ops.toList) (tr := tr) (D := D) (t := t) (i := i) (ops.toList.length - i) fun j q h3 h4 hq hd => by
    by_cases hji : j = i
    · subst hji; exact hD
    · cases hDj : D j with
      | false => rfl
      | true =>
        have := hcl j hDj i (hR.chk.clash j q i o hq (by omega) ho (by unfold clash; simp [hd, ht]))
        rw [hD] at this; cases this
  rw [show i + (ops.toList.length - i) = ops.toList.length by omega] at h2
  rw [h2, h1]

theorem Reg.opv (hR : Reg E C L ops bf base tr S a0) {D : Nat → Bool} (hcl : ∀ i, D i = true → ∀ j, (bf.getD i 0).testBit j = true → D j = true) {i : Nat} {o : Oper} (ho : ops.toList[i]? = some o) (hD : D i = false)
    (hbf : ∀ j, (bf.getD i 0).testBit j = true → D j = true) : ∀ x ∈ o.op.operands, opv E (tr i).tm x = opv E (slotsF ops.toList tr D ops.toList.length) x := by
  intro x hx
  cases x with
  | tmp t => exact hR.slots hcl ho hD hbf (List.mem_filterMap.2 ⟨.tmp t, Array.mem_toList_iff.2 hx, rfl⟩)
  | _ => rfl

theorem Reg.wanted (hR : Reg E C L ops bf base tr S a0) {D : Nat → Bool} {a : Act} {w : World} {β : Beta} {p : Nat} (inv : Inv E ops.toList bf base tr β0 S w0 a0 D a w β p) {i : Nat} {o : Oper} (ho : ops.toList[i]? = some o) (hD : D i = false)
    (hbf : ∀ j, (bf.getD i 0).testBit j = true → D j = true) : Region.wanted o (yielded ops a.tmps) = (tr (i + 1)).out.isSome := by
  have hil : i < ops.toList.length := (List.getElem?_eq_some_iff.1 ho).1
  have hg := hR.good.guard i o hil ho
  cases hgd : o.guard with
  | none =>
    rw [hgd] at hg
    simp only [GuardR] at hg
    rw [hg]
    simp [Region.wanted, hgd]
  | some jw =>
    obtain ⟨g, wn⟩ := jw
    rw [hgd] at hg
    obtain ⟨s, hs, hg⟩ := hg
    obtain ⟨hbit, s', hs', huniq⟩ := hR.chk.guard i o g wn ho hgd
    rw [hs] at hs'; cases hs'
    have hDg := hbf g hbit
    have hgi := hR.chk.bits _ _ hbit
    obtain ⟨og, hog, hods⟩ := Option.bind_eq_some_iff.1 hs
    rw [wanted_eq hgd hs]
    rcases hg with ⟨b, hb, hout⟩ | ⟨hout, q, oq, hq, hoq, hdq, hqo⟩
    · have h1 := slots_text hR.good (D := D) (t := s) i (by omega) fun j q hj hq hd => by
        rw [huniq j g q og hq hog hd hods]; exact hDg
      have h2 := slots_tail (all := ops.toList) (tr := tr) (D := D) (t := s) (i := i) (ops.toList.length - i) fun j q h3 h4 hq hd => by
        have := huniq j g q og hq hog hd hods
        omega
      rw [show i + (ops.toList.length - i) = ops.toList.length by omega] at h2
      have h3 := inv.tmr s
      rw [h2, h1, hb] at h3
      rw [slotB_of h3.bool_inv, hout]
      cases b <;> cases wn <;> rfl
    · have : q = g := huniq q g oq og hoq hog hdq hods
      subst this
      rw [inv.unset i o q wn s ho hgd hs hDg hqo, hout]
      rfl

theorem slotB_undef (a : Act) (s : Tmp) : slotB (a.put (some s) undef) s = none := by
  unfold slotB
  by_cases hlt : s < a.tmps.size
  · simp [Act.put, hlt, undef]
  · simp [Act.put, hlt]

theorem Reg.next (hR : Reg E C L ops bf base tr S a0) {D D' : Nat → Bool} {a : Act} {w : World} {β : Beta} {p : Nat} (inv : Inv E ops.toList bf base tr β0 S w0 a0 D a w β p) {i : Nat} {o : Oper} (ho : ops.toList[i]? = some o) (hD : D i = false)
    (hbf : ∀ j, (bf.getD i 0).testBit j = true → D j = true) (hD' : ∀ j, D' j = (D j || j == i)) {β' : Beta} {v' : Value} {w' : World} {p' : Nat} (hle : β.le β') (hv : VR β' ((tr (i + 1)).out.getD junk) v') (hu : (tr (i + 1)).out = none → v' = undef)
    (hacts : ∀ e, isAct ops.toList e → (D' e = true ↔ e < p')) (hple : p' ≤ ops.toList.length) (hrh : RH E β' (tr p').h (cutX S β' (FSet ops.toList bf base tr D' p') (NSet ops.toList base D')) w')
    (hflo : ∀ j, Held ops.toList bf tr D' p' j → ∃ x, β' (base + fnum ops.toList j) = some x ∧ BlkOK E β' S w' x (tr (j + 1)).blk) (hfr : Fr S w w') : Inv E ops.toList bf base tr β0 S w0 a0 D' (a.put o.dst v') w' β' p' := by
  have hs : TmS (slotsF ops.toList tr D ops.toList.length) a := by
    unfold TmS
    rw [slotsF_length, inv.size]
    exact hR.tms
  refine ⟨Beta.le_trans inv.le hle, hacts, hple, fun t => ?_, hrh, hflo, inv.fr.trans hfr, (defers_put _ _ _).trans inv.defers, (size_put _ _ _).trans inv.size, fun i2 o2 g wn s ho2 hg2 hgs hDg hout => ?_, fun k hk j hj => ?_⟩
  · rw [slots_add ho hD hD' fun j q t hj hq hd hod => by
      cases hDj : D j with
      | false => rfl
      | true =>
        have := inv.closed j hDj i (hR.chk.clash j q i o hq hj ho (by unfold clash; simp [hd, hod]))
        rw [hD] at this; cases this]
    exact (inv.tmr.mono hle).put hs o.dst hv t
  · obtain ⟨og, hog, hods⟩ := Option.bind_eq_some_iff.1 hgs
    obtain ⟨_, s', hs', huniq⟩ := hR.chk.guard i2 o2 g wn ho2 hg2
    rw [hgs] at hs'; cases hs'
    by_cases hgi : g = i
    · subst hgi
      rw [ho] at hog; cases hog
      rw [hods, hu hout]
      exact slotB_undef a s
    · have hDg2 : D g = true := by
        rw [hD'] at hDg
        simpa [hgi] using hDg
      rw [slotB_congr (getD_put_ne a o.dst v' s fun e => hgi (huniq g i og o hog ho hods e)) (size_put a _ _)]
      exact inv.unset i2 o2 g wn s ho2 hg2 hgs hDg2 hout
  · rw [hD'] at hk ⊢
    simp only [Bool.or_eq_true, beq_iff_eq] at hk ⊢
    rcases hk with hk | rfl
    · exact .inl (inv.closed k hk j hj)
    · exact .inl (hbf j hj)

/-- where an act that may come next stands -/
theorem Reg.pos (hR : Reg E C L ops bf base tr S a0) {D : Nat → Bool} {a : Act} {w : World} {β : Beta} {p : Nat} (inv : Inv E ops.toList bf base tr β0 S w0 a0 D a w β p) {i : Nat} (hi : isAct ops.toList i) (hD : D i = false)
    (hbf : ∀ j, (bf.getD i 0).testBit j = true → D j = true) : p ≤ i ∧ (∀ e, isAct ops.toList e → e < i → e < p) ∧ (tr i).h = (tr p).h := by
  have hpi : p ≤ i := by
    rcases Nat.lt_or_ge i p with h | h
    · have := (inv.acts i hi).2 h
      rw [hD] at this; cases this
    · exact h
  have hch : ∀ e, isAct ops.toList e → e < i → e < p := fun e he hlt => by
    have := hR.chk.chain (fun j => D j = true ∨ j = i) (fun k hk j hj => by
      rcases hk with hk | rfl
      · exact .inl (inv.closed k hk j hj)
      · exact .inl (hbf j hj)) i hi (.inr rfl) e he hlt
    rcases this with h | h
    · exact (inv.acts e he).1 h
    · omega
  refine ⟨hpi, hch, ?_⟩
  obtain ⟨o, ho, _⟩ := hi
  have hil : i < ops.toList.length := (List.getElem?_eq_some_iff.1 ho).1
  have := hR.good.same_h (p := p) (i - p) (by omega) fun e he h1 h2 => by
    have := hch e he (by omega)
    omega
  rwa [show p + (i - p) = i by omega] at this

theorem cut_sub {β β' : Beta} {F F' N N' : Nat → Prop} {G : H} {w : World} (hle : β.le β') (hF : ∀ f, F' f → F f ∧ ∃ x, β f = some x) (hN : ∀ f, N' f → N f) (r : RH E β' G (cutX S β F N) w) : RH E β' G (cutX S β' F' N') w := by
  refine r.sub (fun k hk => ⟨hk.1, fun f x hf hx => ?_⟩) (fun b hb => hb.imp id fun h => (hF b h).1) (fun b hb => hb.imp id (hN b))
  obtain ⟨h1, y, hy⟩ := hF f hf
  have := hle f y hy
  rw [hx] at this; cases this
  exact hk.2 f x h1 hy

theorem flo_keep {β β' : Beta} {F N : Nat → Prop} {w w' : World} (hle : β.le β') (hfr : Fr (cutX S β F N) w w') {f : Nat} {b : Blk} (hF : F f) (h : ∃ x, β f = some x ∧ BlkOK E β S w x b) : ∃ x, β' f = some x ∧ BlkOK E β' S w' x b := by
  obtain ⟨x, hx, hb⟩ := h
  exact ⟨x, hle f x hx, hb.keep hle (fun s => s) (hfr.keep x.blk fun hk => hk.2 f x hF hx rfl)⟩

theorem Reg.step (hE : EnvOK P E) (hC : CallsOK P E C) (hL : RoundsOK P E L) (hR : Reg E C L ops bf base tr S a0) {D D' : Nat → Bool} {a : Act} {w : World} {β : Beta} {p : Nat} (inv : Inv E ops.toList bf base tr β0 S w0 a0 D a w β p) {i : Nat} {o : Oper} (ho : ops.toList[i]? = some o) (hD : D i = false)
    (hbf : ∀ j, (bf.getD i 0).testBit j = true → D j = true) (hD' : ∀ j, D' j = (D j || j == i)) {Kn : Act → World → Prop} {Q : Exit → Act → World → Prop} (hK : ∀ a' w' β' p', Inv E ops.toList bf base tr β0 S w0 a0 D' a' w' β' p' → Kn a' w') (ro : Option Nat) : wpOpIn (FW ro) 0 P ops Q i Kn a w := by
  have ho' : ops[i]? = some o := by rw [← Array.getElem?_toList]; exact ho
  have hil : i < ops.toList.length := (List.getElem?_eq_some_iff.1 ho).1
  have hstep := hR.good.step i o hil ho
  unfold wpOpIn
  simp only [ho']
  rw [hR.wanted inv ho hD hbf]
  -- D' tells more than D by i alone
  have hDD : ∀ j, j ≠ i → D' j = D j := fun j hj => by rw [hD']; simp [hj]
  have hDi : D' i = true := by rw [hD']; simp
  -- acts, where i is none
  have actsN : ¬ cls o.op = 3 → ∀ e, isAct ops.toList e → (D' e = true ↔ e < p) := fun hn e he => by
    have : e ≠ i := fun hei => by
      subst hei
      obtain ⟨o2, ho2, hc⟩ := he
      rw [ho] at ho2; cases ho2
      exact hn hc
    rw [hDD e this]
    exact inv.acts e he
  have actsY : isAct ops.toList i → ∀ e, isAct ops.toList e → (D' e = true ↔ e < i + 1) := fun hi e he => by
    obtain ⟨h1, h2, _⟩ := hR.pos inv hi hD hbf
    by_cases hei : e = i
    · subst hei; simp [hDi]
    · rw [hDD e hei, inv.acts e he]
      constructor
      · intro h; omega
      · intro h; exact h2 e he (by omega)
  -- which are held, where i is no act and no float that is made
  have heldN : ¬ cls o.op = 3 → ¬ (cls o.op = 2 ∧ (tr (i + 1)).out.isSome = true) → ∀ j, Held ops.toList bf tr D' p j → Held ops.toList bf tr D p j := fun hn hf j hj => by
    have : j ≠ i := fun hji => by
      subst hji
      obtain ⟨o2, ho2, hc⟩ := hj.2.1
      rw [ho] at ho2; cases ho2
      exact hf ⟨hc, hj.2.2.1⟩
    exact ⟨by rw [← hDD j this]; exact hj.1, hj.2⟩
  have nset : ∀ f, NSet ops.toList base D' f → NSet ops.toList base D f := fun f ⟨j, h1, h2, h3⟩ => by
    refine ⟨j, h1, ?_, h3⟩
    rw [hD'] at h2
    simp at h2
    exact h2.1
  -- the cases where memory is read, at most
  have pure : ∀ v, (tr (i + 1)).out = some v → ¬ cls o.op = 3 → ¬ cls o.op = 2 → stepV E C L o (tr i).tm (tr p).h = some (v, (tr p).h) → o.wpIn (FW ro) 0 P a w Kn Q := by
    intro v hout h3 h2 hv
    have hk : stepK E C L o (slotsF ops.toList tr D ops.toList.length) (tr p).h (fun v h' => some (v, h')) = some (v, (tr p).h) := by
      rw [← stepK_congr (hR.opv inv.closed ho hD hbf)]; exact hv
    obtain ⟨v1, h1, he, hw⟩ := step_wp hE hC hL hk
    cases he
    refine hw ro β _ w a inv.tmr inv.rh _ _ fun β' v' w' hle hvr r' hfr => hK _ _ β' p (hR.next inv ho hD hbf hD' hle (by rw [hout]; exact hvr) (fun h => by rw [hout] at h; cases h) (actsN h3) inv.ple ?_ ?_ (hfr.weaken fun k hk => hk.1))
    · refine cut_sub hle (fun f ⟨j, hj, hf⟩ => ?_) nset r'
      have hj := heldN h3 (fun h => h2 h.1) j hj
      obtain ⟨x, hx, _⟩ := inv.flo j hj
      exact ⟨⟨j, hj, hf⟩, x, by rw [hf]; exact hx⟩
    · intro j hj
      have hj := heldN h3 (fun h => h2 h.1) j hj
      exact flo_keep hle hfr ⟨j, hj, rfl⟩ (inv.flo j hj)
  cases hout : (tr (i + 1)).out with
  | none =>
    -- it is left out
    simp only [Option.isSome_none, Bool.false_eq_true, if_false]
    refine ⟨fun _ _ => trivial, ?_⟩
    have hnh := hstep.none hout
    by_cases h3 : cls o.op = 3
    · have hi : isAct ops.toList i := ⟨o, ho, h3⟩
      obtain ⟨q1, q2, q3⟩ := hR.pos inv hi hD hbf
      have held : ∀ j, Held ops.toList bf tr D' (i + 1) j → Held ops.toList bf tr D p j := fun j hj => by
        have : j ≠ i := fun hji => by
          subst hji
          have := hj.2.2.1
          rw [hout] at this; cases this
        exact ⟨by rw [← hDD j this]; exact hj.1, hj.2.1, hj.2.2.1, fun e he hlt ho => hj.2.2.2 e he (by omega) ho⟩
      refine hK _ _ β (i + 1) (hR.next inv ho hD hbf hD' (Beta.le_refl β) (by rw [hout]; exact .junk _) (fun _ => rfl) (actsY hi) (by omega) ?_ ?_ (Fr.refl S w))
      · rw [hnh.1, q3]
        refine cut_sub (Beta.le_refl β) (fun f ⟨j, hj, hf⟩ => ?_) nset inv.rh
        obtain ⟨x, hx, _⟩ := inv.flo j (held j hj)
        exact ⟨⟨j, held j hj, hf⟩, x, by rw [hf]; exact hx⟩
      · intro j hj
        exact inv.flo j (held j hj)
    · have held := heldN h3 (fun h => by rw [hout] at h; cases h.2)
      refine hK _ _ β p (hR.next inv ho hD hbf hD' (Beta.le_refl β) (by rw [hout]; exact .junk _) (fun _ => rfl) (actsN h3) inv.ple ?_ ?_ (Fr.refl S w))
      · refine cut_sub (Beta.le_refl β) (fun f ⟨j, hj, hf⟩ => ?_) nset inv.rh
        obtain ⟨x, hx, _⟩ := inv.flo j (held j hj)
        exact ⟨⟨j, held j hj, hf⟩, x, by rw [hf]; exact hx⟩
      · intro j hj
        exact inv.flo j (held j hj)
  | some v =>
    simp only [Option.isSome_some, if_true]
    rcases cls_le o.op with h | h | h | h
    · exact pure v hout (by omega) (by omega) ((hstep.c0 v hout h).1 _)
    · refine pure v hout (by omega) (by omega) (hR.good.reads i o v hil ho h hout p inv.ple ⟨fun e he hbt => ?_, fun e he hlt => ?_⟩)
      · exact (inv.acts e he).1 (hbf e hbt)
      · cases hbt : (bf.getD e 0).testBit i with
        | false => rfl
        | true =>
          have := inv.closed e ((inv.acts e he).2 hlt) i hbt
          rw [hD] at this; cases this
    · -- a float
      obtain ⟨hfv, hfh, _⟩ := hstep.c2 v hout h
      rw [floatV_congr (hR.opv inv.closed ho hD hbf)] at hfv
      obtain ⟨_, hfw⟩ := float_ok hE hfv
      have hfi : isFlo ops.toList i := ⟨o, ho, h⟩
      have hN : NSet ops.toList base D (base + fnum ops.toList i) := ⟨i, hfi, hD, rfl⟩
      have hid := inv.rh.hol _ (.inr hN)
      obtain ⟨x, o', v', hx, hrun, hvr, hbk⟩ := hfw β _ _ w a inv.tmr inv.rh hid.2
      have hle := Beta.le_set (β := β) x hid.2
      have hsize : S w.heap.size := (inv.rh.up _ (Nat.le_refl _)).1
      have heldI : ∀ j, Held ops.toList bf tr D' p j → j = i ∨ Held ops.toList bf tr D p j := fun j hj => by
        by_cases hji : j = i
        · exact .inl hji
        · exact .inr ⟨by rw [← hDD j hji]; exact hj.1, hj.2⟩
      refine ⟨fun _ _ => trivial, ?_⟩
      rw [Oper.semAt_eq _ _ _ (fun c e => by rw [e] at h; simp [cls] at h), hrun]
      refine hK _ _ (β.set (base + fnum ops.toList i) x) p (hR.next inv ho hD hbf hD' hle (by rw [hout]; exact hvr) (fun h => by rw [hout] at h; cases h) (actsN (by omega)) inv.ple ?_ ?_ (Fr.alloc w o' fun k hk => (inv.rh.up k hk).1))
      · refine inv.rh.float (.inr hN) hx (fun k hk hne => ⟨hk.1, fun f y ⟨j, hj, hf⟩ hy => ?_⟩) (fun b hb => ?_) (fun b hb => ?_)
        · by_cases hfi2 : f = base + fnum ops.toList i
          · rw [hfi2, Beta.set_same] at hy; cases hy
            rw [hx]; exact Ne.symm hne
          · rw [Beta.set_ne _ _ _ _ hfi2] at hy
            rcases heldI j hj with rfl | hj
            · exact absurd hf hfi2
            · exact hk.2 f y ⟨j, hj, hf⟩ hy
        · rcases hb with hb | ⟨j, hj, hf⟩
          · exact .inr (.inl hb)
          · rcases heldI j hj with rfl | hj
            · exact .inl hf
            · exact .inr (.inr ⟨j, hj, hf⟩)
        · rcases hb with hb | ⟨j, h1, h2, h3⟩
          · have := hR.old b (.inl hb)
            exact ⟨.inl hb, by omega⟩
          · have hji : j ≠ i := fun e => by rw [e, hDi] at h2; cases h2
            refine ⟨.inr ⟨j, h1, by rw [← hDD j hji]; exact h2, h3⟩, fun e => hji (fnum_inj h1 hfi (by omega))⟩
      · intro j hj
        rcases heldI j hj with rfl | hj
        · exact ⟨x, Beta.set_same _ _ _, hbk S hsize⟩
        · obtain ⟨y, hy, hb⟩ := inv.flo j hj
          exact ⟨y, hle _ _ hy, hb.keep hle (fun s => s) (heap_alloc_old _ _ _ (inv.rh.lt _ y hy))⟩
    · -- an act
      obtain ⟨hsv, _⟩ := hstep.c3 v hout h
      have hi : isAct ops.toList i := ⟨o, ho, h⟩
      obtain ⟨q1, q2, q3⟩ := hR.pos inv hi hD hbf
      rw [q3] at hsv
      have hmem := hR.good.flo_mem hR.chk.bits hR.flo0 i (by omega)
      have hap := hR.good.flo_apart hR.chk.bits hR.flo0 i (by omega)
      have r1 := layF_rh (m := bf.getD i 0) (all := false) (tr i).flo (tr p).h _ inv.rh (fun f ⟨j, hj, hf⟩ hs => by have := hR.old f (.inr hs); omega) hap fun x hx hsel => by
        obtain ⟨j, h1, h2, h3, h4, h5⟩ := (hmem x).1 hx
        rw [h5] at hsel ⊢
        simp only [Bool.false_or] at hsel
        have hj : Held ops.toList bf tr D p j := ⟨hbf j hsel, h2, h3, fun e he hlt ho => h4 e he (by omega) ho⟩
        obtain ⟨y, hy, hb⟩ := inv.flo j hj
        refine ⟨⟨j, hj, rfl⟩, y, hy, hb, ?_⟩
        intro hh
        simp only at hh
        rw [hh] at hb
        exact hb
      have hk : stepK E C L o (slotsF ops.toList tr D ops.toList.length) (layF (bf.getD i 0) false (tr i).flo (tr p).h).1 (fun v h' => some (v, h')) = some (v, (tr (i + 1)).h) := by
        rw [← stepK_congr (hR.opv inv.closed ho hD hbf)]; exact hsv
      obtain ⟨v1, h1, he, hw⟩ := step_wp hE hC hL hk
      cases he
      have held : ∀ j, Held ops.toList bf tr D' (i + 1) j → Held ops.toList bf tr D p j ∧ ¬ ∃ x ∈ (tr i).flo, (false || (bf.getD i 0).testBit x.1) = true ∧ x.2.1 = base + fnum ops.toList j := fun j hj => by
        have hji : j ≠ i := fun hji => by
          subst hji
          obtain ⟨o2, ho2, hc⟩ := hj.2.1
          rw [ho] at ho2; cases ho2
          omega
        refine ⟨⟨by rw [← hDD j hji]; exact hj.1, hj.2.1, hj.2.2.1, fun e he hlt ho => hj.2.2.2 e he (by omega) ho⟩, ?_⟩
        rintro ⟨x, hx, hsel, hxe⟩
        obtain ⟨k, _, hk, _, _, h5⟩ := (hmem x).1 hx
        rw [h5] at hsel hxe
        simp only [Bool.false_or] at hsel hxe
        have : k = j := fnum_inj hk hj.2.1 (by omega)
        subst this
        have := hj.2.2.2 i hi (by omega) (by simp [hout])
        rw [this] at hsel; cases hsel
      refine hw ro β _ w a inv.tmr r1 _ _ fun β' v' w' hle hvr r' hfr => hK _ _ β' (i + 1) (hR.next inv ho hD hbf hD' hle (by rw [hout]; exact hvr) (fun h => by rw [hout] at h; cases h) (actsY hi) (by omega) ?_ ?_ (hfr.weaken fun k hk => hk.1))
      · refine cut_sub hle (fun f ⟨j, hj, hf⟩ => ?_) nset r'
        obtain ⟨h1, h2⟩ := held j hj
        obtain ⟨x, hx, _⟩ := inv.flo j h1
        exact ⟨⟨⟨j, h1, hf⟩, by rw [hf]; exact h2⟩, x, by rw [hf]; exact hx⟩
      · intro j hj
        obtain ⟨h1, h2⟩ := held j hj
        exact flo_keep hle hfr ⟨⟨j, h1, rfl⟩, h2⟩ (inv.flo j h1)

end
end Go.Arm
namespace Go.Arm
variable {R : Type} {E : Env} {P : Program} {C : CF} {L : LF}

section
variable {ops : Array Oper} {bf : List Nat} {base : Nat} {tr : Nat → Rec} {β0 : Beta} {S : Sc} {w0 : World} {a0 : Act}

def ofL (listed : Array Bool) (j : Nat) : Bool := listed.getD j false
def left (n : Nat) (D : Nat → Bool) : Nat := ((List.range n).filter fun j => !D j).length

theorem filter_len_lt {α : Type} {p q : α → Bool} : ∀ {l : List α}, (∀ x ∈ l, p x = true → q x = true) → (∃ x ∈ l, p x = false ∧ q x = true) → (l.filter p).length < (l.filter q).length
  | [], _, h => by obtain ⟨x, hx, _⟩ := h; cases hx
  | y :: l, h, ⟨x, hx, h1, h2⟩ => by
    have hle := filter_len_le (l := l) fun z hz => h z (by simp [hz])
    rcases List.mem_cons.1 hx with rfl | hx
    · rw [List.filter_cons_of_neg (by rw [h1]; simp), List.filter_cons_of_pos h2, List.length_cons]
      omega
    · have ih := filter_len_lt (l := l) (fun z hz => h z (by simp [hz])) ⟨x, hx, h1, h2⟩
      have hy := h y (by simp)
      cases hp : p y <;> cases hq : q y <;> simp_all <;> omega

theorem left_pos {n : Nat} {D : Nat → Bool} {i : Nat} (hi : i < n) (h : D i = false) : 0 < left n D :=
  List.length_pos_of_mem (List.mem_filter.2 ⟨List.mem_range.2 hi, by simp [h]⟩)
theorem left_lt {n : Nat} {D D' : Nat → Bool} {i : Nat} (hi : i < n) (h : D i = false) (hD' : ∀ j, D' j = (D j || j == i)) : left n D' < left n D :=
  filter_len_lt (fun x _ hx => by rw [hD'] at hx; simp at hx ⊢; exact hx.1) ⟨i, List.mem_range.2 hi, by rw [hD']; simp, by simp [h]⟩

theorem Reg.all (hR : Reg E C L ops bf base tr S a0) {listed : Array Bool} (hsz : listed.size = ops.size) (hr : Region.ready .any ops listed = []) : ∀ j, j < ops.size → ofL listed j = true := by
  intro j
  induction j using Nat.strongRecOn with
  | _ j ih =>
    intro hj
    cases hD : ofL listed j with
    | true => rfl
    | false =>
      have : j ∈ Region.ready .any ops listed := by
        rw [mem_ready]
        have hjo : ops[j]? = some ops[j] := Array.getElem?_eq_getElem hj
        refine ⟨?_, ops[j], hjo, fun e he hb => ?_⟩
        · unfold ofL at hD
          rw [Array.getD_eq_getD_getElem?] at hD ⊢
          rw [Array.getElem?_eq_getElem (by omega)] at hD ⊢
          simpa using hD
        · have h1 := hR.chk.edge j ops[j] (by rw [Array.getElem?_toList]; exact hjo) e he hb
          have h2 := hR.chk.bits _ _ h1
          exact ih e.on h2 (by omega)
      rw [hr] at this; cases this

theorem Reg.run (hE : EnvOK P E) (hC : CallsOK P E C) (hL : RoundsOK P E L) (hR : Reg E C L ops bf base tr S a0) {Q : Exit → Act → World → Prop}
    (hQ : ∀ D a w β p, (∀ j, j < ops.size → D j = true) → Inv E ops.toList bf base tr β0 S w0 a0 D a w β p → Q .normal a w) (ro : Option Nat) :
    ∀ (fuel : Nat) (listed : Array Bool) (a : Act) (w : World) (β : Beta) (p : Nat), listed.size = ops.size → left ops.size (ofL listed) ≤ fuel → Inv E ops.toList bf base tr β0 S w0 a0 (ofL listed) a w β p → wpAnyIn (FW ro) 0 P .any ops Q fuel listed a w
  | 0, listed, a, w, β, p, hsz, hf, inv => by
    have hall : ∀ j, j < ops.size → ofL listed j = true := fun j hj => by
      cases hD : ofL listed j with
      | true => rfl
      | false => have := left_pos hj hD; omega
    refine ⟨?_, hQ _ a w β p hall inv⟩
    cases hr : Region.ready .any ops listed with
    | nil => rfl
    | cons i l =>
      have : i ∈ Region.ready .any ops listed := by rw [hr]; simp
      obtain ⟨h0, o, ho, _⟩ := mem_ready.1 this
      have hi := (Array.getElem?_eq_some_iff.1 ho).1
      have := hall i hi
      unfold ofL at this
      rw [Array.getD_eq_getD_getElem?, Array.getElem?_eq_getElem (by omega)] at h0 this
      simp at h0 this
      rw [h0] at this; cases this
  | fuel + 1, listed, a, w, β, p, hsz, hf, inv => by
    refine ⟨fun hr => hQ _ a w β p (hR.all hsz hr) inv, fun i hi => ?_⟩
    obtain ⟨h0, o, ho, hall⟩ := mem_ready.1 hi
    have hil := (Array.getElem?_eq_some_iff.1 ho).1
    have hD : ofL listed i = false := by
      unfold ofL
      rw [Array.getD_eq_getD_getElem?, Array.getElem?_eq_getElem (by omega)] at h0 ⊢
      simpa using h0
    have hD' : ∀ j, ofL (listed.setIfInBounds i true) j = (ofL listed j || j == i) := fun j => by
      unfold ofL
      by_cases hji : j = i
      · subst hji
        rw [Array.getD_eq_getD_getElem?]
        simp [show j < listed.size by omega]
      · rw [getD_set_ne false (Ne.symm hji)]
        simp [hji]
    have hol : ops.toList[i]? = some o := by rw [Array.getElem?_toList]; exact ho
    have hcl : ∀ k, (ofL listed k = true ∨ k = i) → ∀ o2, ops.toList[k]? = some o2 → ∀ e ∈ o2.after, Region.binds .any e = true → (ofL listed e.on = true ∨ e.on = i) := by
      intro k hk o2 ho2 e he hb
      rcases hk with hk | rfl
      · exact .inl (inv.closed k hk _ (hR.chk.edge k o2 ho2 e he hb))
      · rw [hol] at ho2; cases ho2
        exact .inl (hall e he hb)
    have hbf : ∀ j, (bf.getD i 0).testBit j = true → ofL listed j = true := fun j hj => by
      have h1 := hR.closed (fun k => ofL listed k = true ∨ k = i) (fun k o2 ho2 hk e he hb => hcl k hk o2 ho2 e he hb) i (.inr rfl) j hj
      rcases h1 with h1 | h1
      · exact h1
      · have := hR.chk.bits _ _ hj; omega
    exact hR.step hE hC hL inv hol hD hbf hD' (fun a' w' β' p' inv' => Reg.run hE hC hL hR hQ ro fuel _ a' w' β' p' (by simp [hsz]) (by have := left_lt hil hD hD'; omega) inv') ro

end

/-- drawn regions are sound -/
theorem draw_ok (hE : EnvOK P E) (hC : CallsOK P E C) (hL : RoundsOK P E L) : DrawOK E P C L := by
  intro id ops R tm h K res hd e
  have hchk := drawOk_spec hd
  obtain ⟨tr, good, h0, hK⟩ := draw_text (E := E) (C := C) (L := L) rfl hchk.bits ops.toList 0 [] tm (holes (fnum ops.toList ops.toList.length) h) ⟨[], [], []⟩ (fun _ => ⟨tm, holes (fnum ops.toList ops.toList.length) h, [], none, .hole⟩) K res (Nat.zero_le _)
    (fun q => by rw [Nat.zero_add])
    ⟨⟨fun j o hj => absurd hj (by omega), fun j o hj => absurd hj (by omega), fun j o v hj => absurd hj (by omega)⟩, fun s b hl => by simp at hl, rfl, rfl, rfl, fun p d _ _ => .inl rfl, fun j o v hj => absurd hj (by omega)⟩ e
  have h00 := h0 0 (Nat.le_refl _)
  have hlen : (tr ops.toList.length).tm.length = tm.length := by rw [good.length (Nat.le_refl _) _ (Nat.le_refl _), h00]
  refine ⟨_, _, hK, hlen, fun ro _ β S w a ht hs r Q hQ => wpIn_region_any hE.mixed ?_⟩
  have r1 : RH E β h S { w with drawn := w.drawn + 1 } := r.drew
  have hR : Reg E C L ops (befs ops.toList) h.next tr S a := by
    refine ⟨hchk, good, by rw [h00], by rw [h00]; exact hs, fun b hb => ?_, fun D hD i hi j hj => mask_closed hD i hi j hj⟩
    rcases hb with hb | hb
    · exact H.get_lt (r.hol b hb).1
    · exact H.get_lt (r.held b hb)
  have hfalse : ∀ j, ofL (Array.replicate ops.size false) j = false := fun j => by
    unfold ofL
    rw [Array.getD_eq_getD_getElem?]
    by_cases hj : j < ops.size
    · simp [hj]
    · simp [hj]
  refine hR.run hE hC hL (β0 := β) (w0 := { w with drawn := w.drawn + 1 }) (fun D a' w' β' p hall inv => ?_) ro ops.size _ a _ β 0 (by simp) ?_ ?_
  · refine hQ β' S a' w' ⟨⟨inv.le, ?_, (Fr.drew S w).trans inv.fr, by rw [inv.defers]; exact .nil _ _ _ _, inv.size, .refl S⟩, fun t => ?_, ?_⟩
    · have hsame := good.same_h (p := p) (ops.toList.length - p) (by have := inv.ple; omega) fun e he h1 h2 => by
        have hel : e < ops.toList.length := (List.getElem?_eq_some_iff.1 he.choose_spec.1).1
        have := (inv.acts e he).1 (hall e (by simpa using hel))
        omega
      rw [show p + (ops.toList.length - p) = ops.toList.length by have := inv.ple; omega] at hsame
      rw [hsame]
      have hap := good.flo_apart hchk.bits hR.flo0 ops.toList.length (Nat.le_refl _)
      have hmem := good.flo_mem hchk.bits hR.flo0 ops.toList.length (Nat.le_refl _)
      have r2 := layF_rh (m := 0) (all := true) (tr ops.toList.length).flo (tr p).h _ inv.rh (fun f ⟨j, hj, hf⟩ hs => by have := hR.old f (.inr hs); omega) hap fun x hx _ => by
        obtain ⟨j, h1, h2, h3, h4, h5⟩ := (hmem x).1 hx
        have hj : Held ops.toList (befs ops.toList) tr D p j := ⟨hall j (by simpa using h1), h2, h3, fun e he hlt ho => h4 e he (by have := inv.ple; omega) ho⟩
        obtain ⟨y, hy, hb⟩ := inv.flo j hj
        rw [h5]
        refine ⟨⟨j, hj, rfl⟩, y, hy, hb, ?_⟩
        intro hh
        simp only at hh
        rw [hh] at hb
        exact hb
      exact r2.sub (fun k hk => hk.1) (fun k hk => .inl hk) (fun k hk => .inl hk)
    · have := slots_text good (D := D) (t := t) ops.toList.length (Nat.le_refl _) fun j o hj _ _ => hall j (by simpa using hj)
      rw [← this]
      exact inv.tmr t
    · unfold TmS
      rw [hlen, inv.size]
      exact hs
  · exact Nat.le_trans (List.length_filter_le _ _) (by simp)
  · refine ⟨Beta.le_refl β, fun e he => ?_, Nat.zero_le _, fun t => ?_, ?_, fun j hj => ?_, Fr.refl S _, rfl, rfl, fun i o g wn s _ _ _ hg => ?_, fun i hi => ?_⟩
    · rw [hfalse]; simp
    · have := slots_tail (all := ops.toList) (tr := tr) (D := ofL (Array.replicate ops.size false)) (t := t) (i := 0) ops.toList.length fun j o _ _ _ _ => hfalse j
      rw [Nat.zero_add] at this
      rw [this]
      show VR β (lget (tr 0).tm t) _
      rw [h00]
      exact ht t
    · rw [h00]
      refine RH.holes _ r1 (fun b hb => ⟨hb, fun f x ⟨j, hj, _⟩ => ?_⟩) (fun b hb => ?_) (fun b hb => ?_)
      · have := hj.1; rw [hfalse] at this; cases this
      · rcases hb with hb | ⟨j, hj, _⟩
        · exact hb
        · have := hj.1; rw [hfalse] at this; cases this
      · rcases hb with hb | ⟨j, hj, _, hf⟩
        · exact .inl hb
        · have := fnum_lt hj (isFlo_lt hj)
          exact .inr (by omega)
    · have := hj.1; rw [hfalse] at this; cases this
    · rw [hfalse] at hg; cases hg
    · rw [hfalse] at hi; cases hi

end Go.Arm
namespace Go.Arm
variable {P : Program} {E : Env}

def allT {α : Type} : Tr α → (Nat → α → Bool) → Bool
  | .leaf, _ => true
  | .node l v r, f => (match v with | some x => f 0 x | none => true) && allT l (fun j => f (2 * j + 1)) && allT r (fun j => f (2 * j + 2))
theorem allT_get {α : Type} : ∀ {t : Tr α} {f : Nat → α → Bool} {i : Nat} {x : α}, allT t f = true → t.get i = some x → f i x = true
  | .leaf, _, i, x, _, e => by simp [Tr.get] at e
  | .node l v r, f, i, x, h, e => by
    simp only [allT, Bool.and_eq_true] at h
    obtain ⟨⟨h1, h2⟩, h3⟩ := h
    cases i with
    | zero =>
      simp only [Tr.get] at e
      subst e
      exact h1
    | succ i =>
      simp only [Tr.get] at e
      split at e
      · rename_i hm
        have := allT_get h2 e
        rwa [show 2 * (i / 2) + 1 = i + 1 by omega] at this
      · rename_i hm
        have := allT_get h3 e
        rwa [show 2 * (i / 2) + 2 = i + 1 by omega] at this
def allP {α : Type} : Tr α → (Nat → α → Prop) → Prop
  | .leaf, _ => True
  | .node l v r, f => (match v with | some x => f 0 x | none => True) ∧ allP l (fun j => f (2 * j + 1)) ∧ allP r (fun j => f (2 * j + 2))
theorem allP_get {α : Type} : ∀ {t : Tr α} {f : Nat → α → Prop} {i : Nat} {x : α}, allP t f → t.get i = some x → f i x
  | .leaf, _, i, x, _, e => by simp [Tr.get] at e
  | .node l v r, f, i, x, h, e => by
    simp only [allP] at h
    obtain ⟨h1, h2, h3⟩ := h
    cases i with
    | zero =>
      simp only [Tr.get] at e
      subst e
      exact h1
    | succ i =>
      simp only [Tr.get] at e
      split at e
      · have := allP_get h2 e
        rwa [show 2 * (i / 2) + 1 = i + 1 by omega] at this
      · have := allP_get h3 e
        rwa [show 2 * (i / 2) + 2 = i + 1 by omega] at this

def undB (P : Program) (t : Nat) : Ty → Bool
  | .bool => match P.underlying t with | some .bool => true | _ => false
  | .int k => match P.underlying t with | some (.int k') => decide (k' = k) | _ => false
  | .float => match P.underlying t with | some (.float .f64) => true | _ => false
  | .complex => match P.underlying t with | some (.complex .f64) => true | _ => false
  | .string => match P.underlying t with | some .string => true | _ => false
  | .ptr => match P.underlying t with | some (.pointer _) => true | _ => false
  | .slice e => match P.underlying t with | some (.slice e') => Nat.beq e' e | _ => false
  | .array n e => match P.underlying t with | some (.array n' e') => Nat.beq n' n && Nat.beq e' e | _ => false
  | .map k e => match P.underlying t with | some (.map k' e') => Nat.beq k' k && Nat.beq e' e | _ => false
  | .struct fs => match P.underlying t with | some (.struct a) => decide (a.toList.map (fun f => (f.offset, f.type)) = fs) | _ => false
  | .func => match P.underlying t with | some (.func ..) => true | _ => false
  | .iface => match P.underlying t with | some (.interface _) => true | _ => false
  | .tuple ts => match P.underlying t with | some (.tuple a) => decide (a.toList = ts) | _ => false
  | .other => false
theorem undB_ok {t : Nat} {y : Ty} (h : undB P t y = true) : UndOK P t y := by
  cases y <;> simp only [undB] at h <;> simp only [UndOK]
  case other => cases h
  all_goals (split at h <;> simp_all)
  · rw [← h]

def eqVs : List Value → List Value → Bool
  | [], [] => true
  | .tuple a :: l, .tuple b :: r => eqVs2 a.toList b.toList && eqVs l r
  | x :: l, y :: r => veq x y && eqVs l r
  | _, _ => false
  where eqVs2 : List Value → List Value → Bool
    | [], [] => true
    | x :: l, y :: r => veq x y && eqVs2 l r
    | _, _ => false
theorem eqVs2_true : ∀ {l r : List Value}, eqVs.eqVs2 l r = true → r = l
  | [], [], _ => rfl
  | [], _ :: _, e => by simp [eqVs.eqVs2] at e
  | _ :: _, [], e => by simp [eqVs.eqVs2] at e
  | x :: l, y :: r, e => by
    simp only [eqVs.eqVs2, Bool.and_eq_true] at e
    rw [veq_true e.1, eqVs2_true e.2]
theorem eqVs_true : ∀ {l r : List Value}, eqVs l r = true → r = l
  | [], [], _ => rfl
  | [], _ :: _, e => by simp [eqVs] at e
  | _ :: _, [], e => by simp [eqVs] at e
  | x :: l, y :: r, e => by
    unfold eqVs at e
    split at e
    · rename_i h; cases h
    · rename_i a _ b _ h1 h2
      cases h1; cases h2
      simp only [Bool.and_eq_true] at e
      rw [eqVs_true e.2, Array.toList_inj.1 (eqVs2_true e.1)]
    · rename_i _ _ _ _ _ h1 h2
      cases h1; cases h2
      simp only [Bool.and_eq_true] at e
      rw [veq_true e.1, eqVs_true e.2]
    · cases e

def isJunk : Value → Bool
  | .tuple ⟨[]⟩ => true
  | _ => false
theorem isJunk_eq {v : Value} (h : isJunk v = true) : v = junk := by
  unfold isJunk at h
  split at h
  · rfl
  · cases h

def tyB (P : Program) (t : Nat) (i : TI) : Bool :=
  match P.info? t with
  | none => false
  | some f => Nat.beq f.size i.size && Nat.beq f.bytes i.bytes && (match f.zero with
      | some z => (i.zero.isEmpty || eqVs i.zero z.cells.toList) && (!(cellT i.ty || aggT i.ty) || (isJunk (zeroV i) || veq (zeroV i) z))
      | none => i.zero.isEmpty && !(cellT i.ty || aggT i.ty)) &&
    i.zero.all closed && Nat.beq i.zero.length i.size && (!cellT i.ty || Nat.beq i.size 1) && undB P t i.ty &&
    (!(i.eq && aggT i.ty) || (!P.stoodInHeld t && !P.eqGuardType P.depth t && (match P.underlying t with | some (.struct a) => a.toList.all (fun f => !(f.name == "_")) | _ => true)))

theorem tyB_ok {t : Nat} {i : TI} (h : tyB P t i = true) : TyOK P t i := by
  unfold tyB at h
  split at h
  · cases h
  · rename_i f hf
    simp only [Bool.and_eq_true] at h
    obtain ⟨⟨⟨⟨⟨⟨⟨h1, h2⟩, h3⟩, h4⟩, h5⟩, h6⟩, h7⟩, h8⟩ := h
    refine ⟨⟨f, hf, Nat.eq_of_beq_eq_true h1, Nat.eq_of_beq_eq_true h2, fun he => ?_⟩, by simpa using h4, fun hc f' hf' => ?_, Nat.eq_of_beq_eq_true h5, fun hc => ?_, undB_ok h7, fun he ha => ?_⟩
    · split at h3
      · rename_i z hz
        simp only [Bool.and_eq_true, Bool.or_eq_true] at h3
        rcases h3.1 with h9 | h9
        · rw [he] at h9; cases h9
        · have := eqVs_true h9
          exact ⟨z, hz, by rw [← this]⟩
      · simp only [Bool.and_eq_true] at h3
        rw [he] at h3; cases h3.1
    · rw [hf] at hf'; cases hf'
      have hca : (cellT i.ty || aggT i.ty) = true := by simpa using hc
      split at h3
      · rename_i z hz
        simp only [Bool.and_eq_true, hca, Bool.not_true, Bool.false_or] at h3
        refine ⟨z, hz, ?_⟩
        have h9 := h3.2
        simp only [Bool.or_eq_true] at h9
        rcases h9 with h9 | h9
        · exact .inl (isJunk_eq h9)
        · exact .inr (veq_true h9)
      · simp [hca] at h3
    · simp only [hc, Bool.not_true, Bool.false_or] at h6
      exact Nat.eq_of_beq_eq_true h6
    · simp only [he, ha, Bool.and_self, Bool.not_true, Bool.false_or, Bool.and_eq_true, Bool.not_eq_true'] at h8
      refine ⟨h8.1.1, h8.1.2, fun a ha' f' hf' hn => ?_⟩
      have h9 := h8.2
      rw [ha'] at h9
      simp only [List.all_eq_true] at h9
      have := h9 f' hf'
      rw [hn] at this
      simp at this

def nodupB : List Nat → Bool
  | [] => true
  | a :: l => !l.elem a && nodupB l

/-- no loop stands twice; one scope at most -/
def fnB (c : Code) : Bool :=
  nodupB ((loopsOf c).map (·.1)) && ((loopsOf c).map (·.1)).all (fun r => Nat.blt r lblKey) && Nat.ble (scopesOf c).length 1 && nodupB ((rangesOf c).map (·.1))

theorem find_lookup {α : Type} (r : Nat) : ∀ l : List (Nat × α), (l.find? fun p => p.1 == r).map (·.2) = l.lookup r
  | [] => rfl
  | (q, x) :: l => by
    rw [List.find?_cons, List.lookup_cons]
    by_cases h : q = r
    · subst h; simp
    · have h2 : ¬ r = q := fun e => h e.symm
      have h3 : (q == r) = false := by simp [h]
      have h4 : (r == q) = false := by simp [h2]
      simp only [h3, h4]
      exact find_lookup r l
theorem findRange_lookup (r : Nat) : ∀ c : Code, findRange r c = (rangesOf c).lookup r := by
  have app : ∀ (a b : List (Nat × Array Tmp × Code × Code)), (a ++ b).lookup r = (a.lookup r).orElse fun _ => b.lookup r := by
    intro a b
    induction a with
    | nil => rfl
    | cons p a ih =>
      obtain ⟨q, x⟩ := p
      simp only [List.cons_append, List.lookup_cons, ih]
      split <;> rfl
  intro c
  induction c with
  | seq a b iha ihb => simp only [findRange, rangesOf, app, iha, ihb]
  | cond x a b iha ihb => simp only [findRange, rangesOf, app, iha, ihb]
  | block i b ih => simp only [findRange, rangesOf, ih]
  | scope b ih => simp only [findRange, rangesOf, ih]
  | loop b ih => simp only [findRange, rangesOf, ih]
  | rangeFunc g ps a b iha ihb =>
    simp only [findRange, rangesOf, app]
    cases hf : first a with
    | none => simp [iha, ihb]
    | some q =>
      by_cases hq : q = r
      · subst hq; simp [List.lookup_cons]
      · have h1 : ¬ r = q := fun e => hq e.symm
        have h2 : (r == q) = false := by simp [h1]
        simp [hq, h2, List.lookup_cons, iha, ihb]
  | _ => rfl

theorem lookup_nodup {α : Type} {r : Nat} {b : α} : ∀ l : List (Nat × α), nodupB (l.map (·.1)) = true → (r, b) ∈ l → l.lookup r = some b
  | [], _, h => by cases h
  | (q, x) :: l, hn, h => by
    simp only [List.map_cons, nodupB, Bool.and_eq_true, Bool.not_eq_true'] at hn
    rw [List.lookup_cons]
    rcases List.mem_cons.1 h with he | he
    · cases he; simp
    · have : ¬ r = q := fun e => by
        subst e
        have : (l.map (·.1)).elem r = true := by
          rw [List.elem_eq_mem, decide_eq_true_eq]
          exact List.mem_map.2 ⟨_, he, rfl⟩
        rw [hn.1] at this; cases this
      have h2 : (r == q) = false := by simp [this]
      rw [h2]
      exact lookup_nodup l hn.2 he

theorem fnB_ok {c : Code} (h : fnB c = true) : FnOK c := by
  unfold fnB at h
  simp only [Bool.and_eq_true] at h
  obtain ⟨⟨⟨h1, h2⟩, h3⟩, h4⟩ := h
  refine ⟨fun r b hm => ⟨?_, ?_⟩, fun b l hm hl => ?_, fun r ps x y hm => by rw [findRange_lookup]; exact lookup_nodup _ h4 hm⟩
  · have := List.all_eq_true.1 h2 r (List.mem_map.2 ⟨_, hm, rfl⟩)
    simpa [Nat.blt_eq] using this
  · rw [findLoop_eq, find_lookup]
    exact lookup_nodup _ h1 hm
  · rw [findScope_eq]
    have hle : (scopesOf c).length ≤ 1 := Nat.le_of_ble_eq_true h3
    match hs : scopesOf c with
    | [] => rw [hs] at hm; cases hm
    | [x] => rw [hs] at hm; rw [List.mem_singleton] at hm; subst hm; simp [hl]
    | x :: y :: r => rw [hs] at hle; simp at hle

/-- a function, as it is asked -/
def funB (fn : Func) : Bool :=
  !(fn.name == "runtime.NumGoroutine") && (match fn.body with | some c => fnB c | none => false) && Nat.ble (fn.params.size + fn.nfree) fn.ntmps

theorem envOK_of (hty : allT E.tys (tyB P) = true) (hfn : allT E.fns (fun _ => funB) = true) (hf : allP E.fns fun f fn => P.funcs[f]? = some fn) (hm : P.follows .mixedOrders = true) : EnvOK P E := by
  refine ⟨fun t i hi => tyB_ok (allT_get hty hi), fun f fn h => ⟨allP_get hf h, ?_⟩, hm⟩
  have h1 := allT_get hfn h
  unfold funB at h1
  simp only [Bool.and_eq_true, Bool.not_eq_true'] at h1
  refine ⟨h1.1.1, ?_⟩
  have h2 := h1.1.2
  split at h2
  · rename_i c hc; rw [hc]; rfl
  · cases h2

theorem allOK_of (hE : EnvOK P E) (hfn : allT E.fns (fun _ => funB) = true) (han : allT E.anns (fun _ A => allT A.loops fun k _ => Nat.blt k rngKey) = true) (hs : ∀ f g, E.sums.get f = some g → CallsOK P E (fun f' args h => if f' = f then g args h else none)) : AllOK P E := by
  refine ⟨fun f fn h => ?_, hs, fun C L hC hL => draw_ok hE hC hL⟩
  have h1 := allT_get hfn h
  unfold funB at h1
  simp only [Bool.and_eq_true, Bool.not_eq_true'] at h1
  have h2 := h1.1.2
  split at h2
  · rename_i c hc; refine ⟨c, hc, fnB_ok h2, Nat.le_of_ble_eq_true h1.2, fun r => ?_⟩
    unfold annOf
    split
    · rename_i A hA
      cases hl : A.loops.get (rngKey + r) with
      | none => rfl
      | some la =>
        have := allT_get (allT_get han hA) hl
        simp only [Nat.blt_eq] at this
        omega
    · rfl
  · cases h2

end Go.Arm
namespace Go.Arm
open Go.RowKit
variable {P : Program} {E E' : Env}

/-- new memory alone -/
def newOnly (w : World) : Sc := ⟨fun k => w.heap.size ≤ k, fun _ => False, fun _ => False⟩
theorem Fr.of_below {w w' : World} (h : Below w.heap.size w w') : Fr (newOnly w) w w' :=
  ⟨h.os, h.tape, h.output, h.size, fun k hk => h.block k (by unfold newOnly at hk; simp only at hk; omega)⟩
theorem Fr.below {w w' : World} (h : Fr (newOnly w) w w') : Below w.heap.size w w' :=
  ⟨h.os, h.tape, h.output, h.size, fun k hk => h.keep k (by unfold newOnly; simp only; omega)⟩

theorem RH.grown {β : Beta} {h : H} {S : Sc} {w w' : World} (r : RH E β h S w) (hf : Fr (newOnly w) w w') : RH E β h S w' := by
  have hk : ∀ k, k < w.heap.size → w'.heap[k]? = w.heap[k]? := fun k hk => hf.keep k (by unfold newOnly; simp only; omega)
  refine ⟨r.glob, fun k hk => r.up k (Nat.le_trans hf.size hk), r.fresh, fun c y hy => Nat.lt_of_lt_of_le (r.lt c y hy) hf.size, fun c l hc hh => ?_, r.disj, r.hol, r.held⟩
  obtain ⟨y, hy, hb⟩ := r.blk c l hc hh
  exact ⟨y, hy, hb.keep (Beta.le_refl β) (fun s => s) (hk _ (r.lt c y hy))⟩
theorem RH.fr_grown {β : Beta} {h : H} {S : Sc} {w w' : World} (r : RH E β h S w) (hf : Fr (newOnly w) w w') : Fr S w w' :=
  ⟨hf.os, hf.tape, hf.output, hf.size, fun k hk => hf.keep k fun h => hk (r.up k h)⟩

/-- a summary whose answer has no address, and that turns no memory that was there -/
theorem sum_ok {f : Nat} {g : List Value → H → Option (Value × H)} (hf : ∃ fn, P.funcs[f]? = some fn ∧ (fn.name == "runtime.NumGoroutine") = false ∧ fn.body.isSome = true)
    (h : ∀ args h v h', g args h = some (v, h') → h' = h ∧ lit v = true ∧ ∀ β S w args', VL β args args' → RH E β h S w → Calls P f ⟨args'⟩ w fun e w' => e = .returned v ∧ Below w.heap.size w w') :
    CallsOK P E (fun f' args h => if f' = f then g args h else none) := by
  intro f' args h0 v h' e
  simp only at e
  split at e
  case isFalse => cases e
  rename_i hff
  subst hff
  obtain ⟨rfl, hl, hc⟩ := h args h0 v h' e
  refine ⟨hf, fun β S w args' hv r => (hc β S w args' hv r).mono fun ed w' ⟨he, hb⟩ => ?_⟩
  subst he
  have hfr := Fr.of_below hb
  exact ⟨β, Beta.le_refl β, r.grown hfr, r.fr_grown hfr, .clit v hl⟩

/-- tables at the front of memory: what two heaps have alike -/
theorem RH.front {β : Beta} {h h0 : H} {S : Sc} {w : World} (r : RH E β h S w) (hng : E'.ng = E.ng) (hn : h0.next = E'.ng) (htab : ∀ b k, h0.get b = some k → ∃ cs e, k = .cells cs e false false ∧ (∀ v ∈ cs, lit v = true) ∧ ∃ e', h.get b = some (.cells cs e' false false)) :
    ∃ β0, (∀ b, b < E'.ng → β0 b = β b) ∧ RH E' β0 h0 (newOnly w) w := by
  obtain ⟨β0, hβ⟩ : ∃ β0 : Beta, β0 = fun b => if b < E'.ng then β b else none := ⟨_, rfl⟩
  have h1 : ∀ b, b < E'.ng → β0 b = β b := fun b hb => by rw [hβ]; exact if_pos hb
  have h2 : ∀ b, ¬ b < E'.ng → β0 b = none := fun b hb => by rw [hβ]; exact if_neg hb
  have h3 : ∀ b x, β0 b = some x → β b = some x := fun b x hb => by
    by_cases hlt : b < E'.ng
    · rw [← h1 b hlt]; exact hb
    · rw [h2 b hlt] at hb; cases hb
  refine ⟨β0, h1, fun g hg => ?_, fun k hk => hk, fun b hb => h2 b (by omega), fun b x hb => r.lt b x (h3 b x hb), fun b k hb hh => ?_, fun c d l m y z hc hd hne hown hy hz => ?_, fun b hb => hb.elim, fun b hb => hb.elim⟩
  · obtain ⟨x, hx, q1, q2⟩ := r.glob g (by omega)
    exact ⟨x, by rw [h1 g hg]; exact hx, q1, q2⟩
  · obtain ⟨cs, e, rfl, hlit, e', hg⟩ := htab b k hb
    obtain ⟨y, hy, hbk⟩ := r.blk b _ hg (by simp)
    have hlt : b < E'.ng := by have := H.get_lt hb; omega
    refine ⟨y, by rw [h1 b hlt]; exact hy, ?_⟩
    obtain ⟨q1, q2, q3, _, q5, _⟩ := hbk
    refine ⟨q1, q2, q3, fun h => (by cases h), fun i v hi => ?_, fun h => (by cases h)⟩
    obtain ⟨v', hv', hvr⟩ := q5 i v hi
    have hl := hlit v (List.mem_of_getElem? hi)
    have := hvr.lit_inv hl
    exact ⟨v', hv', by rw [this]; exact .clit v hl⟩
  · obtain ⟨cs, e, rfl, _⟩ := htab c l hc
    cases hown

/-- a closed run stands for a call: its answer has no address -/
theorem closed_ok (hE' : EnvOK P E') (hA : AllOK P E') {N f : Nat} {h0 h1 : H} {v : Value} (hev : (evalN E' N).1 f [] h0 = some (v, h1)) (hl : lit v = true) {β : Beta} {h : H} {S : Sc} {w : World} (r : RH E β h S w) (hng : E'.ng = E.ng) (hn : h0.next = E'.ng)
    (htab : ∀ b k, h0.get b = some k → ∃ cs e, k = .cells cs e false false ∧ (∀ v ∈ cs, lit v = true) ∧ ∃ e', h.get b = some (.cells cs e' false false)) :
    Calls P f #[] w fun e w' => e = .returned v ∧ Below w.heap.size w w' := by
  obtain ⟨β0, _, r0⟩ := r.front hng hn htab
  obtain ⟨_, hc⟩ := (evalN_sound hE' hA N).1 f [] h0 v h1 hev
  refine (hc β0 (newOnly w) w [] (.nil _) r0).mono fun ed w' hpost => ?_
  cases ed with
  | panicked _ => exact hpost.elim
  | outgrown => exact hpost.elim
  | returned v' =>
    obtain ⟨β', _, _, hfr, hv⟩ := hpost
    exact ⟨by rw [hv.lit_inv hl], hfr.below⟩

end Go.Arm
namespace Go.Arm
open Go.Proofs
set_option maxRecDepth 100000
theorem awake_eval : ((evalN E0 300).1 4 [] H0).map (·.1) = some (.bool true) := by kernel_rfl
end Go.Arm
namespace Go.Arm
open Go.Proofs
set_option maxRecDepth 100000
theorem dr_tys : allT E.tys (tyB Tryz.prog) = true := by kernel_rfl
theorem dr_fns : allT E.fns (fun _ => funB) = true := by kernel_rfl
theorem dr_anns : allT E.anns (fun _ A => allT A.loops fun k _ => Nat.blt k rngKey) = true := by kernel_rfl
theorem dr_mixed : Tryz.prog.follows .mixedOrders = true := by kernel_rfl
theorem dr_funcs : allP fnsE fun f fn => Tryz.prog.funcs[f]? = some fn := ⟨trivial, ⟨trivial, ⟨Tryz.func3, ⟨Tryz.func7, ⟨Tryz.func15, ⟨Tryz.func31, ⟨Tryz.func63, ⟨Tryz.func127, trivial, trivial⟩, trivial⟩, ⟨Tryz.func95, trivial, trivial⟩⟩, ⟨trivial, ⟨Tryz.func79, trivial, trivial⟩, ⟨Tryz.func111, trivial, trivial⟩⟩⟩, ⟨Tryz.func23, ⟨Tryz.func39, ⟨Tryz.func71, trivial, trivial⟩, ⟨Tryz.func103, trivial, trivial⟩⟩, ⟨Tryz.func55, ⟨Tryz.func87, trivial, trivial⟩, ⟨Tryz.func119, trivial, trivial⟩⟩⟩⟩, ⟨Tryz.func11, ⟨Tryz.func19, ⟨Tryz.func35, ⟨Tryz.func67, trivial, trivial⟩, ⟨Tryz.func99, trivial, trivial⟩⟩, ⟨Tryz.func51, ⟨Tryz.func83, trivial, trivial⟩, ⟨Tryz.func115, trivial, trivial⟩⟩⟩, ⟨Tryz.func27, ⟨Tryz.func43, ⟨Tryz.func75, trivial, trivial⟩, ⟨Tryz.func107, trivial, trivial⟩⟩, ⟨Tryz.func59, ⟨Tryz.func91, trivial, trivial⟩, ⟨Tryz.func123, trivial, trivial⟩⟩⟩⟩⟩, ⟨Tryz.func5, ⟨Tryz.func9, ⟨Tryz.func17, ⟨Tryz.func33, ⟨Tryz.func65, ⟨Tryz.func129, trivial, trivial⟩, trivial⟩, ⟨Tryz.func97, trivial, trivial⟩⟩, ⟨Tryz.func49, ⟨Tryz.func81, trivial, trivial⟩, ⟨Tryz.func113, trivial, trivial⟩⟩⟩, ⟨Tryz.func25, ⟨Tryz.func41, ⟨Tryz.func73, trivial, trivial⟩, ⟨Tryz.func105, trivial, trivial⟩⟩, ⟨Tryz.func57, ⟨Tryz.func89, trivial, trivial⟩, ⟨Tryz.func121, trivial, trivial⟩⟩⟩⟩, ⟨Tryz.func13, ⟨Tryz.func21, ⟨Tryz.func37, trivial, ⟨Tryz.func101, trivial, trivial⟩⟩, ⟨Tryz.func53, ⟨Tryz.func85, trivial, trivial⟩, ⟨Tryz.func117, trivial, trivial⟩⟩⟩, ⟨Tryz.func29, ⟨Tryz.func45, ⟨Tryz.func77, trivial, trivial⟩, ⟨Tryz.func109, trivial, trivial⟩⟩, ⟨Tryz.func61, ⟨Tryz.func93, trivial, trivial⟩, ⟨Tryz.func125, trivial, trivial⟩⟩⟩⟩⟩⟩, ⟨trivial, ⟨Tryz.func4, ⟨Tryz.func8, ⟨Tryz.func16, ⟨Tryz.func32, ⟨Tryz.func64, ⟨Tryz.func128, trivial, trivial⟩, trivial⟩, ⟨Tryz.func96, trivial, trivial⟩⟩, ⟨Tryz.func48, ⟨Tryz.func80, trivial, trivial⟩, ⟨Tryz.func112, trivial, trivial⟩⟩⟩, ⟨Tryz.func24, ⟨Tryz.func40, ⟨Tryz.func72, trivial, trivial⟩, ⟨Tryz.func104, trivial, trivial⟩⟩, ⟨Tryz.func56, ⟨Tryz.func88, trivial, trivial⟩, ⟨Tryz.func120, trivial, trivial⟩⟩⟩⟩, ⟨Tryz.func12, ⟨Tryz.func20, ⟨Tryz.func36, ⟨Tryz.func68, trivial, trivial⟩, ⟨Tryz.func100, trivial, trivial⟩⟩, ⟨Tryz.func52, ⟨Tryz.func84, trivial, trivial⟩, ⟨Tryz.func116, trivial, trivial⟩⟩⟩, ⟨Tryz.func28, ⟨Tryz.func44, ⟨Tryz.func76, trivial, trivial⟩, ⟨Tryz.func108, trivial, trivial⟩⟩, ⟨Tryz.func60, ⟨Tryz.func92, trivial, trivial⟩, ⟨Tryz.func124, trivial, trivial⟩⟩⟩⟩⟩, ⟨Tryz.func6, ⟨Tryz.func10, ⟨Tryz.func18, ⟨Tryz.func34, ⟨Tryz.func66, ⟨Tryz.func130, trivial, trivial⟩, trivial⟩, ⟨Tryz.func98, trivial, trivial⟩⟩, ⟨Tryz.func50, ⟨Tryz.func82, trivial, trivial⟩, ⟨Tryz.func114, trivial, trivial⟩⟩⟩, ⟨Tryz.func26, ⟨Tryz.func42, ⟨Tryz.func74, trivial, trivial⟩, ⟨Tryz.func106, trivial, trivial⟩⟩, ⟨Tryz.func58, ⟨Tryz.func90, trivial, trivial⟩, ⟨Tryz.func122, trivial, trivial⟩⟩⟩⟩, ⟨Tryz.func14, ⟨Tryz.func22, ⟨Tryz.func38, ⟨Tryz.func70, trivial, trivial⟩, ⟨Tryz.func102, trivial, trivial⟩⟩, ⟨Tryz.func54, ⟨Tryz.func86, trivial, trivial⟩, ⟨Tryz.func118, trivial, trivial⟩⟩⟩, ⟨Tryz.func30, ⟨Tryz.func46, ⟨Tryz.func78, trivial, trivial⟩, ⟨Tryz.func110, trivial, trivial⟩⟩, ⟨Tryz.func62, ⟨Tryz.func94, trivial, trivial⟩, ⟨Tryz.func126, trivial, trivial⟩⟩⟩⟩⟩⟩⟩
theorem dr_env : EnvOK Tryz.prog E := envOK_of dr_tys dr_fns dr_funcs dr_mixed
theorem dr_env0 : EnvOK Tryz.prog E0 := envOK_of dr_tys dr_fns dr_funcs dr_mixed
end Go.Arm
namespace Go.Proofs
open Go.RowKit Go.Shelf Go.Lib
def Tryz.laysValid_ren : Go.Shelf.Ren := ⟨fun | 196 => 47 | 259 => 69 | n => n, fun | 9 => 9 | 4 => 4 | 3 => 3 | 5 => 5 | 12 => 12 | 119 => 132 | 0 => 0 | 46 => 93 | 139 => 135 | 138 => 134 | 53 => 44 | n => n, fun | 3 => 0 | 4 => 1 | n => n⟩
theorem Tryz.laysValid : Lays.n196 Tryz.prog Tryz.laysValid_ren where
  mixed := by kernel_rfl
  f196 := Tryz.func47.trans (congrArg some (by kernel_rfl))
  f259 := Tryz.func69.trans (congrArg some (by kernel_rfl))
  t0 := Tryz.underlying0
  a0 := Tryz.isAgg0
  z0 := Tryz.sizeOf0
  v0 := Tryz.zeroValue0
  t3 := Tryz.underlying3
  a3 := Tryz.isAgg3
  z3 := Tryz.sizeOf3
  v3 := Tryz.zeroValue3
  t4 := Tryz.underlying4
  a4 := Tryz.isAgg4
  z4 := Tryz.sizeOf4
  v4 := Tryz.zeroValue4
  t5 := Tryz.underlying5
  a5 := Tryz.isAgg5
  z5 := Tryz.sizeOf5
  v5 := Tryz.zeroValue5
  t9 := Tryz.underlying9
  a9 := Tryz.isAgg9
  z9 := Tryz.sizeOf9
  v9 := Tryz.zeroValue9
  t12 := Tryz.underlying12
  a12 := Tryz.isAgg12
  z12 := Tryz.sizeOf12
  v12 := Tryz.zeroValue12
  t46 := Tryz.underlying93
  a46 := Tryz.isAgg93
  z46 := Tryz.sizeOf93
  v46 := Tryz.zeroValue93
  t53 := Tryz.underlying44
  a53 := Tryz.isAgg44
  z53 := Tryz.sizeOf44
  v53 := Tryz.zeroValue44
  t119 := Tryz.underlying132
  a119 := Tryz.isAgg132
  z119 := Tryz.sizeOf132
  t138 := Tryz.underlying134
  a138 := Tryz.isAgg134
  z138 := Tryz.sizeOf134
  v138 := Tryz.zeroValue134
  t139 := Tryz.underlying135
  a139 := Tryz.isAgg135
  z139 := Tryz.sizeOf135
  v139 := Tryz.zeroValue135
  g3 := by kernel_rfl
  g4 := by kernel_rfl
end Go.Proofs
namespace Go.Arm
open Go.Proofs Go.RowKit

theorem tabOK_eq {h : H} (e : tabOK h = true) : ∃ t t', h.get 0 = some (.cells firstC t false false) ∧ h.get 1 = some (.cells accC t' false false) := by
  unfold tabOK at e
  split at e
  · rename_i a t h0
    simp only [Bool.and_eq_true] at e
    obtain ⟨e1, e2⟩ := e
    split at e2
    · rename_i b t' h1
      exact ⟨t, t', by rw [h0, veqL_true e1], by rw [h1, veqL_true e2]⟩
    · cases e2
  · cases e

theorem tabs_of {E : Env} (hng : E.ng = 2) {β : Beta} {h : H} {S : Sc} {w : World} (r : RH E β h S w) (ht : tabOK h = true) : Lib.Utf8Tabs 0 1 w := by
  obtain ⟨t, t', h0, h1⟩ := tabOK_eq ht
  have cell : ∀ (g : Nat) (cs : List Value) (t : TypeId), g < E.ng → h.get g = some (.cells cs t false false) → ∀ (i : Nat) (v : Value), cs[i]? = some v → lit v = true → w.cell? ⟨g, i, none⟩ = some v := by
    intro g cs t hg hget i v hv hl
    obtain ⟨x, hx, hb, ho⟩ := r.glob g hg
    obtain ⟨y, hy, hk⟩ := r.blk g _ hget (by simp)
    rw [hx] at hy; cases hy
    obtain ⟨v', hv', hvr⟩ := hk.2.2.2.2.1 i v hv
    rw [hb, ho, Nat.zero_add] at hv'
    rw [hv', hvr.lit_inv hl]
  refine ⟨fun c hc => cell 0 _ _ (by omega) h0 c _ ?_ rfl, fun i hi => ⟨cell 1 _ _ (by omega) h1 (2 * i) _ ?_ rfl, cell 1 _ _ (by omega) h1 (2 * i + 1) _ ?_ rfl⟩⟩
  · simp [firstC, hc]
  · have key : ∀ j, j < 16 → accC[2 * j]? = some (.int .u8 (Lib.accLo j)) := by
      intro j hj
      match j, hj with
      | 0, _ => rfl
      | 1, _ => rfl
      | 2, _ => rfl
      | 3, _ => rfl
      | 4, _ => rfl
      | 5, _ => rfl
      | 6, _ => rfl
      | 7, _ => rfl
      | 8, _ => rfl
      | 9, _ => rfl
      | 10, _ => rfl
      | 11, _ => rfl
      | 12, _ => rfl
      | 13, _ => rfl
      | 14, _ => rfl
      | 15, _ => rfl
      | j + 16, hj => omega
    exact key i hi
  · have key : ∀ j, j < 16 → accC[2 * j + 1]? = some (.int .u8 (Lib.accHi j)) := by
      intro j hj
      match j, hj with
      | 0, _ => rfl
      | 1, _ => rfl
      | 2, _ => rfl
      | 3, _ => rfl
      | 4, _ => rfl
      | 5, _ => rfl
      | 6, _ => rfl
      | 7, _ => rfl
      | 8, _ => rfl
      | 9, _ => rfl
      | 10, _ => rfl
      | 11, _ => rfl
      | 12, _ => rfl
      | 13, _ => rfl
      | 14, _ => rfl
      | 15, _ => rfl
      | j + 16, hj => omega
    exact key i hi

theorem ren_g3 : Tryz.laysValid_ren.g 3 = 0 := by kernel_rfl
theorem ren_g4 : Tryz.laysValid_ren.g 4 = 1 := by kernel_rfl
theorem ren_f : Tryz.laysValid_ren.f 196 = 47 := by kernel_rfl

theorem g47_ok {E : Env} (hng : E.ng = 2) : CallsOK Tryz.prog E (fun f' args h => if f' = 47 then g47 args h else none) := by
  refine sum_ok ⟨_, Tryz.func47, by kernel_rfl, by kernel_rfl⟩ fun args h v h' e => ?_
  unfold g47 at e
  split at e
  · rename_i s
    cases hc : (Nat.ble s.size roomy && tabOK h) with
    | false => rw [hc] at e; cases e
    | true =>
      rw [hc] at e
      cases e
      simp only [Bool.and_eq_true] at hc
      refine ⟨rfl, rfl, fun β S w args' hv r => ?_⟩
      obtain ⟨s', t, rfl, h1, h2⟩ := hv.cases_cons
      obtain rfl := h2.cases_nil
      obtain rfl := h1.str_inv
      have hsz : s.size ≤ 9223372036854775807 := by
        have := Nat.le_of_ble_eq_true hc.1
        unfold roomy at this
        omega
      have := Any.utf8_ValidString Tryz.laysValid s w hsz (by rw [ren_g3, ren_g4]; exact tabs_of hng r hc.2)
      rw [ren_f] at this
      exact this
  · cases e

theorem all0 : AllOK Tryz.prog E0 := by
  refine allOK_of dr_env0 dr_fns dr_anns fun f g hg => ?_
  by_cases hf : f = 47
  · subst hf
    have : E0.sums.get 47 = some g47 := Tr.get_set_same 48 _ 47 _ (by omega)
    rw [this] at hg; cases hg
    exact g47_ok rfl
  · have : E0.sums.get f = none := (Tr.get_set_ne 48 _ 47 f _ hf).trans (Tr.get_leaf f)
    rw [this] at hg; cases hg

theorem g4_ok : CallsOK Tryz.prog E (fun f' args h => if f' = 4 then g4 args h else none) := by
  refine sum_ok ⟨_, Tryz.func4, by kernel_rfl, by kernel_rfl⟩ fun args h v h' e => ?_
  unfold g4 at e
  split at e
  · cases hc : tabOK h with
    | false => rw [hc] at e; cases e
    | true =>
      rw [hc] at e
      cases e
      refine ⟨rfl, rfl, fun β S w args' hv r => ?_⟩
      obtain rfl := hv.cases_nil
      have hev := awake_eval
      obtain ⟨⟨v, h1⟩, hev, hv⟩ := Option.map_eq_some_iff.1 hev
      simp only at hv
      subst hv
      obtain ⟨t, t', h0, h1⟩ := tabOK_eq hc
      refine closed_ok dr_env0 all0 hev rfl r rfl rfl fun b k hb => ?_
      have hlt : b < 2 := H.get_lt hb
      have hb01 : b = 0 ∨ b = 1 := by omega
      rcases hb01 with rfl | rfl
      · have : H0.get 0 = some (.cells firstC 0 false false) := rfl
        rw [this] at hb; cases hb
        exact ⟨_, _, rfl, fun v hv => by obtain ⟨c, _, rfl⟩ := List.mem_map.1 hv; rfl, _, h0⟩
      · have : H0.get 1 = some (.cells accC 0 false false) := rfl
        rw [this] at hb; cases hb
        exact ⟨_, _, rfl, fun v hv => by
          obtain ⟨c, _, hv⟩ := List.mem_flatMap.1 hv
          simp at hv
          rcases hv with rfl | rfl <;> rfl, _, h1⟩
  · cases e

theorem allE : AllOK Tryz.prog E := by
  refine allOK_of dr_env dr_fns dr_anns fun f g hg => ?_
  by_cases h4 : f = 4
  · subst h4
    have : E.sums.get 4 = some g4 := Tr.get_set_same 48 _ 4 _ (by omega)
    rw [this] at hg; cases hg
    exact g4_ok
  · have h1 : E.sums.get f = sums0.get f := Tr.get_set_ne 48 _ 4 f _ h4
    by_cases hf : f = 47
    · subst hf
      have : sums0.get 47 = some g47 := Tr.get_set_same 48 _ 47 _ (by omega)
      rw [h1, this] at hg; cases hg
      exact g47_ok rfl
    · have : sums0.get f = none := (Tr.get_set_ne 48 _ 47 f _ hf).trans (Tr.get_leaf f)
      rw [h1, this] at hg; cases hg

/-- what the evaluator answers, the program does -/
theorem eval_ok (N : Nat) : CallsOK Tryz.prog E (evalN E N).1 := (evalN_sound dr_env allE N).1
end Go.Arm
namespace Go.Arm
open Go.Proofs

def Tabs (h : H) : Prop := ∃ t t', h.get 0 = some (.cells firstC t false false) ∧ h.get 1 = some (.cells accC t' false false)
theorem veqL_lit : ∀ l : List Value, (∀ v ∈ l, ∃ k n, v = .int k n) → veqL l l = true
  | [], _ => rfl
  | v :: l, h => by
    obtain ⟨k, n, rfl⟩ := h v (by simp)
    simp only [veqL, veq1, decide_true, beq_self_eq_true, Bool.and_self, Bool.true_and]
    exact veqL_lit l fun v hv => h v (by simp [hv])
theorem Tabs.ok {h : H} (t : Tabs h) : tabOK h = true := by
  obtain ⟨t, t', h0, h1⟩ := t
  have a : veqL firstC firstC = true := veqL_lit _ fun v hv => by obtain ⟨c, _, rfl⟩ := List.mem_map.1 hv; exact ⟨_, _, rfl⟩
  have b : veqL accC accC = true := veqL_lit _ fun v hv => by
    obtain ⟨c, _, hv⟩ := List.mem_flatMap.1 hv
    simp at hv
    rcases hv with rfl | rfl <;> exact ⟨_, _, rfl⟩
  simp only [tabOK, h0, h1, a, b, Bool.and_self]
theorem Tabs.kp {X : Nat → Prop} {h h' : H} (t : Tabs h) (k : Kp X h h') (hx0 : ¬ X 0) (hx1 : ¬ X 1) : Tabs h' := by
  obtain ⟨t, t', h0, h1⟩ := t
  exact ⟨t, t', k.get h0 hx0, k.get h1 hx1⟩

theorem valid_spec {s : ByteArray} {h : H} (t : Tabs h) (hs : s.size ≤ roomy) : Ret E 47 [.string s] h fun v h' => v = .bool (Lib.validD s.data.toList) ∧ h' = h := by
  refine .of_sum (g := g47) (v := .bool (Lib.validD s.data.toList)) (h' := h) ?_ ?_ ⟨rfl, rfl⟩
  · exact (Tr.get_set_ne 48 _ 4 47 _ (by omega)).trans (Tr.get_set_same 48 _ 47 _ (by omega))
  · have : Nat.ble s.size roomy = true := Nat.ble_eq_true_of_le hs
    simp only [g47, this, t.ok, Bool.and_self, cond_true]

def zCel : Cel := ⟨false, false, 0, 0, bs [], 0, 0⟩
theorem zI1 : (-2 ^ 63 : Int) ≤ zCel.i := by decide
theorem zI2 : zCel.i < 2 ^ 63 := by decide
theorem zU1 : 0 ≤ zCel.u := by decide
theorem zU2 : zCel.u < 2 ^ 64 := by decide
theorem zS : zCel.s.size < 2 ^ 28 := by decide
theorem is_spec (k : Int) (h : H) : Ret E 87 [.int .i64 k] h fun v h' => v = .bool (decide (1 ≤ k ∧ k ≤ 6)) ∧ h' = h := by
  refine .of_fn rfl rfl (fun C L => plain_is_eq C L _ h) ?_
  simp only [plain_is, lget, asI_int, Option.bind_some]
  by_cases h1 : 1 ≤ k
  · have : decide (k ≥ 1) = true := by simpa using h1
    simp only [this, cond_true, Option.bind_some, h1, true_and]
    exact .ret ⟨rfl, rfl⟩
  · have : decide (k ≥ 1) = false := by simpa using h1
    simp only [this, cond_false, Option.bind_some, h1, false_and, decide_false]
    exact .ret ⟨rfl, rfl⟩
theorem far_spec (n : Int) (h : H) : Ret E 99 [.int .i64 n] h fun v h' => v = .bool (decide (¬ n.natAbs ≤ 2 ^ 53)) ∧ h' = h := by
  refine .of_fn rfl rfl (fun C L => plain_far_eq C L _ h) ?_
  simp only [plain_far, lget, asI_int, Option.bind_some]
  by_cases h1 : n < -9007199254740992
  · have : decide (n < -9007199254740992) = true := by simpa using h1
    simp only [this, cond_true, Option.bind_some]
    refine .ret ⟨?_, rfl⟩
    rw [decide_eq_true (by omega)]
  · have : decide (n < -9007199254740992) = false := by simpa using h1
    simp only [this, cond_false, Option.bind_some]
    refine .ret ⟨?_, rfl⟩
    congr 1
    by_cases h2 : n > 9007199254740992
    · rw [decide_eq_true h2, decide_eq_true (by omega)]
    · rw [decide_eq_false h2, decide_eq_false (by omega)]

/-- what a cell's reading comes to, on what is left: wrong (10, 12), of another form, or a cell and how many bytes it has -/
inductive CR where
  | err (e : Int)
  | bad (n : Nat)
  | ok (c : Cel) (n : Nat)
def cellD (k : Int) (l : List UInt8) : CR :=
  if k = 1 then match l with
    | [] => .err 10
    | b :: _ => if b.toNat ≤ 1 then .ok { zCel with b := decide (b.toNat = 1) } 1 else .bad 1
  else if k = 2 then (if l.length < 8 then .err 10 else .ok { zCel with i := IntKind.wrap .i64 (leD (l.take 8) : Nat) } 8)
  else if k = 3 then (if l.length < 8 then .err 10 else .ok { zCel with u := (leD (l.take 8) : Nat) } 8)
  else if k = 4 ∨ k = 5 then match txD 1048576 l with
    | .error e => .err e
    | .ok (t, n) => if k = 4 ∨ Lib.validD t = true then .ok { zCel with s := ⟨⟨t⟩⟩ } n else .bad n
  else match uvD 0 l with
    | .short => .err 10
    | .form => .err 12
    | .ok x n => match uvD 0 (l.drop n) with
      | .short => .err 10
      | .form => .err 12
      | .ok y m => if (unzI x).natAbs ≤ 2 ^ 53 ∧ (unzI y).natAbs ≤ 2 ^ 53 then .ok { zCel with re := FloatKind.nearest .f64 (unzI x), im := FloatKind.nearest .f64 (unzI y) } (n + m) else .bad (n + m)

theorem txD_ok {most : Nat} {l t : List UInt8} {n : Nat} (e : txD most l = .ok (t, n)) : n ≤ l.length ∧ uvarE t.length ++ t = l.take n ∧ t.length ≤ most ∧ t.length ≤ l.length := by
  unfold txD at e
  cases hd : uvD 0 l with
  | short => rw [hd] at e; cases e
  | form => rw [hd] at e; cases e
  | ok y c =>
    rw [hd] at e
    simp only at e
    obtain ⟨q1, q2, q3, _, _, _⟩ := uvD_ok l 0 y c (by omega) hd
    split at e
    · cases e
    split at e
    · cases e
    rename_i h1 h2
    simp only [Except.ok.injEq, Prod.mk.injEq] at e
    obtain ⟨rfl, rfl⟩ := e
    have hl : ((l.drop c).take y).length = y := by simp; omega
    refine ⟨by omega, ?_, by omega, by omega⟩
    rw [hl, q3, List.take_add]

theorem cellD_ok {k : Int} {l : List UInt8} {c : Cel} {n : Nat} (hk : 1 ≤ k ∧ k ≤ 6) (e : cellD k l = .ok c n) : CelOK c ∧ c.null = false ∧ n ≤ l.length ∧ putE k c = l.take n := by
  unfold cellD at e
  by_cases h1 : k = 1
  · subst h1
    rw [if_pos rfl] at e
    split at e
    · cases e
    · rename_i b l'
      split at e
      · rename_i hb
        cases e
        refine ⟨⟨zI1, zI2, zU1, zU2, zS⟩, rfl, by simp, ?_⟩
        have hb2 : b.toNat = 0 ∨ b.toNat = 1 := by omega
        simp only [putE, if_true, List.take_succ_cons, List.take_zero]
        rcases hb2 with hb2 | hb2
        · have : b = 0 := by have := UInt8.ofNat_toNat (x := b); rw [hb2] at this; exact this.symm
          subst this; simp
        · have : b = 1 := by have := UInt8.ofNat_toNat (x := b); rw [hb2] at this; exact this.symm
          subst this; simp
      · cases e
  rw [if_neg h1] at e
  have h8 : 8 ≤ l.length → (l.take 8).length = 8 := fun h => by simp; omega
  by_cases h2 : k = 2
  · subst h2
    rw [if_pos rfl] at e
    split at e
    · cases e
    · rename_i hl
      cases e
      have hlen := h8 (by omega)
      have hlt := leD_lt (l.take 8)
      rw [hlen] at hlt
      refine ⟨⟨?_, ?_, zU1, zU2, zS⟩, rfl, by omega, ?_⟩
      · show -2 ^ 63 ≤ IntKind.wrap .i64 _
        rw [wrap_i64']; omega
      · show IntKind.wrap .i64 _ < 2 ^ 63
        rw [wrap_i64']; omega
      · have hw : (IntKind.wrap .u64 (IntKind.wrap .i64 (leD (l.take 8) : Nat))).toNat = leD (l.take 8) := by
          rw [wrap_u64', wrap_i64']; omega
        show fixE 8 (IntKind.wrap .u64 (IntKind.wrap .i64 (leD (l.take 8) : Nat))).toNat = _
        rw [hw]
        have := fixE_leD (l.take 8)
        rwa [hlen] at this
  rw [if_neg h2] at e
  by_cases h3 : k = 3
  · subst h3
    rw [if_pos rfl] at e
    split at e
    · cases e
    · rename_i hl
      cases e
      have hlen := h8 (by omega)
      have hlt := leD_lt (l.take 8)
      rw [hlen] at hlt
      refine ⟨⟨zI1, zI2, ?_, ?_, zS⟩, rfl, by omega, ?_⟩
      · show 0 ≤ ((leD (l.take 8) : Nat) : Int); omega
      · show ((leD (l.take 8) : Nat) : Int) < 2 ^ 64; omega
      · show fixE 8 ((leD (l.take 8) : Nat) : Int).toNat = _
        rw [Int.toNat_natCast]
        have := fixE_leD (l.take 8)
        rwa [hlen] at this
  rw [if_neg h3] at e
  by_cases h45 : k = 4 ∨ k = 5
  · rw [if_pos h45] at e
    cases ht : txD 1048576 l with
    | error e' => rw [ht] at e; cases e
    | ok p =>
      obtain ⟨t, m⟩ := p
      rw [ht] at e
      simp only at e
      split at e
      · cases e
        obtain ⟨q1, q2, q3, q4⟩ := txD_ok ht
        have hsz : (⟨⟨t⟩⟩ : ByteArray).size = t.length := by rfl
        refine ⟨⟨zI1, zI2, zU1, zU2, ?_⟩, rfl, q1, ?_⟩
        · show (⟨⟨t⟩⟩ : ByteArray).size < 2 ^ 28; rw [hsz]; omega
        · rcases h45 with rfl | rfl
          · show uvarE (⟨⟨t⟩⟩ : ByteArray).size ++ t = _; rw [hsz]; exact q2
          · show uvarE (⟨⟨t⟩⟩ : ByteArray).size ++ t = _; rw [hsz]; exact q2
      · cases e
  rw [if_neg h45] at e
  have h6 : k = 6 := by omega
  subst h6
  cases hx : uvD 0 l with
  | short => rw [hx] at e; cases e
  | form => rw [hx] at e; cases e
  | ok x n1 =>
    rw [hx] at e
    simp only at e
    cases hy : uvD 0 (l.drop n1) with
    | short => rw [hy] at e; cases e
    | form => rw [hy] at e; cases e
    | ok y m =>
      rw [hy] at e
      simp only at e
      split at e
      · rename_i hb
        cases e
        obtain ⟨q1, q2, q3, _, _, q6⟩ := uvD_ok l 0 x n1 (by omega) hx
        obtain ⟨p1, p2, p3, _, _, p6⟩ := uvD_ok _ 0 y m (by omega) hy
        simp at p2
        refine ⟨⟨zI1, zI2, zU1, zU2, zS⟩, rfl, by omega, ?_⟩
        have hp : pointP (FloatKind.nearest .f64 (unzI x)) (FloatKind.nearest .f64 (unzI y)) = (unzI x, unzI y) := by
          unfold pointP
          rw [wholeP_near hb.1, wholeP_near hb.2]
          rfl
        show uvarE (zig (pointP _ _).1) ++ uvarE (zig (pointP _ _).2) = _
        simp only [hp]
        rw [zig_unz q6, zig_unz p6, q3, p3, List.take_add]
      · cases e

end Go.Arm
namespace Go.Arm
open Go.Proofs

theorem Kp.putNew {X : Nat → Prop} {h h1 : H} {b : Nat} (k : Kp X h h1) (x : Option Blk) (hb : h.next ≤ b) : Kp X h (h1.put b x) :=
  k.trans (.put _ _ (.inr hb))
theorem Kp.thenNew {X : Nat → Prop} {h h1 : H} (k : Kp X h h1) (x : Blk) : Kp X h (h1.new x) := k.then (.new _ _)

theorem get_new_self (h : H) (x : Blk) : (h.new x).get h.next = some x := by rw [get_new, if_pos rfl]
theorem ldA_full {h : H} {b n : Nat} {cs : List Value} {e : TypeId} {o l : Bool} (hg : h.get b = some (.cells cs e o l)) (hn : cs.length = n) : ldA n h b 0 = some (.agg ⟨cs⟩) := by
  unfold ldA
  rw [cellsAt_of hg (by omega), List.drop_zero, ← hn, List.take_length]
  rfl
theorem setAt_full {cs vs : List Value} (h : cs.length = vs.length) : setAt cs 0 vs = vs := by
  apply List.ext_getElem?
  intro i
  rw [setAt_get vs cs 0 i (by omega)]
  split
  · simp
  · rename_i hi
    rw [List.getElem?_eq_none (by omega), List.getElem?_eq_none (by omega)]
theorem stV_full {h : H} {b n : Nat} {cs vs : List Value} {e : TypeId} {l : Bool} (hg : h.get b = some (.cells cs e true l)) (hc : cs.length = n) (hv : vs.length = n) (h1 : vs.all one = true) : stV n h b 0 (.agg ⟨vs⟩) = some (h.put b (some (.cells vs e true l))) := by
  have e1 : (Value.agg ⟨vs⟩).cells = ⟨vs⟩ := rfl
  unfold stV
  rw [e1, if_pos (by simpa using hv), stC_of hg (by simp; omega) h1, setAt_full (by omega)]

theorem veq_celA (c : Cel) : veq (celA c) (celA c) = true := by
  simp [veq, celA, celV, veqL, veq1]
abbrev cz : List Value := [.bool false, .bool false, .int .i64 0, .int .u64 0, .string (bs []), .complex .f64 0 0]
theorem cz_eq : cz = celV zCel := rfl
theorem celV_one (c : Cel) : (celV c).all one = true := by simp [celV, one]
theorem celV_len (c : Cel) : (celV c).length = 6 := rfl

/-- how a cell's reading ends -/
def CrR (s : ByteArray) (p a : Nat) (h' : H) (v : Value) : CR → Prop
  | .err e => (∃ c q, v = .tuple #[celA c, .bool q]) ∧ ∃ a', a' ≤ s.size ∧ Rd h' p s a' e
  | .bad n => (∃ c, v = .tuple #[celA c, .bool false]) ∧ Rd h' p s (a + n) 0
  | .ok c n => v = .tuple #[celA c, .bool true] ∧ Rd h' p s (a + n) 0

theorem Rd.put {h : H} {p b : Nat} {s : ByteArray} {a : Nat} {e : Int} (r : Rd h p s a e) (hb : b ≠ p) (x : Option Blk) : Rd (h.put b x) p s a e := by
  unfold Rd at *
  rw [H.get_put_ne _ _ _ _ (Ne.symm hb)]; exact r
theorem Rd.new {h : H} {p : Nat} {s : ByteArray} {a : Nat} {e : Int} (r : Rd h p s a e) (x : Blk) : Rd (h.new x) p s a e := H.get_new_old r

theorem fin_read {h h' : H} {p : Nat} {s : ByteArray} {a : Nat} {e : Int} {c : Cel} {q : Bool} (hp : p < h.next) (k : Kp (Only p) h h') (hr : h'.get h.next = some (.cells cz 47 true false)) (hc : h'.get (h.next + 1) = some (.cells (celV c) 47 true false)) (r : Rd h' p s a e) :
    ∃ h2, ((ldA 6 h' (h.next + 1) 0).bind fun v10 => (stV 6 h' h.next 0 v10).bind fun h11 => (ldA 6 h11 h.next 0).bind fun v12 => some (Value.tuple #[v12, .bool q], h11)) = some (.tuple #[celA c, .bool q], h2) ∧ Rd h2 p s a e ∧ Kp (Only p) h h2 := by
  have hlt := H.get_lt hr
  refine ⟨h'.put h.next (some (.cells (celV c) 47 true false)), ?_, r.put (by omega) _, k.putNew _ (Nat.le_refl _)⟩
  rw [ldA_full hc (celV_len c), Option.bind_some, stV_full (n := 6) hr rfl (celV_len c) (celV_one c), Option.bind_some, ldA_full (H.get_put_same _ _ _ hlt) (celV_len c)]
  rfl

theorem cread_spec {k : Int} {h : H} {p : Nat} {s : ByteArray} {a : Nat} (hk : 1 ≤ k ∧ k ≤ 6) (r : Rd h p s a 0) (ha : a ≤ s.size) (hs : s.size ≤ 2 ^ 38) (ht : Tabs h) (hp : 2 ≤ p) :
    Ret E 88 [ptr p 0, .int .i64 k] h fun v h' => Kp (Only p) h h' ∧ CrR s p a h' v (cellD k (rest s a)) := by
  refine .of_fn rfl rfl (fun C L => plain_read_eq C L _ h) ?_
  have hpl := H.get_lt r
  obtain ⟨h3, hh3⟩ : ∃ h3, h3 = (h.new (.cells cz 47 true false)).new (.cells cz 47 true false) := ⟨_, rfl⟩
  have hn2 : (h.new (.cells cz 47 true false)).next = h.next + 1 := rfl
  have gr : h3.get h.next = some (.cells cz 47 true false) := by rw [hh3]; exact H.get_new_old (get_new_self _ _)
  have gc : h3.get (h.next + 1) = some (.cells (celV zCel) 47 true false) := by rw [hh3, ← hn2]; exact get_new_self _ _
  have k3 : Kp (Only p) h h3 := by rw [hh3]; exact (Kp.new _ _).thenNew _
  have r3 : Rd h3 p s a 0 := by rw [hh3]; exact (r.new _).new _
  have n3 : h3.next = h.next + 2 := by rw [hh3]; rfl
  have hrl := rest_length s a
  -- reads leave both cells as they are
  have kg : ∀ {h' : H}, Kp (Only p) h3 h' → Kp (Only p) h h' ∧ h'.get h.next = some (.cells cz 47 true false) ∧ h'.get (h.next + 1) = some (.cells (celV zCel) 47 true false) := fun k =>
    ⟨k3.then k, k.get gr (by simp only [Only]; omega), k.get gc (by simp only [Only]; omega)⟩
  -- a field is set
  have setF : ∀ {h' : H} (o : Nat) (v : Value) (c : Cel), h'.get (h.next + 1) = some (.cells (celV zCel) 47 true false) → o < 6 → one v = true → (celV zCel).set o v = celV c → stV 1 h' (h.next + 1) o v = some (h'.put (h.next + 1) (some (.cells (celV c) 47 true false))) := fun o v c hg ho h1 hc => by
    rw [stV1_of hg (by rw [celV_len]; exact ho) h1, hc]
  have fin : ∀ {h' : H} {a' : Nat} {e : Int} {c : Cel} {q : Bool}, Kp (Only p) h h' → h'.get h.next = some (.cells cz 47 true false) → h'.get (h.next + 1) = some (.cells (celV c) 47 true false) → Rd h' p s a' e → (∀ h2, Rd h2 p s a' e → CrR s p a h2 (.tuple #[celA c, .bool q]) (cellD k (rest s a))) →
      W E (fun _ _ => (ldA 6 h' (h.next + 1) 0).bind fun v10 => (stV 6 h' h.next 0 v10).bind fun h11 => (ldA 6 h11 h.next 0).bind fun v12 => some (Value.tuple #[v12, .bool q], h11)) fun z => Kp (Only p) h z.2 ∧ CrR s p a z.2 z.1 (cellD k (rest s a)) := by
    intro h' a' e c q kk g1 g2 rr hc
    obtain ⟨h2, e2, r2, k2⟩ := fin_read (q := q) hpl kk g1 g2 rr
    exact .congr (fun _ _ => e2) (.ret ⟨k2, hc h2 r2⟩)
  simp only [plain_read, lget, asI_int, Option.bind_some, ← hh3, hn2]
  by_cases h1 : k = 1
  · subst h1
    simp only [show ((1 : Int) == 1) = true from rfl, cond_true]
    refine .seq (rU8_spec r3 ha (by omega)) fun q ⟨kq, hq⟩ => ?_
    obtain ⟨q1, q2, q3⟩ := kg kq
    have hne : h.next + 1 ≠ p := by omega
    have hlt := H.get_lt q3
    rcases hq with ⟨he, _⟩ | ⟨_, hb, hv, hr⟩ | ⟨b, l, _, hb, hv, hr⟩
    · exact absurd rfl he
    · have e1 : stV 1 q.2 (h.next + 1) (0 + 1) (.bool (((0 : Int)) == 1)) = some (q.2.put (h.next + 1) (some (.cells (celV zCel) 47 true false))) := setF (0 + 1) _ zCel q3 (by omega) rfl rfl
      simp only [hv, asI_int, Option.bind_some, e1]
      exact fin (q1.putNew _ (by omega)) (by rw [H.get_put_ne _ _ _ _ (by omega)]; exact q2) (H.get_put_same _ _ _ hlt) (hr.put hne _) fun h2 r2 => by
        rw [hb]; exact ⟨⟨_, _, rfl⟩, a, ha, r2⟩
    · have hbi : (((b.toNat : Nat) : Int) == 1) = decide (b.toNat = 1) := by
        by_cases h : b.toNat = 1
        · rw [h]; rfl
        · have e1 : (((b.toNat : Nat) : Int) == 1) = false := by simp; omega
          rw [e1]; simp [h]
      have e1 : stV 1 q.2 (h.next + 1) (0 + 1) (.bool (((b.toNat : Nat) : Int) == 1)) = some (q.2.put (h.next + 1) (some (.cells (celV { zCel with b := decide (b.toNat = 1) }) 47 true false))) := by
        rw [hbi]; exact setF (0 + 1) _ _ q3 (by omega) rfl rfl
      simp only [hv, asI_int, Option.bind_some, e1]
      refine fin (q1.putNew _ (by omega)) (by rw [H.get_put_ne _ _ _ _ (by omega)]; exact q2) (H.get_put_same _ _ _ hlt) (hr.put hne _) fun h2 r2 => ?_
      rw [hb]
      by_cases hle : b.toNat ≤ 1
      · have e2 : decide (((b.toNat : Nat) : Int) ≤ 1) = true := by simp; omega
        rw [e2]
        simp only [cellD, if_true, hle]
        exact ⟨rfl, r2⟩
      · have e2 : decide (((b.toNat : Nat) : Int) ≤ 1) = false := by simp; omega
        rw [e2]
        simp only [cellD, if_true, hle, if_false]
        exact ⟨⟨_, rfl⟩, r2⟩
  have h1' : (k == 1) = false := by simp [h1]
  by_cases h2 : k = 2
  · subst h2
    simp only [h1', show ((2 : Int) == 2) = true from rfl, cond_true, cond_false]
    refine .seq (rU64_spec r3 ha (by omega)) fun q ⟨kq, hq⟩ => ?_
    obtain ⟨q1, q2, q3⟩ := kg kq
    have hne : h.next + 1 ≠ p := by omega
    have hlt := H.get_lt q3
    rcases hq with ⟨he, _⟩ | ⟨_, hb, hv, hr⟩ | ⟨_, hb, hv, hr⟩
    · exact absurd rfl he
    · have e1 : stV 1 q.2 (h.next + 1) (0 + 2) (.int .i64 (IntKind.wrap .i64 0)) = some (q.2.put (h.next + 1) (some (.cells (celV zCel) 47 true false))) := setF (0 + 2) _ zCel q3 (by omega) rfl rfl
      simp only [hv, asI_int, Option.bind_some, e1]
      exact fin (q1.putNew _ (by omega)) (by rw [H.get_put_ne _ _ _ _ (by omega)]; exact q2) (H.get_put_same _ _ _ hlt) (hr.put hne _) fun h2 r2 => by
        have : cellD 2 (rest s a) = .err 10 := by unfold cellD; rw [if_neg (by decide), if_pos rfl, if_pos (by omega)]
        rw [this]; exact ⟨⟨_, _, rfl⟩, a, ha, r2⟩
    · have e1 : stV 1 q.2 (h.next + 1) (0 + 2) (.int .i64 (IntKind.wrap .i64 (leD ((rest s a).take 8) : Nat))) = some (q.2.put (h.next + 1) (some (.cells (celV { zCel with i := IntKind.wrap .i64 (leD ((rest s a).take 8) : Nat) }) 47 true false))) := setF (0 + 2) _ _ q3 (by omega) rfl rfl
      simp only [hv, asI_int, Option.bind_some, e1]
      exact fin (q1.putNew _ (by omega)) (by rw [H.get_put_ne _ _ _ _ (by omega)]; exact q2) (H.get_put_same _ _ _ hlt) (hr.put hne _) fun h2 r2 => by
        have : cellD 2 (rest s a) = .ok { zCel with i := IntKind.wrap .i64 (leD ((rest s a).take 8) : Nat) } 8 := by unfold cellD; rw [if_neg (by decide), if_pos rfl, if_neg (by omega)]
        rw [this]; exact ⟨rfl, r2⟩
  have h2' : (k == 2) = false := by simp [h2]
  by_cases h3k : k = 3
  · subst h3k
    simp only [h1', h2', show ((3 : Int) == 3) = true from rfl, cond_true, cond_false]
    refine .seq (rU64_spec r3 ha (by omega)) fun q ⟨kq, hq⟩ => ?_
    obtain ⟨q1, q2, q3⟩ := kg kq
    have hne : h.next + 1 ≠ p := by omega
    have hlt := H.get_lt q3
    rcases hq with ⟨he, _⟩ | ⟨_, hb, hv, hr⟩ | ⟨_, hb, hv, hr⟩
    · exact absurd rfl he
    · have e1 : stV 1 q.2 (h.next + 1) (0 + 3) (.int .u64 0) = some (q.2.put (h.next + 1) (some (.cells (celV zCel) 47 true false))) := setF (0 + 3) _ zCel q3 (by omega) rfl rfl
      simp only [hv, asI_int, Option.bind_some, e1]
      exact fin (q1.putNew _ (by omega)) (by rw [H.get_put_ne _ _ _ _ (by omega)]; exact q2) (H.get_put_same _ _ _ hlt) (hr.put hne _) fun h2 r2 => by
        have : cellD 3 (rest s a) = .err 10 := by unfold cellD; rw [if_neg (by decide), if_neg (by decide), if_pos rfl, if_pos (by omega)]
        rw [this]; exact ⟨⟨_, _, rfl⟩, a, ha, r2⟩
    · have e1 : stV 1 q.2 (h.next + 1) (0 + 3) (.int .u64 (leD ((rest s a).take 8) : Nat)) = some (q.2.put (h.next + 1) (some (.cells (celV { zCel with u := (leD ((rest s a).take 8) : Nat) }) 47 true false))) := setF (0 + 3) _ _ q3 (by omega) rfl rfl
      simp only [hv, asI_int, Option.bind_some, e1]
      exact fin (q1.putNew _ (by omega)) (by rw [H.get_put_ne _ _ _ _ (by omega)]; exact q2) (H.get_put_same _ _ _ hlt) (hr.put hne _) fun h2 r2 => by
        have : cellD 3 (rest s a) = .ok { zCel with u := (leD ((rest s a).take 8) : Nat) } 8 := by unfold cellD; rw [if_neg (by decide), if_neg (by decide), if_pos rfl, if_neg (by omega)]
        rw [this]; exact ⟨rfl, r2⟩
  have h3' : (k == 3) = false := by simp [h3k]
  have hne : h.next + 1 ≠ p := by omega
  -- texts
  have text : k = 4 ∨ k = 5 → W E (fun C _ => (C 28 [ptr p 0, .int .i64 (1048576 : Int)] h3).bind fun p34 =>
      (asS p34.1).bind fun s35 => (stV 1 p34.2 (h.next + 1) (0 + 4) (.string s35)).bind fun h36 => (ldA 6 h36 (h.next + 1) 0).bind fun v37 =>
      cond (k == (4 : Int)) ((stV 6 h36 h.next 0 v37).bind fun h38 => (ldA 6 h38 h.next 0).bind fun v39 => some (.tuple #[v39, (.bool true)], h38))
      ((ldS h36 (h.next + 1) (0 + 4)).bind fun s40 => (C 47 [(.string s40)] h36).bind fun p41 => (asB p41.1).bind fun b42 =>
      (((ldA 6 p41.2 (h.next + 1) 0).bind fun v44 => some (veq v37 v44)) : Option Bool).bind fun b43 =>
      cond b43 ((stV 6 p41.2 h.next 0 v37).bind fun h45 => (ldA 6 h45 h.next 0).bind fun v46 => some (.tuple #[v46, (.bool b42)], h45)) none)) fun z => Kp (Only p) h z.2 ∧ CrR s p a z.2 z.1 (cellD k (rest s a)) := by
    intro h45
    have hcell : cellD k (rest s a) = match txD 1048576 (rest s a) with
        | .error e => .err e
        | .ok (t, n) => if k = 4 ∨ Lib.validD t = true then .ok { zCel with s := ⟨⟨t⟩⟩ } n else .bad n := by
      unfold cellD; rw [if_neg h1, if_neg h2, if_neg h3k, if_pos h45]; try rfl
    refine .seq (rText_spec r3 ha (by omega) 1048576 (by omega)) fun q ⟨kq, hq⟩ => ?_
    obtain ⟨q1, q2, q3⟩ := kg kq
    have hlt := H.get_lt q3
    rcases hq with ⟨he, _⟩ | ⟨_, hm⟩
    · exact absurd rfl he
    have main : ∀ (t : ByteArray) (a' : Nat) (e : Int), a' ≤ s.size → q.1 = .string t → Rd q.2 p s a' e → t.size ≤ roomy →
        (∀ h2 b, (k = 4 → b = true) → (k = 5 → b = Lib.validD t.data.toList) → Rd h2 p s a' e → CrR s p a h2 (.tuple #[celA { zCel with s := t }, .bool b]) (cellD k (rest s a))) →
        W E (fun C _ => (asS q.1).bind fun s35 => (stV 1 q.2 (h.next + 1) (0 + 4) (.string s35)).bind fun h36 => (ldA 6 h36 (h.next + 1) 0).bind fun v37 =>
      cond (k == (4 : Int)) ((stV 6 h36 h.next 0 v37).bind fun h38 => (ldA 6 h38 h.next 0).bind fun v39 => some (.tuple #[v39, (.bool true)], h38))
      ((ldS h36 (h.next + 1) (0 + 4)).bind fun s40 => (C 47 [(.string s40)] h36).bind fun p41 => (asB p41.1).bind fun b42 =>
      (((ldA 6 p41.2 (h.next + 1) 0).bind fun v44 => some (veq v37 v44)) : Option Bool).bind fun b43 =>
      cond b43 ((stV 6 p41.2 h.next 0 v37).bind fun h45 => (ldA 6 h45 h.next 0).bind fun v46 => some (.tuple #[v46, (.bool b42)], h45)) none)) fun z => Kp (Only p) h z.2 ∧ CrR s p a z.2 z.1 (cellD k (rest s a)) := by
      intro t a' e ha' hv hr hts hfin
      have e1 : stV 1 q.2 (h.next + 1) (0 + 4) (.string t) = some (q.2.put (h.next + 1) (some (.cells (celV { zCel with s := t }) 47 true false))) := setF (0 + 4) _ _ q3 (by omega) rfl rfl
      obtain ⟨h4, hh4⟩ : ∃ h4, h4 = q.2.put (h.next + 1) (some (.cells (celV { zCel with s := t }) 47 true false)) := ⟨_, rfl⟩
      have g4 : h4.get (h.next + 1) = some (.cells (celV { zCel with s := t }) 47 true false) := by rw [hh4]; exact H.get_put_same _ _ _ hlt
      have g3 : h4.get h.next = some (.cells cz 47 true false) := by rw [hh4, H.get_put_ne _ _ _ _ (by omega)]; exact q2
      have r4 : Rd h4 p s a' e := by rw [hh4]; exact hr.put hne _
      have k4 : Kp (Only p) h h4 := by rw [hh4]; exact q1.putNew _ (by omega)
      simp only [hv, asS, Option.bind_some, e1, ← hh4, ldA_full g4 (celV_len _)]
      obtain ⟨h5, e5, r5, k5⟩ := fin_read (q := true) hpl k4 g3 g4 r4
      simp only [ldA_full g4 (celV_len _), Option.bind_some] at e5
      rcases h45 with rfl | rfl
      · simp only [show ((4 : Int) == 4) = true from rfl, cond_true]
        refine .congr (fun _ _ => e5) (.ret ⟨k5, hfin h5 true (fun _ => rfl) (by omega) r5⟩)
      · have e2 : ldS h4 (h.next + 1) (0 + 4) = some t := ldS_of g4 rfl
        simp only [show ((5 : Int) == 4) = false from rfl, cond_false, e2, Option.bind_some]
        refine .seq (valid_spec (ht.kp k4 (by simp only [Only]; omega) (by simp only [Only]; omega)) hts) fun q5 ⟨hv5, hh5⟩ => ?_
        simp only [hv5, hh5, asB, Option.bind_some, ldA_full g4 (celV_len _)]
        have hvq : veq (.agg ⟨celV { zCel with s := t }⟩) (.agg ⟨celV { zCel with s := t }⟩) = true := veq_celA _
        simp only [hvq, cond_true]
        obtain ⟨h6, e6, r6, k6⟩ := fin_read (q := Lib.validD t.data.toList) hpl k4 g3 g4 r4
        simp only [ldA_full g4 (celV_len _), Option.bind_some] at e6
        refine .congr (fun _ _ => e6) (.ret ⟨k6, hfin h6 _ (by omega) (fun _ => rfl) r6⟩)
    rw [hcell]
    rw [hcell] at main
    cases htx : txD 1048576 (rest s a) with
    | error e =>
      rw [htx] at hm main
      obtain ⟨hv, hr⟩ := hm
      refine main (bs []) a e ha hv hr (by decide) fun h2 b _ _ r2 => ⟨⟨_, _, rfl⟩, a, ha, r2⟩
    | ok tn =>
      obtain ⟨t, n⟩ := tn
      rw [htx] at hm main
      obtain ⟨hv, hr⟩ := hm
      obtain ⟨t1, t2, t3, t4⟩ := txD_ok htx
      refine main ⟨⟨t⟩⟩ (a + n) 0 (by omega) hv hr ?_ fun h2 b b4 b5 r2 => ?_
      · show t.length ≤ roomy
        have : (1048576 : Nat) ≤ roomy := by decide
        omega
      · simp only
        rcases h45 with rfl | rfl
        · rw [b4 rfl]; simp only [true_or, if_true]; exact ⟨rfl, r2⟩
        · rw [b5 rfl]
          cases hvd : Lib.validD t with
          | true => simp only [or_true, if_true]; exact ⟨rfl, r2⟩
          | false => simp only [show ¬ ((5 : Int) = 4) by decide, Bool.false_eq_true, or_self, if_false]; exact ⟨⟨_, rfl⟩, r2⟩
  simp only [h1', h2', h3', cond_false]
  by_cases h4k : k = 4
  · subst h4k
    simp only [show ((4 : Int) == 4) = true from rfl, cond_true]
    have := text (.inl rfl)
    simp only [show ((4 : Int) == 4) = true from rfl, cond_true] at this
    exact this
  have h4' : (k == 4) = false := by simp [h4k]
  by_cases h5k : k = 5
  · subst h5k
    simp only [h4', show ((5 : Int) == 5) = true from rfl, cond_true, cond_false]
    have := text (.inr rfl)
    simp only [h4', cond_true, cond_false] at this
    exact this
  have h5' : (k == 5) = false := by simp [h5k]
  have h6 : k = 6 := by omega
  simp only [h4', h5', cond_false]
  have hcell : cellD k (rest s a) = match uvD 0 (rest s a) with
    | .short => .err 10
    | .form => .err 12
    | .ok x n => match uvD 0 ((rest s a).drop n) with
      | .short => .err 10
      | .form => .err 12
      | .ok y m => if (unzI x).natAbs ≤ 2 ^ 53 ∧ (unzI y).natAbs ≤ 2 ^ 53 then .ok { zCel with re := FloatKind.nearest .f64 (unzI x), im := FloatKind.nearest .f64 (unzI y) } (n + m) else .bad (n + m) := by
    unfold cellD; rw [if_neg h1, if_neg h2, if_neg h3k, if_neg (by omega)]; try rfl
  have main : ∀ (x y : Nat) (a' : Nat) (e : Int) (q : H), a' ≤ s.size → Kp (Only p) h3 q → Rd q p s a' e →
      (∀ h2, ¬ ((unzI x).natAbs ≤ 2 ^ 53 ∧ (unzI y).natAbs ≤ 2 ^ 53) → Rd h2 p s a' e → CrR s p a h2 (.tuple #[celA zCel, .bool false]) (cellD k (rest s a))) →
      (∀ h2, ((unzI x).natAbs ≤ 2 ^ 53 ∧ (unzI y).natAbs ≤ 2 ^ 53) → Rd h2 p s a' e → CrR s p a h2 (.tuple #[celA { zCel with re := FloatKind.nearest .f64 (unzI x), im := FloatKind.nearest .f64 (unzI y) }, .bool true]) (cellD k (rest s a))) →
      W E (fun C _ => (C 99 [(.int .i64 (unzI x))] q).bind fun p51 => (asB p51.1).bind fun b52 => ((cond b52 (some (true, p51.2))
          ((C 99 [(.int .i64 (unzI y))] p51.2).bind fun p53 => (asB p53.1).bind fun b54 => some (b54, p53.2))) : Option (Bool × H)).bind fun p55 =>
        cond p55.1 ((ldA 6 p55.2 (h.next + 1) 0).bind fun v56 => (stV 6 p55.2 h.next 0 v56).bind fun h57 => (ldA 6 h57 h.next 0).bind fun v58 => some (Value.tuple #[v58, (.bool false)], h57))
        ((cplxV (.float .f64 (FloatKind.f64.nearest (unzI x))) (.float .f64 (FloatKind.f64.nearest (unzI y)))).bind fun v59 => (stV 1 p55.2 (h.next + 1) (0 + 5) v59).bind fun h60 =>
          (ldA 6 h60 (h.next + 1) 0).bind fun v10 => (stV 6 h60 h.next 0 v10).bind fun h11 => (ldA 6 h11 h.next 0).bind fun v12 => some (.tuple #[v12, (.bool true)], h11))) fun z => Kp (Only p) h z.2 ∧ CrR s p a z.2 z.1 (cellD k (rest s a)) := by
    intro x y a' e q ha' kq hr hbad hok
    obtain ⟨q1, q2, q3⟩ := kg kq
    have hlt := H.get_lt q3
    refine .seq (far_spec _ _) fun z ⟨hz, hzh⟩ => ?_
    simp only [hz, hzh, asB, Option.bind_some]
    have bad : ¬ ((unzI x).natAbs ≤ 2 ^ 53 ∧ (unzI y).natAbs ≤ 2 ^ 53) → W E (fun _ _ => (ldA 6 q (h.next + 1) 0).bind fun v56 => (stV 6 q h.next 0 v56).bind fun h57 => (ldA 6 h57 h.next 0).bind fun v58 => some (Value.tuple #[v58, (.bool false)], h57)) fun z => Kp (Only p) h z.2 ∧ CrR s p a z.2 z.1 (cellD k (rest s a)) := fun hb =>
      fin q1 q2 q3 hr fun h2 r2 => hbad h2 hb r2
    by_cases hx : (unzI x).natAbs ≤ 2 ^ 53
    · have d1 : decide (¬ (unzI x).natAbs ≤ 2 ^ 53) = false := by simp [hx]
      simp only [d1, cond_false]
      refine .seq (Q1 := fun z => z.1 = decide (¬ (unzI y).natAbs ≤ 2 ^ 53) ∧ z.2 = q) (.seq (far_spec _ _) fun z ⟨hz, hzh⟩ => ?_) fun z ⟨z1, z2⟩ => ?_
      · simp only [hz, hzh, asB, Option.bind_some]
        exact .ret ⟨rfl, rfl⟩
      simp only [z1, z2]
      by_cases hy : (unzI y).natAbs ≤ 2 ^ 53
      · have d2 : decide (¬ (unzI y).natAbs ≤ 2 ^ 53) = false := by simp [hy]
        have e1 : stV 1 q (h.next + 1) (0 + 5) (.complex .f64 (FloatKind.f64.nearest (unzI x)) (FloatKind.f64.nearest (unzI y))) = some (q.put (h.next + 1) (some (.cells (celV { zCel with re := FloatKind.nearest .f64 (unzI x), im := FloatKind.nearest .f64 (unzI y) }) 47 true false))) := setF (0 + 5) _ _ q3 (by omega) rfl rfl
        simp only [d2, cond_false, cplxV, if_true, Option.bind_some, e1]
        exact fin (q1.putNew _ (by omega)) (by rw [H.get_put_ne _ _ _ _ (by omega)]; exact q2) (H.get_put_same _ _ _ hlt) (hr.put hne _) fun h2 r2 => hok h2 ⟨hx, hy⟩ r2
      · have d2 : decide (¬ (unzI y).natAbs ≤ 2 ^ 53) = true := by simp [hy]
        simp only [d2, cond_true]
        exact bad (by omega)
    · have d1 : decide (¬ (unzI x).natAbs ≤ 2 ^ 53) = true := by simp [hx]
      simp only [d1, cond_true, Option.bind_some]
      exact bad (by omega)
  refine .seq (rSvar_spec r3 ha (by omega)) fun q ⟨kq, hq⟩ => ?_
  rcases hq with ⟨he, _⟩ | ⟨_, hm⟩
  · exact absurd rfl he
  -- an error of the first one stays
  have stays : ∀ (e : Int) , e ≠ 0 → q.1 = .int .i64 (unzI 0) → Rd q.2 p s a e → cellD k (rest s a) = .err e → W E (fun C _ => (asI .i64 q.1).bind fun x48 => (C 98 [ptr p 0] q.2).bind fun p49 => (asI .i64 p49.1).bind fun x50 =>
      (C 99 [(.int .i64 x48)] p49.2).bind fun p51 => (asB p51.1).bind fun b52 => ((cond b52 (some (true, p51.2))
          ((C 99 [(.int .i64 x50)] p51.2).bind fun p53 => (asB p53.1).bind fun b54 => some (b54, p53.2))) : Option (Bool × H)).bind fun p55 =>
        cond p55.1 ((ldA 6 p55.2 (h.next + 1) 0).bind fun v56 => (stV 6 p55.2 h.next 0 v56).bind fun h57 => (ldA 6 h57 h.next 0).bind fun v58 => some (Value.tuple #[v58, (.bool false)], h57))
        ((cplxV (.float .f64 (FloatKind.f64.nearest x48)) (.float .f64 (FloatKind.f64.nearest x50))).bind fun v59 => (stV 1 p55.2 (h.next + 1) (0 + 5) v59).bind fun h60 =>
          (ldA 6 h60 (h.next + 1) 0).bind fun v10 => (stV 6 h60 h.next 0 v10).bind fun h11 => (ldA 6 h11 h.next 0).bind fun v12 => some (.tuple #[v12, (.bool true)], h11))) fun z => Kp (Only p) h z.2 ∧ CrR s p a z.2 z.1 (cellD k (rest s a)) := by
    intro e he hv hr hc
    simp only [hv, asI_int, Option.bind_some]
    refine .seq (rSvar_spec hr ha (by omega)) fun q' ⟨kq', hq'⟩ => ?_
    rcases hq' with ⟨_, hv', hr'⟩ | ⟨he', _⟩
    · simp only [hv', asI_int, Option.bind_some]
      exact main 0 0 a e q'.2 ha (kq.then kq') hr' (fun h2 _ r2 => by rw [hc]; exact ⟨⟨_, _, rfl⟩, a, ha, r2⟩) fun h2 _ r2 => by rw [hc]; exact ⟨⟨_, _, rfl⟩, a, ha, r2⟩
    · exact absurd he' he
  cases hx : uvD 0 (rest s a) with
  | short => rw [hx] at hm hcell; exact stays 10 (by omega) hm.1 hm.2 hcell
  | form => rw [hx] at hm hcell; exact stays 12 (by omega) hm.1 hm.2 hcell
  | ok x n =>
    rw [hx] at hm hcell
    simp only at hcell hm
    obtain ⟨q1, q2, q3, _, _, q6⟩ := uvD_ok _ 0 x n (by omega) hx
    obtain ⟨hv, hr⟩ := hm
    simp only [hv, asI_int, Option.bind_some]
    refine .seq (rSvar_spec hr (by omega) (by omega)) fun q' ⟨kq', hq'⟩ => ?_
    rcases hq' with ⟨he', _⟩ | ⟨_, hm'⟩
    · exact absurd rfl he'
    rw [← rest_drop] at hm'
    cases hy : uvD 0 ((rest s a).drop n) with
    | short =>
      rw [hy] at hm' hcell
      simp only at hcell hm'
      simp only [hm'.1, asI_int, Option.bind_some]
      exact main x 0 (a + n) 10 q'.2 (by omega) (kq.then kq') hm'.2 (fun h2 _ r2 => by rw [hcell]; exact ⟨⟨_, _, rfl⟩, a + n, by omega, r2⟩) fun h2 _ r2 => by rw [hcell]; exact ⟨⟨_, _, rfl⟩, a + n, by omega, r2⟩
    | form =>
      rw [hy] at hm' hcell
      simp only at hcell hm'
      simp only [hm'.1, asI_int, Option.bind_some]
      exact main x 0 (a + n) 12 q'.2 (by omega) (kq.then kq') hm'.2 (fun h2 _ r2 => by rw [hcell]; exact ⟨⟨_, _, rfl⟩, a + n, by omega, r2⟩) fun h2 _ r2 => by rw [hcell]; exact ⟨⟨_, _, rfl⟩, a + n, by omega, r2⟩
    | ok y m =>
      rw [hy] at hm' hcell
      simp only at hcell hm'
      obtain ⟨p1, p2, _⟩ := uvD_ok _ 0 y m (by omega) hy
      simp at p2
      simp only [hm'.1, asI_int, Option.bind_some]
      refine main x y (a + n + m) 0 q'.2 (by omega) (kq.then kq') hm'.2 (fun h2 hb r2 => ?_) fun h2 hb r2 => ?_
      · rw [hcell, if_neg hb]; exact ⟨⟨_, rfl⟩, by rw [← Nat.add_assoc]; exact r2⟩
      · rw [hcell, if_pos hb]; exact ⟨rfl, by rw [← Nat.add_assoc]; exact r2⟩

end Go.Arm
namespace Go.Arm
open Go.Proofs

theorem asB_bool (b : Bool) : asB (.bool b) = some b := rfl
theorem asS_str (b : ByteArray) : asS (.string b) = some b := rfl
theorem tup2_mk0 (a b : Value) : tup2 (.tuple #[a, b]) = some (a, b) := rfl
theorem rd : (∀ (x : Value) (l : List Value), lget (x :: l) 0 = x) ∧ (∀ (x : Value) (l : List Value) (n : Nat), lget (x :: l) (n + 1) = lget l n) ∧ (∀ (k : IntKind) (n : Int), asI k (.int k n) = some n) ∧ (∀ b : Bool, asB (.bool b) = some b) ∧ (∀ b : ByteArray, asS (.string b) = some b) ∧
    (∀ a b : Value, tup2 (.tuple #[a, b]) = some (a, b)) ∧ (∀ (α β : Type) (a : α) (f : α → Option β), (some a).bind f = f a) ∧ (∀ (α : Type) (a b : α), cond true a b = a) ∧ (∀ (α : Type) (a b : α), cond false a b = b) :=
  ⟨fun _ _ => rfl, fun _ _ _ => rfl, asI_int, asB_bool, asS_str, fun _ _ => rfl, fun _ _ _ _ => rfl, fun _ _ _ => rfl, fun _ _ _ => rfl⟩

theorem W.dec {E : Env} {R : Type} {p : Prop} [Decidable p] {e e' : CF → LF → Option R} {Q : R → Prop} (h1 : p → W E e Q) (h2 : ¬ p → W E e' Q) : W E (fun C L => cond (decide p) (e C L) (e' C L)) Q :=
  .ite (fun h => h1 (of_decide_eq_true h)) (fun h => h2 (of_decide_eq_false h))

theorem wrap_i64n {n : Nat} (h : n < 2 ^ 63) : IntKind.wrap .i64 (n : Int) = n := wrap_i64 (by omega) (by omega)
theorem wrap_succ {n : Nat} (h : n + 1 < 2 ^ 63) : IntKind.wrap .i64 ((n : Int) + 1) = ((n + 1 : Nat) : Int) := wrap_i64 (by omega) (by omega)

/-! ## lists -/
theorem flat_len {α : Type} {f : α → List Value} {w : Nat} (hf : ∀ x, (f x).length = w) : ∀ l : List α, (l.flatMap f).length = l.length * w
  | [] => by simp
  | x :: l => by rw [List.flatMap_cons, List.length_append, hf, flat_len hf l, List.length_cons, Nat.add_mul]; omega
theorem flat_at {α : Type} {f : α → List Value} {w : Nat} (hf : ∀ x, (f x).length = w) : ∀ (l : List α) (i : Nat) (hi : i < l.length), ((l.flatMap f).drop (i * w)).take w = f l[i]
  | x :: l, 0, _ => by
    rw [Nat.zero_mul, List.drop_zero, List.flatMap_cons, List.take_append_of_le_length (by rw [hf]; exact Nat.le_refl _), List.take_of_length_le (by rw [hf]; exact Nat.le_refl _)]; rfl
  | x :: l, i + 1, hi => by
    have h1 : (i + 1) * w = (f x).length + i * w := by rw [hf, Nat.add_mul]; omega
    rw [List.flatMap_cons, h1, List.drop_length_add_append]
    exact flat_at hf l i (by simpa using hi)
theorem flat_set {α : Type} {f : α → List Value} {w : Nat} (hf : ∀ x, (f x).length = w) (y : α) : ∀ (l : List α) (i : Nat), i < l.length → setAt (l.flatMap f) (i * w) (f y) = (l.set i y).flatMap f := by
  intro l i hi
  apply List.ext_getElem?
  intro j
  have hl := flat_len hf l
  have hm : i * w + w ≤ l.length * w := by rw [← Nat.succ_mul]; exact Nat.mul_le_mul_right _ hi
  rw [setAt_get _ _ _ _ (by rw [hf, hl]; exact hm), hf]
  have e1 : l.flatMap f = (l.take i).flatMap f ++ f l[i] ++ (l.drop (i + 1)).flatMap f := by
    rw [List.append_assoc, ← List.flatMap_cons, ← List.drop_eq_getElem_cons hi, ← List.flatMap_append, List.take_append_drop]
  have e2 : (l.set i y).flatMap f = (l.take i).flatMap f ++ f y ++ (l.drop (i + 1)).flatMap f := by
    rw [List.set_eq_take_append_cons_drop, if_pos hi]; simp
  have ht : ((l.take i).flatMap f).length = i * w := by rw [flat_len hf, List.length_take, Nat.min_eq_left (by omega)]
  rw [e1, e2]
  by_cases h1 : j < i * w
  · rw [if_neg (by omega), List.getElem?_append_left (by simp [ht, hf]; omega), List.getElem?_append_left (by omega), List.getElem?_append_left (by simp [ht, hf]; omega), List.getElem?_append_left (by omega)]
  · by_cases h2 : j < i * w + w
    · rw [if_pos (by omega), List.getElem?_append_left (by simp [ht, hf]; omega), List.getElem?_append_right (by omega), ht]
    · rw [if_neg (by omega), List.getElem?_append_right (by simp [ht, hf]; omega), List.getElem?_append_right (by simp [ht, hf]; omega)]
      simp [hf]
theorem flat_one {α : Type} {f : α → List Value} (hf : ∀ x, (f x).all one = true) (l : List α) : (l.flatMap f).all one = true := by
  simp only [List.all_eq_true, List.mem_flatMap]
  rintro v ⟨x, _, hv⟩
  exact List.all_eq_true.1 (hf x) v hv

/-- a list in memory, in a block from a number on -/
def Sl (w : Nat) (e : TypeId) (m : Nat) (h : H) (v : Value) (n : Nat) (cs : List Value) : Prop :=
  (v = .slice none 0 0 ∧ n = 0 ∧ cs = []) ∨ ∃ b l, m ≤ b ∧ v = .slice (some ⟨b, 0, none⟩) n n ∧ h.get b = some (.cells cs e true l) ∧ cs.length = n * w
theorem Sl.nil {w m : Nat} {e : TypeId} {h : H} : Sl w e m h (.slice none 0 0) 0 [] := .inl ⟨rfl, rfl, rfl⟩
theorem Sl.len {w m : Nat} {e : TypeId} {h : H} {v : Value} {n : Nat} {cs : List Value} (s : Sl w e m h v n cs) : lenV v = some n := by
  rcases s with ⟨rfl, rfl, rfl⟩ | ⟨b, l, _, rfl, _⟩ <;> rfl
theorem Sl.length {w m : Nat} {e : TypeId} {h : H} {v : Value} {n : Nat} {cs : List Value} (s : Sl w e m h v n cs) : cs.length = n * w := by
  rcases s with ⟨rfl, rfl, rfl⟩ | ⟨b, l, _, _, _, h⟩
  · simp
  · exact h
theorem Sl.one {w m : Nat} {e : TypeId} {h : H} {v : Value} {n : Nat} {cs : List Value} (s : Sl w e m h v n cs) : one v = true := by
  rcases s with ⟨rfl, rfl, rfl⟩ | ⟨b, l, _, rfl, _⟩ <;> rfl
theorem Sl.kp {X : Nat → Prop} {w m : Nat} {e : TypeId} {h h' : H} {v : Value} {n : Nat} {cs : List Value} (s : Sl w e m h v n cs) (k : Kp X h h') (hx : ∀ b, m ≤ b → ¬ X b) : Sl w e m h' v n cs := by
  rcases s with s | ⟨b, l, hm, hv, hg, hl⟩
  · exact .inl s
  · exact .inr ⟨b, l, hm, hv, k.get hg (hx b hm), hl⟩
theorem Sl.kpN {w m : Nat} {e : TypeId} {h h' : H} {v : Value} {n : Nat} {cs : List Value} (s : Sl w e m h v n cs) (k : Kp None' h h') : Sl w e m h' v n cs := s.kp k fun _ _ h => h
theorem Sl.kpO {w m p : Nat} {e : TypeId} {h h' : H} {v : Value} {n : Nat} {cs : List Value} (s : Sl w e m h v n cs) (k : Kp (Only p) h h') (hp : p < m) : Sl w e m h' v n cs := s.kp k fun b hb (h : b = p) => by omega
theorem Sl.low {w m m' : Nat} {e : TypeId} {h : H} {v : Value} {n : Nat} {cs : List Value} (s : Sl w e m h v n cs) (hm : m' ≤ m) : Sl w e m' h v n cs := by
  rcases s with s | ⟨b, l, hb, hv, hg, hl⟩
  · exact .inl s
  · exact .inr ⟨b, l, by omega, hv, hg, hl⟩
theorem Sl.blk {w m : Nat} {e : TypeId} {h : H} {v : Value} {n : Nat} {cs : List Value} (s : Sl w e m h v n cs) (hn : 0 < n) : ∃ b l, m ≤ b ∧ v = .slice (some ⟨b, 0, none⟩) n n ∧ h.get b = some (.cells cs e true l) ∧ cs.length = n * w := by
  rcases s with ⟨_, h, _⟩ | s
  · omega
  · exact s
theorem idx_off {w b o n c : Nat} {i : Nat} (hi : i < n) : idx w (.slice (some ⟨b, o, none⟩) n c) (i : Int) = some (b, o + i * w) := by
  simp only [idx]
  rw [if_pos (by omega)]
  rfl
theorem idx_at {w b n c : Nat} {i : Nat} (hi : i < n) : idx w (.slice (some ⟨b, 0, none⟩) n c) (i : Int) = some (b, i * w) := by rw [idx_off hi, Nat.zero_add]

/-- an element -/
theorem Sl.get {α : Type} {f : α → List Value} {w m : Nat} {e : TypeId} {h : H} {v : Value} {l : List α} (hf : ∀ x, (f x).length = w) (s : Sl w e m h v l.length (l.flatMap f)) {i : Nat} (hi : i < l.length) :
    ∃ b, m ≤ b ∧ idx w v (i : Int) = some (b, i * w) ∧ cellsAt h b (i * w) w = some (f l[i]) := by
  obtain ⟨b, lo, hm, rfl, hg, hl⟩ := s.blk (by omega)
  refine ⟨b, hm, idx_at hi, ?_⟩
  have hm : i * w + w ≤ l.length * w := by rw [← Nat.succ_mul]; exact Nat.mul_le_mul_right _ hi
  rw [cellsAt_of hg (by omega), flat_at hf l i hi]
theorem ldA_cells {h : H} {b o n : Nat} {vs : List Value} (e : cellsAt h b o n = some vs) : ldA n h b o = some (.agg ⟨vs⟩) := by unfold ldA; rw [e]; rfl
theorem cellAt_cells {h : H} {b o n : Nat} {vs : List Value} (e : cellsAt h b o n = some vs) {i : Nat} (hi : i < n) : cellAt h b (o + i) = vs[i]? := by
  unfold cellsAt at e
  unfold cellAt
  split at e
  · split at e
    · cases e
      rw [List.getElem?_take, if_pos hi, List.getElem?_drop]
    · cases e
  · cases e

theorem srcC_blk {w : Nat} {h : H} {b n : Nat} {cs : List Value} {e : TypeId} {o l : Bool} (hg : h.get b = some (.cells cs e o l)) (hl : cs.length = n * w) (c : Nat) : srcC w h (.slice (some ⟨b, 0, none⟩) n c) = some (n, cs) := by
  have : cellsAt h b 0 (n * w) = some cs := by rw [cellsAt_of hg (by omega), List.drop_zero, ← hl, List.take_length]
  unfold srcC
  simp only [this, Option.map_some]

/-- something is appended: the list lies in a new block after it -/
theorem Sl.app {w m bytes : Nat} {e : TypeId} {h : H} {v x : Value} {n k : Nat} {cs new : List Value} (s : Sl w e m h v n cs) (hx : srcC w h x = some (k, new)) (hk : new.length = k * w) (h1 : new.all Go.Arm.one = true) (hw : w ≠ 0) (hkp : 0 < k)
    (hc : cs.all Go.Arm.one = true) (hr : (n + k) * (bytes + 1) ≤ roomy) (hm : m ≤ h.next) :
    ∃ v' h', appA w bytes e h v x = some (v', h') ∧ Sl w e m h' v' (n + k) (cs ++ new) ∧ Kp (fun b => ∃ n c, v = .slice (some ⟨b, 0, none⟩) n c) h h' := by
  rcases s with ⟨rfl, rfl, rfl⟩ | ⟨b, l, hb, rfl, hg, hl⟩
  · refine ⟨.slice (some ⟨h.next, 0, none⟩) k k, h.new (.cells new e true true), ?_, .inr ⟨h.next, true, hm, by simp, by simpa using get_new_self _ _, by simpa using hk⟩, .new _ _⟩
    unfold appA
    rw [hx]
    simp only [Option.bind_some]
    rw [if_neg (by omega), if_pos (by simp [h1, hw]; simpa using hr)]
  · have hlt := H.get_lt hg
    have ha : appA w bytes e h (.slice (some ⟨b, 0, none⟩) n n) x = if l = true then some (.slice (some ⟨h.next, 0, none⟩) (n + k) (n + k), (h.put b none).new (.cells (cs ++ new) e true true)) else some (.slice (some ⟨h.next, 0, none⟩) (n + k) (n + k), h.new (.cells (cs ++ new) e true true)) := by
      unfold appA
      rw [hx]
      simp only [Option.bind_some]
      rw [if_neg (by omega), if_neg (by simp [h1, hw]; exact hr), hg]
      simp only [Nat.zero_add, and_true]
      rw [if_pos (by omega), List.drop_zero, ← hl, List.take_length]
      cases l <;> simp
    rw [ha]
    cases l with
    | true =>
      refine ⟨_, _, if_pos rfl, .inr ⟨h.next, true, hm, rfl, ?_, by rw [List.length_append, hl, hk, Nat.add_mul]⟩, ?_⟩
      · have : (h.put b none).next = h.next := rfl
        rw [← this]; exact get_new_self _ _
      · exact (Kp.put (X := fun b' => ∃ n' c', (Value.slice (some ⟨b, 0, none⟩) n n) = .slice (some ⟨b', 0, none⟩) n' c') h (b := b) none ⟨n, n, rfl⟩).then (.new _ _)
    | false =>
      exact ⟨_, _, if_neg (by simp), .inr ⟨h.next, true, hm, rfl, get_new_self _ _, by rw [List.length_append, hl, hk, Nat.add_mul]⟩, .new _ _⟩

theorem bV_flat (l : List Bool) : l.map Value.bool = l.flatMap fun b => [.bool b] := by induction l <;> simp_all
theorem celV_flat1 (l : List Cel) : (l.flatMap celV).all Go.Arm.one = true := flat_one celV_one l
theorem Sl.pos {w m : Nat} {e : TypeId} {h : H} {v : Value} {n : Nat} {cs : List Value} (s : Sl w e m h v n cs) : ∀ b n' c, v = .slice (some ⟨b, 0, none⟩) n' c → m ≤ b := by
  intro b n' c hv
  rcases s with ⟨rfl, _⟩ | ⟨b', l, hb, rfl, _⟩
  · cases hv
  · cases hv; exact hb
/-- what an appending keeps, seen from a number on -/
theorem Sl.appKp {w m : Nat} {e : TypeId} {h h' : H} {v : Value} {n : Nat} {cs : List Value} (s : Sl w e m h v n cs) (k : Kp (fun b => ∃ n c, v = .slice (some ⟨b, 0, none⟩) n c) h h') : Kp (fun b => m ≤ b) h h' :=
  k.weaken fun b ⟨n', c, hv⟩ => s.pos b n' c hv

end Go.Arm
namespace Go.Arm
open Go.Proofs

theorem bldT_47 : bldT E 47 [] = some (celA zCel) := by kernel_rfl
theorem tup2_mk (a b : Value) : tup2 (.tuple #[a, b]) = some (a, b) := rfl
theorem cel_st {h : H} {b : Nat} {x : List Value} {e : TypeId} {l : Bool} (hg : h.get b = some (.cells x e true l)) (hx : x.length = 6) (c : Cel) : stV 6 h b 0 (celA c) = some (h.put b (some (.cells (celV c) e true l))) :=
  stV_full hg hx (celV_len c) (celV_one c)
theorem cel_ld {h : H} {b : Nat} {c : Cel} {e : TypeId} {o l : Bool} (hg : h.get b = some (.cells (celV c) e o l)) : ldA 6 h b 0 = some (celA c) := ldA_full hg (celV_len c)
theorem cel_fin {h : H} {b : Nat} {x : List Value} {e : TypeId} {l : Bool} (hg : h.get b = some (.cells x e true l)) (hx : x.length = 6) (c : Cel) (r : Value) :
    ((stV 6 h b 0 (celA c)).bind fun h22 => (ldA 6 h22 b 0).bind fun v23 => some (Value.tuple #[v23, r], h22)) = some (.tuple #[celA c, r], h.put b (some (.cells (celV c) e true l))) := by
  rw [cel_st hg hx c, Option.bind_some, cel_ld (H.get_put_same _ _ _ (H.get_lt hg)), Option.bind_some]
theorem oneL_cel (c : Cel) : oneL (celA c).cells.toList = some (celV c) := celA_one c

def getD (k : Int) (l : List UInt8) : Except Int (Cel × Nat) :=
  match cellD k l with
  | .err e => .error e
  | .bad _ => .error 12
  | .ok c n => .ok (c, n)
theorem txD_err {most : Nat} {l : List UInt8} {e : Int} (h : txD most l = .error e) : e = 10 ∨ e = 12 := by
  unfold txD at h
  split at h
  · cases h; omega
  · cases h; omega
  · split at h
    · cases h; omega
    · split at h
      · cases h; omega
      · cases h
theorem cellD_err {k : Int} {l : List UInt8} {e : Int} (h : cellD k l = .err e) : e = 10 ∨ e = 12 := by
  unfold cellD at h
  repeat' split at h
  all_goals first
    | (cases h; omega)
    | (cases h; exact txD_err ‹_›)
    | cases h
theorem cellD_bad {k : Int} {l : List UInt8} {n : Nat} (h : cellD k l = .bad n) : n ≤ l.length := by
  unfold cellD at h
  by_cases h1 : k = 1
  · rw [if_pos h1] at h
    split at h
    · cases h
    · split at h
      · cases h
      · cases h; simp
  rw [if_neg h1] at h
  by_cases h2 : k = 2
  · rw [if_pos h2] at h
    split at h <;> cases h
  rw [if_neg h2] at h
  by_cases h3 : k = 3
  · rw [if_pos h3] at h
    split at h <;> cases h
  rw [if_neg h3] at h
  by_cases h4 : k = 4 ∨ k = 5
  · rw [if_pos h4] at h
    split at h
    · cases h
    · rename_i t m ht
      split at h
      · cases h
      · cases h; exact (txD_ok ht).1
  rw [if_neg h4] at h
  cases hx : uvD 0 l with
  | short => rw [hx] at h; cases h
  | form => rw [hx] at h; cases h
  | ok x n1 =>
    rw [hx] at h
    simp only at h
    cases hy : uvD 0 (l.drop n1) with
    | short => rw [hy] at h; cases h
    | form => rw [hy] at h; cases h
    | ok y m =>
      rw [hy] at h
      simp only at h
      obtain ⟨q1, q2, _⟩ := uvD_ok l 0 x n1 (by omega) hx
      obtain ⟨p1, p2, _⟩ := uvD_ok _ 0 y m (by omega) hy
      simp at p2
      split at h
      · cases h
      · cases h; omega
theorem getD_err {k : Int} {l : List UInt8} {e : Int} (h : getD k l = .error e) : e = 10 ∨ e = 12 := by
  unfold getD at h
  split at h
  · rename_i hx; cases h; exact cellD_err hx
  · cases h; omega
  · cases h
theorem getD_ok {k : Int} {l : List UInt8} {c : Cel} {n : Nat} (hk : 1 ≤ k ∧ k ≤ 6) (h : getD k l = .ok (c, n)) : CelOK c ∧ c.null = false ∧ n ≤ l.length ∧ putE k c = l.take n := by
  unfold getD at h
  split at h
  · cases h
  · cases h
  · rename_i hx; cases h; exact cellD_ok hk hx

def GetR (s : ByteArray) (p a : Nat) (h' : H) (v : Value) : Except Int (Cel × Nat) → Prop
  | .error e => v = .tuple #[celA zCel, .int .i64 e] ∧ ∃ a' e', a' ≤ s.size ∧ Rd h' p s a' e'
  | .ok (c, n) => v = .tuple #[celA c, .int .i64 0] ∧ Rd h' p s (a + n) 0

theorem get_spec {k : Int} {h : H} {p : Nat} {s : ByteArray} {a : Nat} (hk : 1 ≤ k ∧ k ≤ 6) (r : Rd h p s a 0) (ha : a ≤ s.size) (hs : s.size ≤ 2 ^ 38) (ht : Tabs h) (hp : 2 ≤ p) :
    Ret E 61 [ptr p 0, .int .i64 k] h fun v h' => Kp (Only p) h h' ∧ GetR s p a h' v (getD k (rest s a)) := by
  refine .of_fn rfl rfl (fun C L => plain_Get_eq C L _ h) ?_
  have hpl := H.get_lt r
  obtain ⟨h1, hh1⟩ : ∃ h1, h1 = h.new (.cells cz 47 true false) := ⟨_, rfl⟩
  have g1 : h1.get h.next = some (.cells cz 47 true false) := by rw [hh1]; exact get_new_self _ _
  have k1 : Kp (Only p) h h1 := by rw [hh1]; exact .new _ _
  have r1 : Rd h1 p s a 0 := by rw [hh1]; exact r.new _
  have n1 : h1.next = h.next + 1 := by rw [hh1]; rfl
  simp only [plain_Get, ← hh1]
  simp only [rd, nilT, show (some (⟨p, 0, none⟩ : Addr)).isNone = false from rfl]
  refine .seq (is_spec k h1) fun q ⟨q1, q2⟩ => ?_
  simp only [rd, q1, q2, hk, and_self, decide_true, Bool.not_true]
  refine .seq (cread_spec hk r1 ha hs (ht.kp k1 (by simp only [Only]; omega) (by simp only [Only]; omega)) hp) fun q ⟨kq, hq⟩ => ?_
  obtain ⟨v, h2⟩ := q
  simp only at kq hq
  have k2 := k1.then kq
  have g2 : h2.get h.next = some (.cells cz 47 true false) := kq.get g1 (by simp only [Only]; omega)
  have hl2 := H.get_lt g2
  -- what was read lies in a cell of its own
  have main : ∀ (c : Cel) (b : Bool) (a' : Nat) (e : Int), v = .tuple #[celA c, .bool b] → Rd h2 p s a' e → (∀ h5, e ≠ 0 → Rd h5 p s a' e → GetR s p a h5 (.tuple #[celA zCel, .int .i64 e]) (getD k (rest s a))) →
      (∀ h5, e = 0 → b = false → Rd h5 p s a' e → GetR s p a h5 (.tuple #[celA zCel, .int .i64 12]) (getD k (rest s a))) → (∀ h5, e = 0 → b = true → Rd h5 p s a' e → GetR s p a h5 (.tuple #[celA c, .int .i64 0]) (getD k (rest s a))) →
      W E (fun C _ => (tup2 v).bind fun p13 => (asB p13.2).bind fun b14 => (stV 6 (h2.new (.cells cz 47 true false)) h2.next 0 p13.1).bind fun h16 => (C 29 [ptr p 0] h16).bind fun p17 => (asI .i64 p17.1).bind fun x18 =>
        cond (x18 != (0 : Int)) ((bldT E 47 []).bind fun v19 => (C 29 [ptr p 0] p17.2).bind fun p20 => (asI .i64 p20.1).bind fun x21 => (stV 6 p20.2 h.next 0 v19).bind fun h22 => (ldA 6 h22 h.next 0).bind fun v23 => some (Value.tuple #[v23, (.int .i64 x21)], h22)) (
        cond (!b14) ((bldT E 47 []).bind fun v24 => (stV 6 p17.2 h.next 0 v24).bind fun h25 => (ldA 6 h25 h.next 0).bind fun v26 => some (.tuple #[v26, (.int .i64 (12 : Int))], h25)) (
        (ldA 6 p17.2 h2.next 0).bind fun v27 => (stV 6 p17.2 h.next 0 v27).bind fun h28 => (ldA 6 h28 h.next 0).bind fun v29 => some (.tuple #[v29, (.int .i64 (0 : Int))], h28)))) fun z => Kp (Only p) h z.2 ∧ GetR s p a z.2 z.1 (getD k (rest s a)) := by
    intro c b a' e hv hr hE hF hO
    obtain ⟨h3, hh3⟩ : ∃ h3, h3 = (h2.new (.cells cz 47 true false)).put h2.next (some (.cells (celV c) 47 true false)) := ⟨_, rfl⟩
    have e3 : stV 6 (h2.new (.cells cz 47 true false)) h2.next 0 (celA c) = some h3 := by rw [hh3]; exact cel_st (get_new_self _ _) rfl c
    have k3 : Kp (Only p) h h3 := by rw [hh3]; exact (k2.thenNew _).putNew _ (by omega)
    have r3 : Rd h3 p s a' e := by rw [hh3]; exact (hr.new _).put (by have := H.get_lt hr; omega) _
    have g3 : h3.get h.next = some (.cells cz 47 true false) := by rw [hh3, H.get_put_ne _ _ _ _ (by omega)]; exact H.get_new_old g2
    have g3' : h3.get h2.next = some (.cells (celV c) 47 true false) := by rw [hh3]; exact H.get_put_same _ _ _ (by rw [H.next_new]; omega)
    simp only [hv, tup2_mk]
    simp only [rd, e3]
    refine .seq (err_spec r3) fun q ⟨q1, q2⟩ => ?_
    simp only [rd, q1, q2]
    have fin : ∀ (c' : Cel) (r : Value), (∀ h5, Rd h5 p s a' e → GetR s p a h5 (.tuple #[celA c', r]) (getD k (rest s a))) → W E (fun _ _ => (stV 6 h3 h.next 0 (celA c')).bind fun h22 => (ldA 6 h22 h.next 0).bind fun v23 => some (Value.tuple #[v23, r], h22)) fun z => Kp (Only p) h z.2 ∧ GetR s p a z.2 z.1 (getD k (rest s a)) := fun c' r hh =>
      .congr (fun _ _ => cel_fin g3 rfl c' r) (.ret ⟨k3.putNew _ (Nat.le_refl _), hh _ (r3.put (by omega) _)⟩)
    by_cases he : e = 0
    · subst he
      simp only [rd, show ((0 : Int) != 0) = false from rfl]
      cases b with
      | false =>
        simp only [rd, Bool.not_false, bldT_47]
        exact fin zCel _ fun h5 r5 => hF h5 rfl rfl r5
      | true =>
        simp only [rd, Bool.not_true, cel_ld g3']
        exact fin c _ fun h5 r5 => hO h5 rfl rfl r5
    · simp only [rd, show (e != 0) = true by simp [he], bldT_47]
      refine .seq (err_spec r3) fun q ⟨q1, q2⟩ => ?_
      simp only [rd, q1, q2]
      exact fin zCel _ fun h5 r5 => hE h5 he r5
  have hG : getD k (rest s a) = match cellD k (rest s a) with
    | .err e => .error e
    | .bad _ => .error 12
    | .ok c n => .ok (c, n) := rfl
  rw [hG] at main ⊢
  cases hc : cellD k (rest s a) with
  | err e =>
    rw [hc] at hq main
    obtain ⟨⟨c, b, hv⟩, a', ha', hr⟩ := hq
    have he := cellD_err hc
    exact main c b a' e hv hr (fun h5 _ r5 => ⟨rfl, a', e, ha', r5⟩) (fun _ h0 => by omega) (fun _ h0 => by omega)
  | bad n =>
    rw [hc] at hq main
    obtain ⟨⟨c, hv⟩, hr⟩ := hq
    exact main c false (a + n) 0 hv hr (fun _ h0 => absurd rfl h0) (fun h5 _ _ r5 => ⟨rfl, a + n, 0, by have := cellD_bad hc; rw [rest_length] at this; omega, r5⟩) (fun _ _ h0 => by cases h0)
  | ok c n =>
    rw [hc] at hq main
    obtain ⟨hv, hr⟩ := hq
    exact main c true (a + n) 0 hv hr (fun _ h0 => absurd rfl h0) (fun _ _ h0 => by cases h0) (fun h5 _ _ r5 => ⟨rfl, r5⟩)

end Go.Arm
namespace Go.Arm
open Go.Proofs

theorem st_at {h : H} {b o n : Nat} {x : List Value} {e : TypeId} {l : Bool} {vs : List Value} (hg : h.get b = some (.cells x e true l)) (hn : vs.length = n) (ho : o + n ≤ x.length) (h1 : vs.all one = true) :
    stV n h b o (.agg ⟨vs⟩) = some (h.put b (some (.cells (setAt x o vs) e true l))) := by
  have e1 : (Value.agg ⟨vs⟩).cells = ⟨vs⟩ := rfl
  unfold stV
  rw [e1, if_pos (by simpa using hn), stC_of hg (by omega) h1]
abbrev fn (n : Nat) : Value := .func (.func n) #[] #[]
abbrev kz : List Value := List.replicate 21 .nilFunc
/-- the kinds -/
def kindL : List Value := [.nilFunc, .nilFunc, .nilFunc, fn 71, fn 72, fn 73, fn 71, fn 74, fn 75, fn 71, fn 76, fn 77, fn 71, fn 78, fn 79, fn 80, fn 78, fn 79, fn 81, fn 83, fn 84]
theorem bldT_110 (a b c : Nat) : bldT E 110 [(0, fn a), (1, fn b), (2, fn c)] = some (.agg ⟨[fn a, fn b, fn c]⟩) := by kernel_rfl

theorem kinds_spec (h : H) : Ret E 50 [] h fun v h' => v = .agg ⟨kindL⟩ ∧ Kp None' h h' := by
  refine .of_fn rfl rfl (fun C L => schema_kinds_eq C L _ h) ?_
  have hz : ([.nilFunc, .nilFunc, .nilFunc, .nilFunc, .nilFunc, .nilFunc, .nilFunc, .nilFunc, .nilFunc, .nilFunc, .nilFunc, .nilFunc, .nilFunc, .nilFunc, .nilFunc, .nilFunc, .nilFunc, .nilFunc, .nilFunc, .nilFunc, .nilFunc] : List Value) = kz := rfl
  obtain ⟨h1, hh1⟩ : ∃ h1, h1 = h.new (.cells kz 111 true false) := ⟨_, rfl⟩
  obtain ⟨h2, hh2⟩ : ∃ h2, h2 = h1.new (.cells kz 111 true false) := ⟨_, rfl⟩
  have n1 : h1.next = h.next + 1 := by rw [hh1]; rfl
  have k2 : Kp None' h h2 := by rw [hh2, hh1]; exact (Kp.new _ _).thenNew _
  have g : h2.get h1.next = some (.cells kz 111 true false) := by rw [hh2]; exact get_new_self _ _
  have g0 : h2.get h.next = some (.cells kz 111 true false) := by rw [hh2]; exact H.get_new_old (by rw [hh1]; exact get_new_self _ _)
  -- a kind is set
  have step : ∀ {h' : H} {x : List Value} (o a b c : Nat), Kp None' h h' → h'.get h1.next = some (.cells x 111 true false) → h'.get h.next = some (.cells kz 111 true false) → x.length = 21 → o + 3 ≤ 21 →
      ∃ h'', stV 3 h' h1.next o (.agg ⟨[fn a, fn b, fn c]⟩) = some h'' ∧ Kp None' h h'' ∧ h''.get h1.next = some (.cells (setAt x o [fn a, fn b, fn c]) 111 true false) ∧ h''.get h.next = some (.cells kz 111 true false) := by
    intro h' x o a b c k g g0 hl ho
    refine ⟨_, st_at g rfl (by omega) rfl, k.putNew _ (by omega), H.get_put_same _ _ _ (H.get_lt g), ?_⟩
    rw [H.get_put_ne _ _ _ _ (by omega)]; exact g0
  obtain ⟨a1, e1, b1, c1, d1⟩ := step (0 + (Int.toNat (1 : Int)) * 3) 71 72 73 k2 g g0 rfl (by decide)
  obtain ⟨a2, e2, b2, c2, d2⟩ := step (0 + (Int.toNat (2 : Int)) * 3) 71 74 75 b1 c1 d1 rfl (by decide)
  obtain ⟨a3, e3, b3, c3, d3⟩ := step (0 + (Int.toNat (3 : Int)) * 3) 71 76 77 b2 c2 d2 rfl (by decide)
  obtain ⟨a4, e4, b4, c4, d4⟩ := step (0 + (Int.toNat (4 : Int)) * 3) 71 78 79 b3 c3 d3 rfl (by decide)
  obtain ⟨a5, e5, b5, c5, d5⟩ := step (0 + (Int.toNat (5 : Int)) * 3) 80 78 79 b4 c4 d4 rfl (by decide)
  obtain ⟨a6, e6, b6, c6, d6⟩ := step (0 + (Int.toNat (6 : Int)) * 3) 81 83 84 b5 c5 d5 rfl (by decide)
  have fin : ldA 21 a6 h1.next 0 = some (.agg ⟨kindL⟩) := ldA_full c6 rfl
  have s7 : stV 21 a6 h.next 0 (.agg ⟨kindL⟩) = some (a6.put h.next (some (.cells kindL 111 true false))) := stV_full (n := 21) d6 rfl rfl rfl
  have l7 : ldA 21 (a6.put h.next (some (.cells kindL 111 true false))) h.next 0 = some (.agg ⟨kindL⟩) := ldA_full (H.get_put_same _ _ _ (H.get_lt d6)) rfl
  simp only [schema_kinds, hz, ← hh1, ← hh2, bldT_110, Option.bind_some, e1, e2, e3, e4, e5, e6, fin, s7, l7, show (decide (0 ≤ (1 : Int)) && decide ((1 : Int) < ((7 : Nat) : Int))) = true from rfl,
    show (decide (0 ≤ (2 : Int)) && decide ((2 : Int) < ((7 : Nat) : Int))) = true from rfl, show (decide (0 ≤ (3 : Int)) && decide ((3 : Int) < ((7 : Nat) : Int))) = true from rfl, show (decide (0 ≤ (4 : Int)) && decide ((4 : Int) < ((7 : Nat) : Int))) = true from rfl,
    show (decide (0 ≤ (5 : Int)) && decide ((5 : Int) < ((7 : Nat) : Int))) = true from rfl, show (decide (0 ≤ (6 : Int)) && decide ((6 : Int) < ((7 : Nat) : Int))) = true from rfl, cond_true]
  exact .ret ⟨rfl, b6.putNew _ (Nat.le_refl _)⟩

/-! ## the kinds' functions -/
def wholeB (b : Nat) : Bool := (Ieee.double.order b cLo == some .gt || Ieee.double.order b cLo == some .eq) && (Ieee.double.order b cHi == some .lt || Ieee.double.order b cHi == some .eq) && (match f2i .i64 (.float .f64 b) with | some n => Ieee.double.order (FloatKind.nearest .f64 n) b == some .eq | none => false)

theorem every_spec (c : Cel) (h : H) : Ret E 71 [celA c] h fun v h' => v = .bool true ∧ Kp None' h h' := by
  refine .of_fn rfl rfl (fun C L => schema_every_eq C L _ h) ?_
  simp only [schema_every]
  simp only [rd, oneL_cel]
  exact .ret ⟨rfl, .new _ _⟩
theorem k7_spec (c : Cel) {h : H} (ht : Tabs h) (h2 : 2 ≤ h.next) (hc : CelOK c) : Ret E 80 [celA c] h fun v h' => v = .bool (Lib.validD c.s.data.toList) ∧ Kp None' h h' := by
  refine .of_fn rfl rfl (fun C L => schema_kinds_7_eq C L _ h) ?_
  simp only [schema_kinds_7]
  have : ldS (h.new (.cells (celV c) 47 true false)) h.next (0 + 4) = some c.s := ldS_of (get_new_self _ _) rfl
  have hs := hc.s
  simp only [rd, oneL_cel, this]
  refine .seq (valid_spec (ht.kp (.new (X := None') _ _) (fun h => h) (fun h => h)) (by unfold roomy; omega)) fun q ⟨q1, q2⟩ => ?_
  simp only [rd, q1, q2]
  exact .ret ⟨rfl, .new _ _⟩

/-- a cell without what its kind has -/
def bareC (k : Int) (c : Cel) : Cel :=
  if k = 1 then { c with b := false } else if k = 2 then { c with i := 0 } else if k = 3 then { c with u := 0 } else if k = 4 ∨ k = 5 then { c with s := bs [] } else if k = 6 then { c with re := 0, im := 0 } else c
/-- a closure that sets one field -/
theorem bare_of {f : Nat} {o : Nat} {z : Value} {c c' : Cel} {h : H} {fn : Func} (hs : E.sums.get f = none) (hf : E.fns.get f = some fn)
    (he : ∀ C L, fnK E C L f fn [celA c] h = (oneL (celA c).cells.toList).bind fun l2 => (stV 1 ((h.new (.cells l2 47 true false)).new (.cells cz 47 true false)) h.next (0 + o) z).bind fun h4 => (ldA 6 h4 h.next 0).bind fun v5 =>
      (stV 6 h4 (h.new (.cells l2 47 true false)).next 0 v5).bind fun h6 => (ldA 6 h6 (h.new (.cells l2 47 true false)).next 0).bind fun v7 => some (v7, h6))
    (ho : o < 6) (h1 : one z = true) (hc : (celV c).set (0 + o) z = celV c') : Ret E f [celA c] h fun v h' => v = celA c' ∧ Kp None' h h' := by
  refine .of_fn hs hf he ?_
  have n1 : (h.new (.cells (celV c) 47 true false)).next = h.next + 1 := rfl
  obtain ⟨h3, hh3⟩ : ∃ h3, h3 = (h.new (.cells (celV c) 47 true false)).new (.cells cz 47 true false) := ⟨_, rfl⟩
  have g : h3.get h.next = some (.cells (celV c) 47 true false) := by rw [hh3]; exact H.get_new_old (get_new_self _ _)
  have g2 : h3.get (h.next + 1) = some (.cells cz 47 true false) := by rw [hh3, ← n1]; exact get_new_self _ _
  have k3 : Kp None' h h3 := by rw [hh3]; exact (Kp.new _ _).thenNew _
  have e1 : stV 1 h3 h.next (0 + o) z = some (h3.put h.next (some (.cells (celV c') 47 true false))) := by
    rw [stV1_of g (by rw [celV_len]; omega) h1, hc]
  have hlt := H.get_lt g
  have hlt2 := H.get_lt g2
  obtain ⟨h4, hh4⟩ : ∃ h4, h4 = h3.put h.next (some (.cells (celV c') 47 true false)) := ⟨_, rfl⟩
  have g4 : h4.get h.next = some (.cells (celV c') 47 true false) := by rw [hh4]; exact H.get_put_same _ _ _ hlt
  have g4' : h4.get (h.next + 1) = some (.cells cz 47 true false) := by rw [hh4, H.get_put_ne _ _ _ _ (by omega)]; exact g2
  simp only [oneL_cel, Option.bind_some, ← hh3, n1, e1, ← hh4, cel_ld g4, cel_st g4' rfl, cel_ld (H.get_put_same _ _ _ (H.get_lt g4'))]
  exact .ret ⟨rfl, by rw [hh4]; exact (k3.putNew _ (Nat.le_refl _)).putNew _ (by omega)⟩
theorem bare1 (c : Cel) (h : H) : Ret E 72 [celA c] h fun v h' => v = celA { c with b := false } ∧ Kp None' h h' := bare_of (o := 1) (z := .bool false) rfl rfl (fun C L => schema_kinds_1_eq C L _ h) (by omega) rfl rfl
theorem bare2 (c : Cel) (h : H) : Ret E 74 [celA c] h fun v h' => v = celA { c with i := 0 } ∧ Kp None' h h' := bare_of (o := 2) (z := .int .i64 0) rfl rfl (fun C L => schema_kinds_3_eq C L _ h) (by omega) rfl rfl
theorem bare3 (c : Cel) (h : H) : Ret E 76 [celA c] h fun v h' => v = celA { c with u := 0 } ∧ Kp None' h h' := bare_of (o := 3) (z := .int .u64 0) rfl rfl (fun C L => schema_kinds_5_eq C L _ h) (by omega) rfl rfl
theorem bare4 (c : Cel) (h : H) : Ret E 78 [celA c] h fun v h' => v = celA { c with s := bs [] } ∧ Kp None' h h' := bare_of (o := 4) (z := .string (bs [])) rfl rfl (fun C L => schema_noText_eq C L _ h) (by omega) rfl rfl
theorem bare6 (c : Cel) (h : H) : Ret E 83 [celA c] h fun v h' => v = celA { c with re := 0, im := 0 } ∧ Kp None' h h' := bare_of (o := 5) (z := .complex .f64 0 0) rfl rfl (fun C L => schema_kinds_9_eq C L _ h) (by omega) rfl rfl

/-- equality by kind -/
def equC (k : Int) (a b : Cel) : Bool :=
  if k = 1 then a.b == b.b else if k = 2 then a.i == b.i else if k = 3 then a.u == b.u else if k = 4 ∨ k = 5 then seq a.s b.s else feq .f64 a.re b.re && feq .f64 a.im b.im
theorem equ1 (a b : Cel) (h : H) : Ret E 73 [celA a, celA b] h fun v h' => v = .bool (a.b == b.b) ∧ Kp None' h h' := by
  refine .of_fn rfl rfl (fun C L => schema_kinds_2_eq C L _ h) ?_
  simp only [schema_kinds_2]
  simp only [rd, oneL_cel, ldB_of (H.get_new_old (get_new_self h (.cells (celV a) 47 true false))) (show (celV a)[0 + 1]? = some (.bool a.b) from rfl), ldB_of (get_new_self (h.new (.cells (celV a) 47 true false)) (.cells (celV b) 47 true false)) (show (celV b)[0 + 1]? = some (.bool b.b) from rfl)]
  exact .ret ⟨rfl, (Kp.new _ _).thenNew _⟩
theorem equ2 (a b : Cel) (h : H) : Ret E 75 [celA a, celA b] h fun v h' => v = .bool (a.i == b.i) ∧ Kp None' h h' := by
  refine .of_fn rfl rfl (fun C L => schema_kinds_4_eq C L _ h) ?_
  simp only [schema_kinds_4]
  simp only [rd, oneL_cel, ldI_of (H.get_new_old (get_new_self h (.cells (celV a) 47 true false))) (show (celV a)[0 + 2]? = some (.int .i64 a.i) from rfl), ldI_of (get_new_self (h.new (.cells (celV a) 47 true false)) (.cells (celV b) 47 true false)) (show (celV b)[0 + 2]? = some (.int .i64 b.i) from rfl)]
  exact .ret ⟨rfl, (Kp.new _ _).thenNew _⟩
theorem equ3 (a b : Cel) (h : H) : Ret E 77 [celA a, celA b] h fun v h' => v = .bool (a.u == b.u) ∧ Kp None' h h' := by
  refine .of_fn rfl rfl (fun C L => schema_kinds_6_eq C L _ h) ?_
  simp only [schema_kinds_6]
  simp only [rd, oneL_cel, ldI_of (H.get_new_old (get_new_self h (.cells (celV a) 47 true false))) (show (celV a)[0 + 3]? = some (.int .u64 a.u) from rfl), ldI_of (get_new_self (h.new (.cells (celV a) 47 true false)) (.cells (celV b) 47 true false)) (show (celV b)[0 + 3]? = some (.int .u64 b.u) from rfl)]
  exact .ret ⟨rfl, (Kp.new _ _).thenNew _⟩
theorem equ4 (a b : Cel) (h : H) : Ret E 79 [celA a, celA b] h fun v h' => v = .bool (seq a.s b.s) ∧ Kp None' h h' := by
  refine .of_fn rfl rfl (fun C L => schema_text_eq C L _ h) ?_
  simp only [schema_text]
  simp only [rd, oneL_cel, ldS_of (H.get_new_old (get_new_self h (.cells (celV a) 47 true false))) (show (celV a)[0 + 4]? = some (.string a.s) from rfl), ldS_of (get_new_self (h.new (.cells (celV a) 47 true false)) (.cells (celV b) 47 true false)) (show (celV b)[0 + 4]? = some (.string b.s) from rfl)]
  exact .ret ⟨rfl, (Kp.new _ _).thenNew _⟩
theorem cop_eql (a b c d : Nat) : fop .eql (.complex .f64 a b) (.complex .f64 c d) = some (.bool (feq .f64 a c && feq .f64 b d)) := rfl
theorem equ6 (a b : Cel) (h : H) : Ret E 84 [celA a, celA b] h fun v h' => v = .bool (feq .f64 a.re b.re && feq .f64 a.im b.im) ∧ Kp None' h h' := by
  refine .of_fn rfl rfl (fun C L => schema_kinds_10_eq C L _ h) ?_
  simp only [schema_kinds_10]
  simp only [rd, oneL_cel, ldV_of (H.get_new_old (get_new_self h (.cells (celV a) 47 true false))) (show (celV a)[0 + 5]? = some (.complex .f64 a.re a.im) from rfl) rfl, ldV_of (get_new_self (h.new (.cells (celV a) 47 true false)) (.cells (celV b) 47 true false)) (show (celV b)[0 + 5]? = some (.complex .f64 b.re b.im) from rfl) rfl, cop_eql]
  exact .ret ⟨rfl, (Kp.new _ _).thenNew _⟩

end Go.Arm
