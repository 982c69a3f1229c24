/- Parts put together; the language's own functions; one operation.
   Drawn regions: numbers are set aside, blocks are made under them, holes are filled.
   The language's own functions; one operation.
   Regions in the text's order: the evaluator tells what the model does.
   Code: the evaluator tells what the model does.
   Code, whole: the evaluator tells what the model does.
   Functions: the evaluator tells what the model does. -/
import Derived.Test.YtcambejnmifhmaaGreatDoorArm2
import Derived.Laws.Tables
import Derived.Great.BuildSlice
import Derived.Test.YtcambejnmifhmaaGreatDoorArm1
import Derived.CallsIn
import Derived.RangeFuncRecord
import Derived.RangeFuncIn
import Derived.Scope
namespace Go.Arm
variable {R : Type} {E : Env} {P : Program} {C : CF} {L : LF} {o : Oper} {tm : List Value} {h : H} {K : Value → H → Option R} {res : R}

theorem foldl_setAt : ∀ (vs : List Value) (cs : Array Value) (off j : Nat), ((vs.zipIdx j).foldl (fun cs (p : Value × Nat) => cs.setIfInBounds (off + p.2) p.1) cs).toList = setAt cs.toList (off + j) vs
  | [], _, _, _ => rfl
  | v :: vs, cs, off, j => by
    simp only [List.zipIdx_cons, List.foldl_cons, setAt]
    rw [foldl_setAt vs _ off (j + 1)]
    simp [Nat.add_assoc]

theorem VL.setAt {β : Beta} : ∀ (vs vs' cs cs' : List Value) (off : Nat), VL β cs cs' → VL β vs vs' → VL β (Arm.setAt cs off vs) (Arm.setAt cs' off vs')
  | [], vs', cs, cs', off, hc, hv => by rw [hv.cases_nil]; exact hc
  | v :: vs, vs', cs, cs', off, hc, hv => by
    obtain ⟨v', t, rfl, h1, h2⟩ := hv.cases_cons
    simp only [Arm.setAt]
    refine VL.setAt vs t _ _ _ ⟨by simp [hc.1], fun i u u' a b => ?_⟩ h2
    rw [List.getElem?_set] at a b
    by_cases hi : off = i
    · subst hi
      rw [if_pos rfl] at a b
      split at a
      · split at b
        · cases a; cases b; exact h1
        · cases b
      · cases a
    · rw [if_neg hi] at a b; exact hc.2 i u u' a b

/-- related parts -/
def PL (β : Beta) (l l' : List (Nat × Value)) : Prop := l.length = l'.length ∧ ∀ (i : Nat) (u u' : Nat × Value), l[i]? = some u → l'[i]? = some u' → u.1 = u'.1 ∧ VR β u.2 u'.2

theorem fill_rel {β : Beta} (place : Nat → Option (Nat × Nat)) (pl : List (Nat × Nat)) (hpl : ∀ i q, pl[i]? = some q → place i = some q) : ∀ (parts parts' : List (Nat × Value)) (cells : List Value) (A : Array Value) (l : List Value),
    fillL pl cells parts = some l → VL β cells A.toList → PL β parts parts' → ∃ A', Instr.fill place A parts' = some A' ∧ VL β l A'.toList
  | [], parts', cells, A, l, e, hc, hp => by
    cases e
    have : parts' = [] := List.length_eq_zero_iff.1 (by simpa using hp.1.symm)
    subst this
    exact ⟨A, rfl, hc⟩
  | (i, v) :: parts, [], cells, A, l, e, hc, hp => by simp [PL] at hp
  | (i, v) :: parts, (i', v') :: parts', cells, A, l, e, hc, hp => by
    obtain ⟨h1, h2⟩ := hp.2 0 _ _ rfl rfl
    simp only at h1 h2
    subst h1
    simp only [fillL] at e
    split at e
    · rename_i off size hq
      split at e
      · rename_i hcond
        obtain ⟨hs, hle, hone⟩ := hcond
        have hv := h2.cells' (List.all_eq_true.1 hone)
        have hs' : v'.cells.size = size := by rw [← hs]; have := hv.1; simpa using this.symm
        have hA : A.size = cells.length := by have := hc.1; simpa using this.symm
        have hf := foldl_setAt v'.cells.toList A off 0
        have hz : v'.cells.zipIdx.foldl (fun cs (x : Value × Nat) => cs.setIfInBounds (off + x.2) x.1) A = (v'.cells.toList.zipIdx 0).foldl (fun cs (p : Value × Nat) => cs.setIfInBounds (off + p.2) p.1) A := by
          rw [← Array.foldl_toList, Array.toList_zipIdx]
        have hvl : VL β (setAt cells off v.cells.toList) (v'.cells.zipIdx.foldl (fun cs (x : Value × Nat) => cs.setIfInBounds (off + x.2) x.1) A).toList := by
          rw [hz, hf]
          exact VL.setAt _ _ _ _ _ hc hv
        obtain ⟨A', hA', hvl'⟩ := fill_rel place pl hpl parts parts' _ _ l e hvl ⟨by have := hp.1; simpa using this, fun j u u' a b => hp.2 (j + 1) u u' (by simpa using a) (by simpa using b)⟩
        refine ⟨A', ?_, hvl'⟩
        simp only [Instr.fill, hpl i _ hq, hs', ne_eq, not_true_eq_false, decide_false, Bool.false_or, decide_eq_true_eq]
        rw [if_neg (by omega)]
        exact hA'
      · cases e
    · cases e

theorem placesF_some (hE : EnvOK P E) : ∀ (fl : List Field) (pl : List (Nat × Nat)), placesF E (fl.map fun f => (f.offset, f.type)) = some pl → fl.mapM (fun f => (P.info? f.type).map fun i => (f.offset, i.size)) = some pl
  | [], pl, e => by cases e; rfl
  | f :: fl, pl, e => by
    simp only [List.map_cons, placesF] at e
    split at e
    · rename_i i hi
      obtain ⟨r, hr, rfl⟩ := Option.map_eq_some_iff.1 e
      obtain ⟨g, hg, hgs, _⟩ := (hE.tys _ i hi).inf
      simp [List.mapM_cons, hg, hgs, placesF_some hE fl r hr]
    · cases e

theorem parts_rel {β : Beta} {S : Sc} {w : World} (r : RH E β h S w) {a : Act} (ht : TmR β tm a) (ps : Array (Nat × Operand)) :
    PL β (ps.toList.map fun p => (p.1, opv E tm p.2)) (ps.map fun (i, x) => (i, a.eval x)).toList := by
  refine ⟨by simp, fun i u u' hu hu' => ?_⟩
  simp only [Array.toList_map, List.getElem?_map] at hu hu'
  cases hp : ps.toList[i]? with
  | none => rw [hp] at hu; cases hu
  | some p =>
    rw [hp] at hu hu'
    cases hu; cases hu'
    exact ⟨rfl, opv_rel r ht p.2⟩

theorem sim_build (hE : EnvOK P E) {t : Nat} {ps : Array (Nat × Operand)} (ho : o.op = .build t ps) (hk : stepK E C L o tm h K = some res) : ∃ v h', K v h' = some res ∧ Sim E P o tm h v h' := by
  simp only [stepK, ho] at hk
  obtain ⟨v, hv, hk⟩ := Option.bind_eq_some_iff.1 hk
  refine ⟨_, _, hk, fun β S w a ht r => ?_⟩
  unfold bldT at hv
  split at hv
  case h_2 => cases hv
  rename_i i pl hi hpl
  obtain ⟨l, hl, rfl⟩ := Option.map_eq_some_iff.1 hv
  have hok := hE.tys t i hi
  obtain ⟨f, hf, hfs, _⟩ := hok.inf
  have hpr := parts_rel r ht ps
  have hz0 : VL β i.zero i.zero := VL.refl_closed β hok.cl
  have goal : ∀ A', P.built t (ps.map fun (i, x) => (i, a.eval x)).toList = some A' → VL β l A'.toList → Res E P (execOp a.eval o) (.agg ⟨l⟩) h β S w := by
    intro A' hb hvl
    refine Res.same r (v' := .agg A') ?_ hvl.agg
    rw [show execOp a.eval o = (do pure (.value (← Instr.build t (ps.map fun (i, x) => (i, a.eval x))))) by simp only [execOp, ho]]
    simp only [Sem.run_bind, run_build w t _ A' hb, Result.andThen_ok, Sem.run_pure]
  unfold places at hpl
  rw [hi] at hpl
  split at hpl
  · rename_i _ _ _ fs _ _ heq
    have hty : i.ty = .struct fs := by rw [Option.some.inj heq]
    have hu := hok.und
    rw [hty] at hu
    obtain ⟨fl, hfu, hfl⟩ := hu
    obtain ⟨z, hz, hzz⟩ := hok.zv (.inr (by rw [hty]; rfl)) f hf
    have hzc : z = .agg ⟨i.zero⟩ := by
      have : zeroV i = .agg ⟨i.zero⟩ := by unfold zeroV; rw [hty]
      rw [this] at hzz
      rcases hzz with h | h
      · cases h
      · exact h
    rw [← hfl] at hpl
    have hm := placesF_some hE fl.toList pl hpl
    obtain ⟨A', hA', hvl⟩ := fill_rel (β := β) (pl.toArray[·]?) pl (fun i q hq => by simpa using hq) _ _ i.zero ⟨i.zero⟩ l hl hz0 hpr
    refine goal A' ?_ hvl
    simp only [Program.built, hf, hfu, hz, hm, hzc, Value.cells]
    exact hA'
  · rename_i _ _ _ n e _ _ heq
    have hty : i.ty = .array n e := by rw [Option.some.inj heq]
    have hu := hok.und
    rw [hty] at hu
    split at hpl
    case h_2 => cases hpl
    rename_i j hj
    obtain ⟨g, hg, hgs, _⟩ := (hE.tys e j hj).inf
    obtain ⟨z, hz, hzz⟩ := hok.zv (.inr (by rw [hty]; rfl)) f hf
    have hzc : z = .agg ⟨i.zero⟩ := by
      have : zeroV i = .agg ⟨i.zero⟩ := by unfold zeroV; rw [hty]
      rw [this] at hzz
      rcases hzz with h | h
      · cases h
      · exact h
    cases hpl
    obtain ⟨A', hA', hvl⟩ := fill_rel (β := β) (fun i => some (i * j.size, j.size)) _ (fun i q hq => by
      rw [List.getElem?_map] at hq
      cases hr : (List.range n)[i]? with
      | none => rw [hr] at hq; cases hq
      | some k =>
        rw [hr] at hq
        cases hq
        have := (List.getElem?_eq_some_iff.1 hr)
        obtain ⟨h1, h2⟩ := this
        simp at h2
        subst h2
        rfl) _ _ i.zero ⟨i.zero⟩ l hl hz0 hpr
    refine goal A' ?_ hvl
    simp only [Program.built, hf, show P.underlying t = some (.array n e) from hu, hz, hg, hzc, hgs, Value.cells]
    exact hA'
  · cases hpl

theorem bldS_run (hE : EnvOK P E) {t e n : Nat} (hu : P.underlying t = some (.slice e)) {ps : Array (Nat × Operand)} {l : List Value} (hl : bldS E t n (ps.toList.map fun p => (p.1, opv E tm p.2)) = some l) (hte : ∃ i, E.tys.get t = some i ∧ i.ty = .slice e)
    {β : Beta} {S : Sc} {w : World} (r : RH E β h S w) {a : Act} (ht : TmR β tm a) (ho : o.op = .buildSlice t n ps) :
    ∃ A : Array Value, VL β l A.toList ∧ (execOp a.eval o).run P w = .ok (.value (.slice (some ⟨w.heap.size, 0, none⟩) n n)) (w.alloc (.cells A e)) ∧ ∀ u ∈ l, one u = true := by
  obtain ⟨it, hit, hty⟩ := hte
  unfold bldS at hl
  rw [hit] at hl
  split at hl
  case h_2 => cases hl
  rename_i _ _ _ e' _ _ heq
  have he : e' = e := by
    have h1 := Option.some.inj heq
    rw [h1] at hty
    simp only at hty
    cases hty; rfl
  subst he
  split at hl
  case h_2 => cases hl
  rename_i i hi
  split at hl
  case isFalse => cases hl
  rename_i hcond
  obtain ⟨hle, hne⟩ := hcond
  obtain ⟨l', hf', hl⟩ := Option.bind_eq_some_iff.1 hl
  split at hl
  case isFalse => cases hl
  rename_i hone
  cases hl
  have hok := hE.tys e' i hi
  obtain ⟨f, hf, hfs, _, hz⟩ := hok.inf
  obtain ⟨z, hz1, hz2⟩ := hz hne
  have hzn : i.zero ≠ [] := by intro h; simp [h] at hne
  have hzl : 0 < i.size := by rw [← hok.zs]; exact List.length_pos_iff.2 hzn
  have hpr := parts_rel r ht ps
  have hrun : (execOp a.eval o) = (do pure (.value (← Instr.buildSlice t n (ps.map fun (i, x) => (i, a.eval x))))) := by simp only [execOp, ho]
  have hplace : ∀ (k : Nat) (q : Nat × Nat), ((List.range n).map fun k => (k * i.size, i.size))[k]? = some q → some (k * i.size, i.size) = some q := fun k q hq => by
      rw [List.getElem?_map] at hq
      cases hr : (List.range n)[k]? with
      | none => rw [hr] at hq; cases hq
      | some k2 =>
        rw [hr] at hq
        cases hq
        obtain ⟨h1, h2⟩ := (List.getElem?_eq_some_iff.1 hr)
        simp at h2
        subst h2
        rfl
  by_cases hn : n = 0
  · subst hn
    have hps : ps.toList.map (fun p => (p.1, opv E tm p.2)) = [] := by
      cases hpp : ps.toList.map (fun p => (p.1, opv E tm p.2)) with
      | nil => rfl
      | cons p _ => rw [hpp] at hf'; simp [fillL] at hf'
    have hps0 : ps = #[] := by
      apply Array.ext'
      simpa using hps
    rw [hps] at hf'
    have hl0 : l = [] := by simpa [fillL, rep] using hf'.symm
    subst hl0
    refine ⟨#[], .nil β, ?_, fun u hu => by cases hu⟩
    rw [hrun, hps0]
    simp [Instr.buildSlice, run_underlying hu, sizeOf, typeInfo, hf, Instr.fill, newRow]
    have h0 : Array.map (fun _ : Nat => (default : Value)) (Array.range 0) = #[] := by apply Array.ext'; simp
    exact congrArg (fun A => w.alloc (Obj.cells A e')) h0
  · obtain ⟨A', hA', hvl⟩ := fill_rel (β := β) (fun k => some (k * i.size, i.size)) _ hplace _ _ (rep n i.zero) ⟨rep n i.zero⟩ l hf' (VL.refl_closed β fun v hv => hok.cl v (rep_mem _ _ v hv)) hpr
    refine ⟨A', hvl, ?_, List.all_eq_true.1 hone⟩
    have hpos : ¬ n * f.size = 0 := by rw [hfs]; exact Nat.mul_ne_zero hn (by omega)
    have hmade : ((Array.range (n * f.size)).map (z.cells[· % z.cells.size]!)) = ⟨rep n i.zero⟩ := by
      have := madeCells_rep i.zero n hzn
      rw [hz2, hfs, ← hok.zs]
      exact this
    rw [hrun]
    have hb := run_buildSlice (P := P) w t e' n (ps.map fun (i, x) => (i, a.eval x)) A' f z hu hf hz1 (by rw [hfs]; omega) hpos (by rw [hmade, hfs]; exact hA')
    simp only [Sem.run_bind, hb, Result.andThen_ok, Sem.run_pure]

theorem sim_buildSlice (hE : EnvOK P E) {t n : Nat} {ps : Array (Nat × Operand)} (ho : o.op = .buildSlice t n ps) (hk : stepK E C L o tm h K = some res) : ∃ v h', K v h' = some res ∧ Sim E P o tm h v h' := by
  simp only [stepK, ho] at hk
  split at hk
  case h_2 => cases hk
  rename_i _ _ _ e _ _ hi
  obtain ⟨l, hl, hk⟩ := Option.bind_eq_some_iff.1 hk
  refine ⟨_, _, hk, fun β S w a ht r => ?_⟩
  have hu : P.underlying t = some (.slice e) := (hE.tys t _ hi).und
  obtain ⟨A, hvl, hrun, _⟩ := bldS_run hE hu hl ⟨_, hi, rfl⟩ r ht ho
  obtain ⟨x, hx, hx0, _, r'⟩ := r.newCells (cs := l) (cs' := A.toList) e e hvl
  refine ⟨β.set h.next x, _, Beta.le_set x (r.fresh _ (Nat.le_refl _)), r', Fr.alloc w _ r.up, .inl ⟨_, by simpa using hrun, ?_⟩⟩
  have := VR.slice (β := β.set h.next x) h.next 0 n n n x (Beta.set_same _ _ _) (Nat.le_refl _) (.inl rfl)
  rw [hx, hx0] at this
  exact this

end Go.Arm
namespace Go.Arm
variable {E : Env} {P : Program}

/-- a block that is made already takes its place -/
theorem RH.fill {β : Beta} {h : H} {S S' : Sc} {w : World} (r : RH E β h S w) {f : Nat} {k : Blk} {x : BE} (hx : β f = some x) (hf : S.held f) (hS : ∀ b, S b → S' b)
    (hheld : ∀ b, S'.held b → S.held b ∧ b ≠ f) (hhol : ∀ b, S'.hol b → S.hol b) (hok : BlkOK E β S' w x k) (hnk : k ≠ .hole) : RH E β (h.put f (some k)) S' w := by
  have hh := r.held f hf
  have hfl : f < h.next := H.get_lt hh
  have hget : ∀ c l, (h.put f (some k)).get c = some l → (c = f ∧ l = k) ∨ (c ≠ f ∧ h.get c = some l) := by
    intro c l hc
    by_cases hcf : c = f
    · subst hcf
      rw [H.get_put_same _ _ _ hfl] at hc
      cases hc; exact .inl ⟨rfl, rfl⟩
    · rw [H.get_put_ne _ _ _ _ hcf] at hc; exact .inr ⟨hcf, hc⟩
  refine ⟨r.glob, fun b hb => hS b (r.up b hb), r.fresh, r.lt, fun c l hc hh => ?_, fun c d l m y z hc hd hne hown hy hz => ?_, fun c hc => ?_, fun c hc => ?_⟩
  · rcases hget c l hc with ⟨rfl, rfl⟩ | ⟨hcf, hc⟩
    · exact ⟨x, hx, hok⟩
    · obtain ⟨y, hy, hk⟩ := r.blk c l hc hh
      exact ⟨y, hy, hk.keep (Beta.le_refl β) (hS _) rfl⟩
  · rcases hget c l hc with ⟨rfl, rfl⟩ | ⟨hcf, hc2⟩
    · rcases hget d m hd with ⟨rfl, _⟩ | ⟨hdf, hd⟩
      · exact absurd rfl hne
      · exact r.disj c d _ m y z hh hd hne rfl hy hz
    · rcases hget d m hd with ⟨rfl, _⟩ | ⟨hdf, hd⟩
      · exact (r.disj d c _ l z y hh hc2 (Ne.symm hne) rfl hz hy).symm
      · exact r.disj c d l m y z hc2 hd hne hown hy hz
  · have h1 := r.hol c (hhol c hc)
    have hcf : c ≠ f := fun e => by subst e; rw [hx] at h1; cases h1.2
    exact ⟨by rw [H.get_put_ne _ _ _ _ hcf]; exact h1.1, h1.2⟩
  · obtain ⟨h1, h2⟩ := hheld c hc
    rw [H.get_put_ne _ _ _ _ h2]
    exact r.held c h1

theorem BlkOK.less {β : Beta} {S S' : Sc} {w : World} {x : BE} {k : Blk} (hS : k.own = true → S x.blk → S' x.blk) (h : BlkOK E β S w x k) : BlkOK E β S' w x k := by
  cases k with
  | cells cs t own loose => exact ⟨h.1, h.2.1, h.2.2.1, h.2.2.2.1, h.2.2.2.2.1, fun ho => ⟨hS (by simpa [Blk.own] using ho) (h.2.2.2.2.2 ho).1, (h.2.2.2.2.2 ho).2⟩⟩
  | map es clock => exact ⟨hS rfl h.1, h.2⟩
  | loop f r vs => exact ⟨hS rfl h.1, h.2⟩
  | hole => exact h

/-- the same memory, less that is asked -/
theorem RH.sub {β : Beta} {h : H} {S S' : Sc} {w : World} (r : RH E β h S w) (hS : ∀ b, S b → S' b) (hheld : ∀ b, S'.held b → S.held b) (hhol : ∀ b, S'.hol b → S.hol b) : RH E β h S' w :=
  ⟨r.glob, fun b hb => hS b (r.up b hb), r.fresh, r.lt, fun c l hc hh => let ⟨y, hy, hk⟩ := r.blk c l hc hh; ⟨y, hy, hk.keep (Beta.le_refl β) (hS _) rfl⟩, r.disj,
    fun c hc => r.hol c (hhol c hc), fun c hc => r.held c (hheld c hc)⟩


/-- memory without a block -/
def Sc.cut (S : Sc) (r : Nat) : Sc := ⟨fun k => S k ∧ k ≠ r, S.held, S.hol⟩
/-- a block is made that no one knows -/
theorem RH.cut {β : Beta} {h : H} {S : Sc} {w : World} (r : RH E β h S w) (o : Obj) : RH E β h (S.cut w.heap.size) (w.alloc o) := by
  refine ⟨r.glob, fun k hk => ?_, r.fresh, fun c y hy => ?_, fun c l hc hh => ?_, r.disj, r.hol, r.held⟩
  · rw [size_alloc] at hk; exact ⟨r.up k (by omega), by omega⟩
  · have := r.lt c y hy; rw [size_alloc]; omega
  · obtain ⟨y, hy, hb⟩ := r.blk c l hc hh
    have hl := r.lt c y hy
    exact ⟨y, hy, hb.keep (Beta.le_refl β) (fun s => ⟨s, by omega⟩) (heap_alloc_old _ _ _ hl)⟩

/-- memory without a block; its number is held -/
def Sc.hold (S : Sc) (f r : Nat) : Sc := ⟨fun k => S k ∧ k ≠ r, fun b => b = f ∨ S.held b, S.hol⟩

/-- a block is left out: its number is held -/
theorem RH.unfill {β : Beta} {h : H} {S : Sc} {w : World} {f : Nat} {k : Blk} {x : BE} (r : RH E β h S w) (hx : β f = some x) (hg : h.get f = some k) (ho : k.own = true) (hk : k ≠ .hole) : RH E β (h.put f (some .hole)) (S.hold f x.blk) w := by
  have hfl := H.get_lt hg
  have hget : ∀ c l, (h.put f (some .hole)).get c = some l → (c = f ∧ l = .hole) ∨ (c ≠ f ∧ h.get c = some l) := by
    intro c l hc
    by_cases hcf : c = f
    · subst hcf
      rw [H.get_put_same _ _ _ hfl] at hc
      cases hc; exact .inl ⟨rfl, rfl⟩
    · rw [H.get_put_ne _ _ _ _ hcf] at hc; exact .inr ⟨hcf, hc⟩
  refine ⟨r.glob, fun b hb => ⟨r.up b hb, fun e => ?_⟩, r.fresh, r.lt, fun c l hc hne => ?_, fun c d l m y z hc hd hne hown hy hz => ?_, fun c hc => ?_, fun c hc => ?_⟩
  · have := r.lt f x hx
    omega
  · rcases hget c l hc with ⟨_, h1⟩ | ⟨hcf, hc⟩
    · exact absurd h1 hne
    · obtain ⟨y, hy, hb⟩ := r.blk c l hc hne
      exact ⟨y, hy, hb.less fun hlo hs => ⟨hs, r.disj c f l k y x hc hg hcf hlo hy hx⟩⟩
  · rcases hget c l hc with ⟨rfl, _⟩ | ⟨hcf, hc2⟩
    · rcases hget d m hd with ⟨rfl, _⟩ | ⟨_, hd⟩
      · exact absurd rfl hne
      · exact r.disj c d k m y z hg hd hne ho hy hz
    · rcases hget d m hd with ⟨rfl, _⟩ | ⟨_, hd⟩
      · exact r.disj c d l k y z hc2 hg hne hown hy hz
      · exact r.disj c d l m y z hc2 hd hne hown hy hz
  · have h1 := r.hol c hc
    have hcf : c ≠ f := fun e => by subst e; rw [hg] at h1; cases h1.1; exact hk rfl
    exact ⟨by rw [H.get_put_ne _ _ _ _ hcf]; exact h1.1, h1.2⟩
  · rcases hc with rfl | hc
    · exact H.get_put_same _ _ _ hfl
    · have h1 := r.held c hc
      have hcf : c ≠ f := fun e => by subst e; rw [hg] at h1; cases h1; exact hk rfl
      rw [H.get_put_ne _ _ _ _ hcf]; exact h1

/-- a number is set aside -/
theorem RH.hole {β : Beta} {h : H} {S S' : Sc} {w : World} (r : RH E β h S w) (hS : ∀ b, S b → S' b) (hheld : ∀ b, S'.held b → S.held b) (hhol : ∀ b, S'.hol b → S.hol b ∨ b = h.next) : RH E β (h.new .hole) S' w := by
  have hnx : β h.next = none := r.fresh _ (Nat.le_refl _)
  refine ⟨r.glob, fun b hb => hS b (r.up b hb), fun b hb => r.fresh b (by rw [H.next_new] at hb; omega), r.lt, fun c l hc hh => ?_, fun c d l m y z hc hd hne hown hy hz => ?_, fun c hc => ?_, fun c hc => ?_⟩
  · rw [get_new] at hc
    split at hc
    · cases hc; exact absurd rfl hh
    · obtain ⟨y, hy, hk⟩ := r.blk c l hc hh
      exact ⟨y, hy, hk.keep (Beta.le_refl β) (hS _) rfl⟩
  · rw [get_new] at hc hd
    split at hc
    · rename_i e; subst e; rw [hnx] at hy; cases hy
    · split at hd
      · rename_i e; subst e; rw [hnx] at hz; cases hz
      · exact r.disj c d l m y z hc hd hne hown hy hz
  · rw [get_new]
    rcases hhol c hc with h1 | h1
    · have h2 := r.hol c h1
      rw [if_neg (fun e => by rw [e, H.get_next] at h2; cases h2.1)]
      exact h2
    · rw [if_pos h1, h1]; exact ⟨rfl, hnx⟩
  · have h1 := r.held c (hheld c hc)
    rw [get_new, if_neg (fun e => by rw [e, H.get_next] at h1; cases h1)]
    exact h1

theorem next_holes : ∀ (n : Nat) (h : H), (holes n h).next = h.next + n
  | 0, h => rfl
  | n + 1, h => by rw [holes, next_holes n, H.next_new]; omega
theorem RH.holes {β : Beta} {w : World} : ∀ (n : Nat) {h : H} {S S' : Sc}, RH E β h S w → (∀ b, S b → S' b) → (∀ b, S'.held b → S.held b) → (∀ b, S'.hol b → S.hol b ∨ (h.next ≤ b ∧ b < h.next + n)) → RH E β (Arm.holes n h) S' w
  | 0, h, S, S', r, h1, h2, h3 => r.sub h1 h2 fun b hb => (h3 b hb).resolve_right (by omega)
  | n + 1, h, S, S', r, h1, h2, h3 => by
    rw [Arm.holes]
    refine RH.holes n (S := ⟨S.mem, S.held, fun b => S.hol b ∨ b = h.next⟩) (r.hole (fun _ s => s) (fun _ s => s) (fun _ s => s)) h1 h2 fun b hb => ?_
    rw [H.next_new]
    rcases h3 b hb with h4 | ⟨h4, h5⟩
    · exact .inl (.inl h4)
    · by_cases hb : b = h.next
      · exact .inl (.inr hb)
      · exact .inr (by omega)

/-- a block is made under a number that was set aside; it takes its place later -/
theorem RH.float {β : Beta} {h : H} {S S' : Sc} {w : World} {o : Obj} (r : RH E β h S w) {id : Nat} (hid : S.hol id) {x : BE} (hx : x.blk = w.heap.size)
    (hS : ∀ b, S b → b ≠ w.heap.size → S' b) (hheld : ∀ b, S'.held b → b = id ∨ S.held b) (hhol : ∀ b, S'.hol b → S.hol b ∧ b ≠ id) : RH E (β.set id x) h S' (w.alloc o) := by
  have hid0 := r.hol id hid
  have hle := Beta.le_set (β := β) x hid0.2
  have old : ∀ c y, c ≠ id → β.set id x c = some y → β c = some y := fun c y hc hy => by rwa [Beta.set_ne _ _ _ _ hc] at hy
  refine ⟨fun g hg => ?_, fun c hc => ?_, fun c hc => ?_, fun c y hy => ?_, fun c l hc hh => ?_, fun c d l m y z hc hd hne hown hy hz => ?_, fun c hc => ?_, fun c hc => ?_⟩
  · obtain ⟨y, hy, h1, h2⟩ := r.glob g hg
    exact ⟨y, hle g y hy, h1, h2⟩
  · rw [size_alloc] at hc; exact hS c (r.up c (by omega)) (by omega)
  · have := H.get_lt hid0.1
    rw [Beta.set_ne _ _ _ _ (by omega)]; exact r.fresh c hc
  · rw [size_alloc]
    by_cases hc : c = id
    · subst hc; rw [Beta.set_same] at hy; cases hy; omega
    · have := r.lt c y (old c y hc hy); omega
  · have hc2 : c ≠ id := fun e => by subst e; rw [hid0.1] at hc; cases hc; exact hh rfl
    obtain ⟨y, hy, hk⟩ := r.blk c l hc hh
    have hl := r.lt c y hy
    exact ⟨y, hle c y hy, hk.keep hle (fun s => hS _ s (by omega)) (heap_alloc_old _ _ _ hl)⟩
  · by_cases hc1 : c = id
    · subst hc1
      rw [Beta.set_same] at hy; cases hy
      have := r.lt d z (old d z (Ne.symm hne) hz)
      omega
    · by_cases hd1 : d = id
      · subst hd1
        rw [Beta.set_same] at hz; cases hz
        have := r.lt c y (old c y hc1 hy)
        omega
      · exact r.disj c d l m y z hc hd hne hown (old c y hc1 hy) (old d z hd1 hz)
  · obtain ⟨h1, h2⟩ := hhol c hc
    rw [Beta.set_ne _ _ _ _ h2]
    exact r.hol c h1
  · rcases hheld c hc with h1 | h1
    · rw [h1]; exact hid0.1
    · exact r.held c h1

end Go.Arm
namespace Go.Arm
variable {R : Type} {E : Env} {P : Program} {C : CF} {L : LF} {o : Oper} {tm : List Value} {h : H} {K : Value → H → Option R} {res : R}

theorem slice_ty (hE : EnvOK P E) {t : Nat} {size bytes : Nat} {z : List Value} {e : Nat} {q k : Bool} (hi : E.tys.get t = some ⟨size, bytes, z, .slice e, q, k⟩) : P.underlying t = some (.slice e) := (hE.tys t _ hi).und
theorem map_ty (hE : EnvOK P E) {t : Nat} {size bytes : Nat} {z : List Value} {e e' : Nat} {q k : Bool} (hi : E.tys.get t = some ⟨size, bytes, z, .map e e', q, k⟩) : P.underlying t = some (.map e e') := (hE.tys t _ hi).und

theorem sim_builtin (hE : EnvOK P E) {c : Call} {b : Builtin} (ho : o.op = .call c) (hb : c.callee = .builtin b) (hk : biK E b c.args.toList c.argTypes.toList o.type tm h K = some res) : ∃ v h', K v h' = some res ∧ Sim E P o tm h v h' := by
  unfold biK at hk
  split at hk
  · -- len
    rename_i x t ha hta
    have ha := arr1 ha
    have hta := arr1 hta
    have base : ∀ n : Nat, (∀ β S w (a : Act), TmR β tm a → RH E β h S w → (Builtin.len_ #[t] o.type #[a.eval x]).run P w = .ok (.int .i64 n) w) → Sim E P o tm h (.int .i64 (n : Nat)) h := by
      intro n hr β S w a ht r
      obtain ⟨cs, he⟩ := run_builtin (P := P) ho hb a.eval w
      refine Res.same r (v' := .int .i64 (n : Nat)) ?_ (.clit _ rfl)
      rw [he, ha, hta]
      have := hr β S w a ht r
      simp only [builtin, List.map_toArray, List.map_cons, List.map_nil, Sem.run_bind, this, Result.andThen_ok, Sem.run_pure]
    split at hk
    case h_2 => cases hk
    rename_i i hi
    have hok := hE.tys t i hi
    have hu := hok.und
    split at hk
    · rename_i hty
      rw [hty] at hu
      split at hk
      · rename_i s hx
        refine ⟨_, _, hk, base _ fun β S w a ht r => ?_⟩
        have hv := opv_rel r ht x
        rw [hx] at hv
        rw [hv.str_inv]
        simp [Builtin.len_, run_underlying (show P.underlying t = some _ from hu), goInt]
      · cases hk
    · rename_i n e hty
      rw [hty] at hu
      refine ⟨_, _, hk, base _ fun β S w a ht r => ?_⟩
      simp [Builtin.len_, run_underlying (show P.underlying t = some _ from hu), goInt]
    · rename_i e hty
      rw [hty] at hu
      obtain ⟨n, hn, hk⟩ := Option.bind_eq_some_iff.1 hk
      refine ⟨_, _, hk, base _ fun β S w a ht r => ?_⟩
      obtain ⟨ad, cc, hv⟩ := lenV_rel (opv_rel r ht x) hn
      rw [hv]
      simp [Builtin.len_, run_underlying (show P.underlying t = some _ from hu), goInt]
    · rename_i k e hty
      rw [hty] at hu
      obtain ⟨n, hn, hk⟩ := Option.bind_eq_some_iff.1 hk
      exact ⟨_, _, hk, base _ fun β S w a ht r => lenM_run hn r (opv_rel r ht x) (show P.underlying t = some (.map k e) from hu) #[t] o.type rfl⟩
    · cases hk
  · -- append
    rename_i s x t u ha hta
    have ha := arr2 ha
    have hta := arr2 hta
    split at hk
    case h_2 => cases hk
    rename_i hi
    have hu := slice_ty hE hi
    split at hk
    case h_2 => cases hk
    rename_i i he
    split at hk
    case isTrue => cases hk
    rename_i hs
    obtain ⟨⟨v, h'⟩, hp, hk⟩ := Option.bind_eq_some_iff.1 hk
    refine ⟨_, _, hk, fun β S w a ht r => ?_⟩
    obtain ⟨β', w', v', hle, r', hfr, hvr, hrun⟩ := appA_sound hE hu he (srcT_some hE (by simpa using hs)) hp r (opv_rel r ht s) (opv_rel r ht x)
    obtain ⟨cs, hee⟩ := run_builtin (P := P) ho hb a.eval w
    refine ⟨β', w', hle, r', hfr, .inl ⟨v', ?_, hvr⟩⟩
    rw [hee, ha, hta]
    simp only [builtin, List.map_toArray, List.map_cons, List.map_nil, Sem.run_bind, hrun, Result.andThen_ok, Sem.run_pure]
  · -- copy
    rename_i d s t ts ha hta
    have ha := arr2 ha
    have hta0 : c.argTypes[0]? = some t := by rw [← Array.getElem?_toList, hta]; rfl
    split at hk
    case h_2 => cases hk
    rename_i hi
    have hu := slice_ty hE hi
    split at hk
    case h_2 => cases hk
    rename_i i he
    obtain ⟨⟨n, h'⟩, hp, hk⟩ := Option.bind_eq_some_iff.1 hk
    refine ⟨_, _, hk, fun β S w a ht r => ?_⟩
    obtain ⟨w', r', hfr, hrun⟩ := copyA_sound hE hu he hp r (opv_rel r ht d) (opv_rel r ht s)
    obtain ⟨cs, hee⟩ := run_builtin (P := P) ho hb a.eval w
    refine ⟨β, w', Beta.le_refl β, r', hfr, .inl ⟨.int .i64 n, ?_, .clit _ rfl⟩⟩
    rw [hee, ha]
    simp only [builtin, List.map_toArray, List.map_cons, List.map_nil, Sem.run_bind, hrun _ _ hta0, Result.andThen_ok, Sem.run_pure]
  · -- real
    rename_i x ha
    have ha := arr1 ha
    obtain ⟨v, hv, hk⟩ := Option.bind_eq_some_iff.1 hk
    refine ⟨_, _, hk, fun β S w a ht r => ?_⟩
    obtain ⟨cs, hee⟩ := run_builtin (P := P) ho hb a.eval w
    have hx := opv_rel r ht x
    unfold realV at hv
    split at hv
    · rename_i k re im hxe
      cases hv
      rw [hxe] at hx
      refine Res.same r (v' := .float k re) ?_ (.clit _ rfl)
      rw [hee, ha]
      have hr : Builtin.real_ c.argTypes o.type #[.complex k re im] = pure (.float k re) := rfl
      simp only [builtin, List.map_toArray, List.map_cons, List.map_nil, hx.lit_inv rfl, hr, Sem.run_bind, Sem.run_pure, Result.andThen_ok]
    · cases hv
  · -- imag
    rename_i x ha
    have ha := arr1 ha
    obtain ⟨v, hv, hk⟩ := Option.bind_eq_some_iff.1 hk
    refine ⟨_, _, hk, fun β S w a ht r => ?_⟩
    obtain ⟨cs, hee⟩ := run_builtin (P := P) ho hb a.eval w
    have hx := opv_rel r ht x
    unfold imagV at hv
    split at hv
    · rename_i k re im hxe
      cases hv
      rw [hxe] at hx
      refine Res.same r (v' := .float k im) ?_ (.clit _ rfl)
      rw [hee, ha]
      have hr : Builtin.imag_ c.argTypes o.type #[.complex k re im] = pure (.float k im) := rfl
      simp only [builtin, List.map_toArray, List.map_cons, List.map_nil, hx.lit_inv rfl, hr, Sem.run_bind, Sem.run_pure, Result.andThen_ok]
    · cases hv
  · -- complex
    rename_i x y ha
    have ha := arr2 ha
    obtain ⟨v, hv, hk⟩ := Option.bind_eq_some_iff.1 hk
    refine ⟨_, _, hk, fun β S w a ht r => ?_⟩
    obtain ⟨cs, hee⟩ := run_builtin (P := P) ho hb a.eval w
    have hx := opv_rel r ht x
    have hy := opv_rel r ht y
    unfold cplxV at hv
    split at hv
    · rename_i k re k' im hxe hye
      split at hv
      · rename_i hkk
        subst hkk
        cases hv
        rw [hxe] at hx
        rw [hye] at hy
        refine Res.same r (v' := .complex k re im) ?_ (.clit _ rfl)
        rw [hee, ha]
        have hr : Builtin.complex_ c.argTypes o.type #[.float k re, .float k im] = pure (.complex k re im) := by
          show (if k = k then pure (Value.complex k re im) else _) = _
          rw [if_pos rfl]
        simp only [builtin, List.map_toArray, List.map_cons, List.map_nil, hx.lit_inv rfl, hy.lit_inv rfl, hr, Sem.run_bind, Sem.run_pure, Result.andThen_ok]
      · cases hv
    · cases hv
  · -- max
    rename_i x y ha
    have ha := arr2 ha
    split at hk
    · rename_i k p k' q hxe hye
      refine ⟨_, _, hk, fun β S w a ht r => ?_⟩
      obtain ⟨cs, hee⟩ := run_builtin (P := P) ho hb a.eval w
      have hx := opv_rel r ht x
      have hy := opv_rel r ht y
      rw [hxe] at hx
      rw [hye] at hy
      refine Res.same r (v' := .int k (cond (decide (q > p)) q p)) ?_ (.clit _ rfl)
      rw [hee, ha]
      by_cases hqp : q > p <;> simp [builtin, hx.lit_inv rfl, hy.lit_inv rfl, Builtin.max_, Builtin.max2, hqp]
    · cases hk
  · -- min
    rename_i x y ha
    have ha := arr2 ha
    split at hk
    · rename_i k p k' q hxe hye
      refine ⟨_, _, hk, fun β S w a ht r => ?_⟩
      obtain ⟨cs, hee⟩ := run_builtin (P := P) ho hb a.eval w
      have hx := opv_rel r ht x
      have hy := opv_rel r ht y
      rw [hxe] at hx
      rw [hye] at hy
      refine Res.same r (v' := .int k (cond (decide (q < p)) q p)) ?_ (.clit _ rfl)
      rw [hee, ha]
      by_cases hqp : q < p <;> simp [builtin, hx.lit_inv rfl, hy.lit_inv rfl, Builtin.min_, Builtin.min2, hqp]
    · cases hk
  · -- delete
    rename_i m k t ts ha hta
    have ha := arr2 ha
    have hta0 : c.argTypes[0]? = some t := by rw [← Array.getElem?_toList, hta]; rfl
    split at hk
    case h_2 => cases hk
    rename_i hi
    have hu := map_ty hE hi
    obtain ⟨h', hp, hk⟩ := Option.bind_eq_some_iff.1 hk
    refine ⟨_, _, hk, fun β S w a ht r => ?_⟩
    obtain ⟨w', r', hfr, hrun⟩ := delM_run hE hu hp r (opv_rel r ht m) (opv_rel r ht k)
    obtain ⟨cs, hee⟩ := run_builtin (P := P) ho hb a.eval w
    refine ⟨β, w', Beta.le_refl β, r', hfr, .inl ⟨.tuple #[], ?_, .junk _⟩⟩
    rw [hee, ha]
    simp only [builtin, List.map_toArray, List.map_cons, List.map_nil, Sem.run_bind, hrun _ _ hta0, Result.andThen_ok, Sem.run_pure]
  · -- clear
    rename_i m t ha hta
    have ha := arr1 ha
    have hta0 : c.argTypes[0]? = some t := by rw [← Array.getElem?_toList, hta]; rfl
    split at hk
    case h_2 => cases hk
    rename_i hi
    have hu := map_ty hE hi
    obtain ⟨h', hp, hk⟩ := Option.bind_eq_some_iff.1 hk
    refine ⟨_, _, hk, fun β S w a ht r => ?_⟩
    obtain ⟨w', r', hfr, hrun⟩ := clrM_run hu hp r (opv_rel r ht m)
    obtain ⟨cs, hee⟩ := run_builtin (P := P) ho hb a.eval w
    refine ⟨β, w', Beta.le_refl β, r', hfr, .inl ⟨.tuple #[], ?_, .junk _⟩⟩
    rw [hee, ha]
    simp only [builtin, List.map_toArray, List.map_cons, List.map_nil, Sem.run_bind, hrun _ _ hta0, Result.andThen_ok, Sem.run_pure]
  · cases hk

theorem plainT_or {y : Ty} (hp : ¬ plainT y = false) : cellT y = true ∨ aggT y = true := by
  cases y <;> simp_all [plainT, cellT, aggT]

theorem sim_lookup (hE : EnvOK P E) {t : Nat} {x y : Operand} {ok : Bool} (ho : o.op = .lookup t x y ok) (hk : stepK E C L o tm h K = some res) : ∃ v h', K v h' = some res ∧ Sim E P o tm h v h' := by
  simp only [stepK, ho] at hk
  split at hk
  case h_2 => cases hk
  rename_i hi
  have hu := map_ty hE hi
  split at hk
  case h_2 => cases hk
  rename_i i he
  split at hk
  case isTrue => cases hk
  rename_i hp
  obtain ⟨q, hq, hk⟩ := Option.bind_eq_some_iff.1 hk
  have hk := src1_some hk
  have base : Sim E P o tm h (if ok then .tuple #[q.getD (zeroV i), .bool q.isSome] else q.getD (zeroV i)) h := by
    intro β S w a ht r
    obtain ⟨v', hv, hrun⟩ := lookM_run hE hu he hq (plainT_or hp) r (opv_rel r ht x) (opv_rel r ht y)
    refine Res.same r (v' := if ok then .tuple #[v', .bool q.isSome] else v') ?_ ?_
    · rw [show execOp a.eval o = (do pure (.value (← Instr.lookup t (a.eval x) (a.eval y) ok))) by simp only [execOp, ho]]
      simp only [Sem.run_bind, hrun, Result.andThen_ok, Sem.run_pure]
    · cases ok
      · exact hv
      · refine .tuple _ _ rfl fun j u u' h1 h2 => ?_
        rcases j with _ | _ | j
        · simp at h1 h2; subst h1 h2; exact hv
        · simp at h1 h2; subst h1 h2; exact .clit _ rfl
        · simp at h1
  cases ok
  · exact ⟨_, _, hk, by simpa using base⟩
  · exact ⟨_, _, hk, by simpa using base⟩

theorem sim_mapUpdate (hE : EnvOK P E) {t : Nat} {m k x : Operand} (ho : o.op = .mapUpdate t m k x ∨ o.op = .insert t m k x) (hk : stepK E C L o tm h K = some res) : ∃ v h', K v h' = some res ∧ Sim E P o tm h v h' := by
  have hk2 : (match E.tys.get t with
    | some { ty := .map kt _, .. } => (setM E kt h (opv E tm m) (opv E tm k) (opv E tm x)).bind fun h' => K junk h'
    | _ => none) = some res := by
    rcases ho with ho | ho <;> (simp only [stepK, ho] at hk; exact hk)
  split at hk2
  case h_2 => cases hk2
  rename_i hi
  have hu := map_ty hE hi
  obtain ⟨h', hq, hk⟩ := Option.bind_eq_some_iff.1 hk2
  refine ⟨_, _, hk, fun β S w a ht r => ?_⟩
  obtain ⟨w', r', hfr, hrun⟩ := setM_run hE hu hq r (opv_rel r ht m) (opv_rel r ht k) (opv_rel r ht x)
  refine ⟨β, w', Beta.le_refl β, r', hfr, .inr ⟨?_, rfl⟩⟩
  rw [show execOp a.eval o = (do Instr.mapUpdate t (a.eval m) (a.eval k) (a.eval x); pure .skip) by rcases ho with ho | ho <;> simp only [execOp, ho]]
  simp only [Sem.run_bind, hrun, Result.andThen_ok, Sem.run_pure]

theorem sim_mapEntry (hE : EnvOK P E) {t : Nat} {m k : Operand} (ho : o.op = .mapEntry t m k) (hk : stepK E C L o tm h K = some res) : ∃ v h', K v h' = some res ∧ Sim E P o tm h v h' := by
  simp only [stepK, ho] at hk
  split at hk
  case h_2 => cases hk
  rename_i hi
  have hu := map_ty hE hi
  split at hk
  case h_2 => cases hk
  rename_i i he
  split at hk
  case isTrue => cases hk
  rename_i hp
  obtain ⟨⟨v, s, h'⟩, hq, hk⟩ := Option.bind_eq_some_iff.1 hk
  have hk := src1_some hk
  refine ⟨_, _, hk, fun β S w a ht r => ?_⟩
  obtain ⟨w', v', r', hfr, hv, hrun⟩ := entM_run hE hu he (plainT_or hp) hq r (opv_rel r ht m) (opv_rel r ht k)
  refine ⟨β, w', Beta.le_refl β, r', hfr, .inl ⟨.tuple #[v', .int .i64 s], ?_, ?_⟩⟩
  · rw [show execOp a.eval o = (do pure (.value (← Instr.mapEntry t (a.eval m) (a.eval k)))) by simp only [execOp, ho]]
    simp only [Sem.run_bind, hrun, Result.andThen_ok, Sem.run_pure]
  · refine .tuple _ _ rfl fun j u u' h1 h2 => ?_
    rcases j with _ | _ | j
    · simp at h1 h2; subst h1 h2; exact hv
    · simp at h1 h2; subst h1 h2; exact .clit _ rfl
    · simp at h1

theorem sim_entryStore {t : Nat} {m s x : Operand} (ho : o.op = .entryStore t m s x) (hk : stepK E C L o tm h K = some res) : ∃ v h', K v h' = some res ∧ Sim E P o tm h v h' := by
  simp only [stepK, ho] at hk
  split at hk
  case h_2 => cases hk
  rename_i k n hs
  obtain ⟨h', hq, hk⟩ := Option.bind_eq_some_iff.1 hk
  refine ⟨_, _, hk, fun β S w a ht r => ?_⟩
  have hsv := opv_rel r ht s
  rw [hs] at hsv
  obtain ⟨w', r', hfr, hrun⟩ := entSt_run (P := P) (t := t) hq r (opv_rel r ht m) (opv_rel r ht x) k
  refine ⟨β, w', Beta.le_refl β, r', hfr, .inr ⟨?_, rfl⟩⟩
  rw [show execOp a.eval o = (do Instr.entryStore t (a.eval m) (a.eval s) (a.eval x); pure .skip) by simp only [execOp, ho], hsv.int_inv]
  simp only [Sem.run_bind, hrun, Result.andThen_ok, Sem.run_pure]

theorem sim_pick {c x y : Operand} (ho : o.op = .pick c x y) (hk : stepK E C L o tm h K = some res) : ∃ v h', K v h' = some res ∧ Sim E P o tm h v h' := by
  simp only [stepK, ho] at hk
  split at hk
  case h_2 => cases hk
  rename_i t hc
  have base : Sim E P o tm h (if t then opv E tm x else opv E tm y) h := fun β S w a ht r => by
    have hcv := opv_rel r ht c
    rw [hc] at hcv
    refine Res.same r (v' := if t then a.eval x else a.eval y) ?_ ?_
    · simp [execOp, ho, hcv.bool_inv, asBool]
    · cases t
      · exact opv_rel r ht y
      · exact opv_rel r ht x
  cases t
  · exact ⟨_, _, hk, by simpa using base⟩
  · exact ⟨_, _, hk, by simpa using base⟩

/-! ### calls -/
def Post (E : Env) (β : Beta) (S : Sc) (w : World) (v : Value) (h' : H) : Ending → World → Prop
  | .returned v', w' => ∃ β', β.le β' ∧ RH E β' h' S w' ∧ Fr S w w' ∧ VR β' v v'
  | _, _ => False
def CallsOK (P : Program) (E : Env) (C : CF) : Prop :=
  ∀ f args h v h', C f args h = some (v, h') → (∃ fn, P.funcs[f]? = some fn ∧ (fn.name == "runtime.NumGoroutine") = false ∧ fn.body.isSome = true) ∧
    ∀ β S w args', VL β args args' → RH E β h S w → Calls P f ⟨args'⟩ w (Post E β S w v h')

/-- in no round, or in one -/
def FW (ro : Option Nat) : Fence := { fn := fun _ => True, depth := none, alive := false, round := ro }
theorem callsIn_FW {ro : Option Nat} {n : Nat} {P : Program} {f : FuncId} {args : Array Value} {w : World} {R : Ending → World → Prop} (h : Calls P f args w R) : CallsIn (FW ro) n P f args w R :=
  (callsIn_wide (n := n)).2 h

/-- an operation, whatever stands behind it -/
def StepW (E : Env) (P : Program) (o : Oper) (tm : List Value) (h : H) (v : Value) (h' : H) : Prop :=
  ∀ (ro : Option Nat) β S w (a : Act), TmR β tm a → RH E β h S w → ∀ (next : Act → World → Prop) (Q : Exit → Act → World → Prop),
    (∀ β' v' w', β.le β' → VR β' v v' → RH E β' h' S w' → Fr S w w' → next (a.put o.dst v') w') → o.wpIn (FW ro) 0 P a w next Q

theorem Sim.stepW {v : Value} {h' : H} (hs : Sim E P o tm h v h') (hno : ∀ c, o.op ≠ .defer c) : StepW E P o tm h v h' := by
  intro ro β S w a ht r next Q hn
  refine ⟨fun _ _ => trivial, ?_⟩
  rw [Oper.semAt_eq _ _ _ hno]
  obtain ⟨β', w', hle, r', hfr, ⟨v', hrun, hv⟩ | ⟨hrun, rfl⟩⟩ := hs β S w a ht r
  · rw [hrun]
    exact hn β' v' w' hle hv r' hfr
  · rw [hrun]
    exact hn β' undef w' hle (.junk _) r' hfr

theorem src_some {t : Nat} {v : Value} {J : Value → Option R} (e : src E t v J = some res) : J v = some res := by
  unfold src at e
  split at e
  case h_2 => cases e
  split at e
  · obtain ⟨⟨x, y⟩, hp, e2⟩ := Option.bind_eq_some_iff.1 e
    unfold tup2 at hp
    split at hp
    · cases hp
      have h1 := src1_some e2
      have h2 := src1_some h1
      exact h2
    · cases hp
  · obtain ⟨⟨x, y, z⟩, hp, e2⟩ := Option.bind_eq_some_iff.1 e
    unfold tup3 at hp
    split at hp
    · cases hp
      have h1 := src1_some e2
      have h2 := src1_some h1
      have h3 := src1_some h2
      exact h3
    · cases hp
  · exact src1_some e

theorem VR.func_inv {β : Beta} {g : Nat} {a b : Array Value} {v' : Value} (hv : VR β (.func (.func g) a b) v') : ∃ a' b', v' = .func (.func g) a' b' ∧ VL β a.toList a'.toList ∧ VL β b.toList b'.toList := by
  cases hv with
  | clit _ h => simp [Arm.lit] at h
  | func _ _ _ a' b' ha hb hva hvb => exact ⟨a', b', rfl, .of_agg ha hva, .of_agg hb hvb⟩

theorem VR.yield_inv {β : Beta} {l : Nat} {v' : Value} (hv : VR β (.func (.yield l) #[] #[]) v') : ∃ x, β l = some x ∧ v' = .func (.yield x.blk) #[] #[] := by
  cases hv with
  | clit _ h => simp [Arm.lit] at h
  | yield _ x h => exact ⟨x, h, rfl⟩

/-- where a range over a function stands -/
def RngOf (E : Env) (f r : Nat) (ps : Array Tmp) (x y : Code) (n : Nat) : Prop := ∃ fn c, E.fns.get f = some fn ∧ fn.body = some c ∧ findRange r c = some (ps, x, y) ∧ n = fn.ntmps
def Sc.with (S : Sc) (l : Nat) : Sc := ⟨fun k => S k ∨ k = l, S.held, S.hol⟩
/-- rounds do what the evaluator says -/
def RoundsOK (P : Program) (E : Env) (L : LF) : Prop :=
  ∀ f r vals xs h vs h', L f (rngKey + r) (vals ++ xs) h = some (0, vs, h') → ∀ ps x y, RngOf E f r ps x y vals.length → xs.length = ps.size ∧
    ∀ (ro : Option Nat) (l f' : Nat) (rc : Loop) β S w (xs' : List Value), (∀ i, VR β (lget vals i) (rc.tmps.getD i undef)) → vals.length ≤ rc.tmps.size → VL β xs xs' → RH E β h S w → ¬ S l → w.heap[l]? = some (.loop rc) → rc.state = .ready →
      ∀ Rr : Ending → World → Prop, (∀ β' w', β.le β' → RH E β' h' S w' → Fr (S.with l) w w' → w'.heap[l]? = some (.loop { rc with state := .ready, pending := none }) → Rr (.returned (.bool true)) w') →
        RoundIn (FW ro) 0 P l f' ((ps.zip ⟨xs'⟩).foldl (fun tmps (t, a) => tmps.setIfInBounds t a) rc.tmps) x y w Rr

theorem step_yield (hL : RoundsOK P E L) {c : Call} {f : Operand} (ho : o.op = .call c) (hf : c.callee = .value f) {l : Nat} (hfv : opv E tm f = .func (.yield l) #[] #[]) {v : Value} {h' : H} (hc : yieldV L l (c.args.toList.map (opv E tm)) h = some (v, h')) : StepW E P o tm h v h' := by
  intro ro β S w a ht r next Q hn
  unfold yieldV at hc
  split at hc
  case h_2 => cases hc
  rename_i fq q vals hg
  obtain ⟨⟨k, vs, h2⟩, hLq, hc⟩ := Option.bind_eq_some_iff.1 hc
  simp only at hc
  split at hc
  case isFalse => cases hc
  rename_i hk
  subst hk
  cases hc
  have hv := opv_rel r ht f
  rw [hfv] at hv
  obtain ⟨x, hx, hve⟩ := hv.yield_inv
  obtain ⟨y, hy, hb⟩ := r.blk l _ hg (by simp)
  rw [hx] at hy; cases hy
  obtain ⟨hSx, rc, hrc, hst, hpe, htm, hsz, fn, cc, hfn, hcc, hfr, hvl⟩ := hb
  obtain ⟨hxl, hround⟩ := hL fq q vals _ _ vs h2 hLq rc.params rc.assign rc.body ⟨fn, cc, hfn, hcc, hfr, hvl⟩
  have hargs := map_rel r ht c.args.toList
  refine ⟨fun _ _ => trivial, ?_⟩
  rw [Oper.semAt_eq _ _ _ (fun c => by rw [ho]; simp)]
  have hrun : (execOp a.eval o).run P w = .ok (.round x.blk rc.fn ((rc.params.zip ⟨c.args.toList.map a.eval⟩).foldl (fun tmps (t, a) => tmps.setIfInBounds t a) rc.tmps) rc.assign rc.body) w := by
    have harr : #[] ++ c.args.map a.eval = (⟨c.args.toList.map a.eval⟩ : Array Value) := by
      apply Array.ext'; simp
    have hsz2 : (⟨c.args.toList.map a.eval⟩ : Array Value).size = rc.params.size := by
      rw [← hxl]; simp
    have hy := run_yield (P := P) (args := ⟨c.args.toList.map a.eval⟩) hrc hsz2
    simp only [execOp, ho, resolve, hf, hve, Deferred.ofValue, invoke, callFunc, Sem.run_bind, Sem.run_pure, Result.andThen_ok]
    rw [harr]
    exact hy
  rw [hrun, Oper.uponIn_round]
  refine ⟨fun h => (by cases h), hround ro x.blk rc.fn rc β (S.hold l x.blk) w _ htm hsz hargs (r.unfill hx hg rfl (by simp)) (fun h => h.2 rfl) hrc hst _ fun β' w' hle r' hfr' hrc' => ?_⟩
  refine hn β' _ w' hle (.clit _ rfl) ?_ ⟨hfr'.os, hfr'.tape, hfr'.output, hfr'.size, fun k hk => hfr'.keep k fun h => h.elim (fun h => hk h.1) (fun h => hk (by rw [h]; exact hSx))⟩
  refine r'.fill (hle l x hx) (.inl rfl) (fun b hb => hb.1) (fun b hb => ⟨.inr hb, fun e => ?_⟩) (fun b hb => hb) ⟨hSx, _, hrc', rfl, rfl, fun i => (htm i).mono hle, hsz, fn, cc, hfn, hcc, hfr, hvl⟩ (by simp)
  have := r.held b hb
  rw [e, hg] at this
  cases this

theorem step_call (hL : RoundsOK P E L) (hC : CallsOK P E C) {c : Call} {f : Operand} (ho : o.op = .call c) (hf : c.callee = .value f) (hk : ((callV C L (opv E tm f) (c.args.toList.map (opv E tm)) h).bind fun p => src E o.type p.1 fun v => K v p.2) = some res) :
    ∃ v h', K v h' = some res ∧ StepW E P o tm h v h' := by
  obtain ⟨⟨v, h'⟩, hc, hk⟩ := Option.bind_eq_some_iff.1 hk
  have hk := src_some hk
  refine ⟨_, _, hk, ?_⟩
  unfold callV at hc
  split at hc
  case h_2 => rename_i l hfv; exact step_yield hL ho hf hfv hc
  case h_3 => cases hc
  rename_i g x y hfv
  intro ro β S w a ht r next Q hn
  obtain ⟨⟨fn, hfn, hng, hbd⟩, hcalls⟩ := hC _ _ _ _ _ hc
  have hv := opv_rel r ht f
  rw [hfv] at hv
  obtain ⟨x', y', hve, hvx, hvy⟩ := hv.func_inv
  have hargs := map_rel r ht c.args.toList
  have hcall := hcalls β S w (x'.toList ++ c.args.toList.map a.eval ++ y'.toList) ((hvx.append hargs).append hvy) r
  refine ⟨fun _ _ => trivial, ?_⟩
  rw [Oper.semAt_eq _ _ _ (fun c => by rw [ho]; simp)]
  have hrun : (execOp a.eval o).run P w = .ok (.enter g ⟨x'.toList ++ c.args.toList.map a.eval ++ y'.toList⟩) w := by
    have hnone : fn.body.isNone = false := by cases hb : fn.body <;> simp_all
    have harr : x' ++ c.args.map a.eval ++ y' = ⟨x'.toList ++ c.args.toList.map a.eval ++ y'.toList⟩ := by
      apply Array.ext'; simp
    simp only [execOp, ho, resolve, hf, hve, Deferred.ofValue, invoke, callFunc, Sem.run_bind, Sem.run_pure, Result.andThen_ok, run_program, hfn, hng, hnone, Bool.false_eq_true, if_false, harr]
  rw [hrun, Oper.uponIn_enter]
  refine ⟨fun h => (by cases h), callsIn_FW (hcall.mono fun e w' hpost => ?_)⟩
  cases e with
  | returned v' =>
    obtain ⟨β', hle, r', hfr, hvr⟩ := hpost
    exact hn β' v' w' hle hvr r' hfr
  | panicked _ => exact hpost.elim
  | outgrown => exact hpost.elim

theorem step_wp (hE : EnvOK P E) (hC : CallsOK P E C) (hL : RoundsOK P E L) (hk : stepK E C L o tm h K = some res) : ∃ v h', K v h' = some res ∧ StepW E P o tm h v h' := by
  have lift : (∀ c, o.op ≠ .defer c) → (∃ v h', K v h' = some res ∧ Sim E P o tm h v h') → ∃ v h', K v h' = some res ∧ StepW E P o tm h v h' := fun hno ⟨v, h', h1, h2⟩ => ⟨v, h', h1, h2.stepW hno⟩
  cases ho : o.op with
  | move x => refine lift (by simp [ho]) ⟨_, _, ?_, sim_move x (.inl ho)⟩; simpa only [stepK, ho] using hk
  | assign x => refine lift (by simp [ho]) ⟨_, _, ?_, sim_move x (.inr ho)⟩; simpa only [stepK, ho] using hk
  | pick c x y => exact lift (by simp [ho]) (sim_pick ho hk)
  | alloc e => exact lift (by simp [ho]) (sim_alloc hE ho hk)
  | box e x => exact lift (by simp [ho]) (sim_box ho hk)
  | build t ps => exact lift (by simp [ho]) (sim_build hE ho hk)
  | buildSlice t n ps => exact lift (by simp [ho]) (sim_buildSlice hE ho hk)
  | load t x => exact lift (by simp [ho]) (sim_load hE ho hk)
  | store t x y => exact lift (by simp [ho]) (sim_store hE ho hk)
  | nilCheck x =>
    have hk2 := hk
    simp only [stepK, ho] at hk2
    obtain ⟨⟨b, q⟩, hp, hk2⟩ := Option.bind_eq_some_iff.1 hk2
    exact lift (by simp [ho]) ⟨_, _, hk2, sim_nilCheck ho hp⟩
  | binOp op xt x y yt => exact lift (by simp [ho]) (sim_binOp hE ho hk)
  | unOp op t x => exact lift (by simp [ho]) (sim_unOp ho hk)
  | convert s d x => exact lift (by simp [ho]) (sim_convert hE ho hk)
  | makeInterface t x =>
    have hk2 := hk
    simp only [stepK, ho] at hk2
    split at hk2
    case h_2 => cases hk2
    rename_i i hi
    split at hk2
    · cases hk2
    · rename_i hni
      exact lift (by simp [ho]) ⟨_, _, hk2, sim_makeInterface hE ho ⟨i, hi, fun hm => by
        cases hty : i.ty with
        | iface => exact hni hty
        | _ => rw [hty] at hm; simp at hm⟩⟩
  | makeFunc fn x y => exact lift (by simp [ho]) (sim_makeFunc ho hk)
  | makeMap t x => exact lift (by simp [ho]) (sim_makeMap hE ho hk)
  | makeSlice t x y => exact lift (by simp [ho]) (sim_makeSlice hE ho hk)
  | slice t x lo hi mx => exact lift (by simp [ho]) (sim_slice hE ho hk)
  | fieldAddr t x f => exact lift (by simp [ho]) (sim_fieldAddr hE ho hk)
  | field t x f => exact lift (by simp [ho]) (sim_field hE ho hk)
  | indexAddr t x y => exact lift (by simp [ho]) (sim_indexAddr hE ho hk)
  | index t x y => exact lift (by simp [ho]) (sim_index hE ho hk)
  | lookup t x y ok => exact lift (by simp [ho]) (sim_lookup hE ho hk)
  | mapUpdate t m k x => exact lift (by simp [ho]) (sim_mapUpdate hE (.inl ho) hk)
  | insert t m k x => exact lift (by simp [ho]) (sim_mapUpdate hE (.inr ho) hk)
  | mapEntry t m k => exact lift (by simp [ho]) (sim_mapEntry hE ho hk)
  | entryStore t m s x => exact lift (by simp [ho]) (sim_entryStore ho hk)
  | extract x i => exact lift (by simp [ho]) (sim_extract ho hk)
  | call c =>
    have hk2 := hk
    simp only [stepK, ho] at hk2
    cases hcal : c.callee with
    | builtin b => rw [hcal] at hk2; exact lift (by simp [ho]) (sim_builtin hE ho hcal hk2)
    | value f => rw [hcal] at hk2; exact step_call hL hC ho hcal hk2
    | invoke x n => rw [hcal] at hk2; cases hk2
  | _ => simp [stepK, ho] at hk

end Go.Arm
namespace Go.Arm
variable {E : Env} {P : Program} {C : CF} {L : LF}

def slotB (a : Act) (g : Nat) : Option Bool :=
  match a.tmps[g]? with
  | some (.bool b) => some b
  | _ => none
/-- what is known of guards' slots holds -/
def KnOK (kn : List (Tmp × Option Bool)) (a : Act) : Prop := ∀ g b, kn.lookup g = some b → slotB a g = b

theorem slotB_of {a : Act} {g : Nat} {b : Bool} (h : a.tmps.getD g undef = .bool b) : slotB a g = some b := by
  unfold slotB
  rw [Array.getD_eq_getD_getElem?] at h
  cases hg : a.tmps[g]? with
  | none => rw [hg] at h; simp [undef] at h
  | some v => rw [hg] at h; simp at h; subst h; rfl

theorem slotB_congr {a a' : Act} {g : Nat} (h : a'.tmps.getD g undef = a.tmps.getD g undef) (hs : a'.tmps.size = a.tmps.size) : slotB a' g = slotB a g := by
  unfold slotB
  have : a'.tmps[g]? = a.tmps[g]? := by
    rw [Array.getD_eq_getD_getElem?, Array.getD_eq_getD_getElem?] at h
    by_cases hg : g < a.tmps.size
    · have hg' : g < a'.tmps.size := by omega
      rw [Array.getElem?_eq_getElem hg, Array.getElem?_eq_getElem hg'] at h ⊢
      simpa using h
    · rw [Array.getElem?_eq_none (by omega), Array.getElem?_eq_none (by omega)]
  rw [this]

theorem lookup_filter (kn : List (Tmp × Option Bool)) (d g : Tmp) : (kn.filter fun p => !(p.1 == d)).lookup g = if g = d then none else kn.lookup g := by
  induction kn with
  | nil => simp
  | cons p kn ih =>
    obtain ⟨q, b⟩ := p
    by_cases hq : q = d
    · subst hq
      simp only [List.filter_cons, beq_self_eq_true, Bool.not_true, Bool.false_eq_true, if_false, ih]
      by_cases hg : g = q
      · simp [hg]
      · have : (g == q) = false := by simp [hg]
        simp [hg, List.lookup_cons, this]
    · have hqd : (q == d) = false := by simp [hq]
      simp only [List.filter_cons, hqd, Bool.not_false, if_true, List.lookup_cons, ih]
      by_cases hg : g = q
      · subst hg; simp [hq]
      · have : (g == q) = false := by simp [hg]
        simp [this]

theorem getD_put_ne (a : Act) (d : Option Tmp) (v : Value) (i : Nat) (h : d ≠ some i) : (a.put d v).tmps.getD i undef = a.tmps.getD i undef := by
  cases d with
  | none => rfl
  | some d => rw [getD_put]; rw [if_neg]; intro hh; exact h (by rw [hh.1])
theorem size_put (a : Act) (d : Option Tmp) (v : Value) : (a.put d v).tmps.size = a.tmps.size := by cases d <;> simp [Act.put]
theorem defers_put (a : Act) (d : Option Tmp) (v : Value) : (a.put d v).defers = a.defers := by cases d <;> simp [Act.put]

theorem KnOK.set {kn : List (Tmp × Option Bool)} {a : Act} (h : KnOK kn a) (d : Option Tmp) (v : Value) : KnOK (setKn kn d) (a.put d v) := by
  intro g b hg
  cases d with
  | none => exact h g b hg
  | some d =>
    simp only [setKn, lookup_filter] at hg
    split at hg
    · cases hg
    · rename_i hgd
      rw [← h g b hg]
      exact slotB_congr (getD_put_ne a _ v g (by simpa using Ne.symm hgd)) (size_put a _ v)

theorem KnOK.off {kn : List (Tmp × Option Bool)} {a : Act} (h : KnOK kn a) (d : Option Tmp) : KnOK (offKn kn d) (a.put d undef) := by
  cases d with
  | none => exact h
  | some d =>
    intro g b hg
    simp only [offKn, List.lookup_cons] at hg
    split at hg
    · rename_i he
      cases hg
      have : g = d := by simpa using he
      subst this
      unfold slotB
      by_cases hlt : g < a.tmps.size
      · simp [Act.put, hlt, undef]
      · simp [Act.put, hlt]
    · exact (h.set (some d) undef) g b hg

theorem KnOK.know {kn : List (Tmp × Option Bool)} {a : Act} (h : KnOK kn a) {g : Tmp} {b : Bool} (hg : slotB a g = some b) : KnOK ((g, some b) :: kn) a := by
  intro g' b' hg'
  simp only [List.lookup_cons] at hg'
  split at hg'
  · rename_i he
    cases hg'
    have : g' = g := by simpa using he
    subst this
    exact hg
  · exact h g' b' hg'

def dsts (l : List Oper) : List Tmp := l.filterMap (·.dst)

theorem KnOK.drop {a a' : Act} : ∀ (l : List Oper) (kn : List (Tmp × Option Bool)), KnOK kn a → (∀ i, i ∉ dsts l → a'.tmps.getD i undef = a.tmps.getD i undef) → a'.tmps.size = a.tmps.size → KnOK (dropKn l kn) a' := by
  intro l kn hk hf hs g b hg
  have key : ∀ (l : List Oper) (kn : List (Tmp × Option Bool)), (dropKn l kn).lookup g = some b → kn.lookup g = some b ∧ g ∉ dsts l := by
    intro l
    induction l with
    | nil => intro kn h; exact ⟨h, by simp [dsts]⟩
    | cons o l ih =>
      intro kn h
      obtain ⟨h1, h2⟩ := ih _ h
      cases hd : o.dst with
      | none => rw [hd] at h1; exact ⟨h1, by simpa [dsts, hd] using h2⟩
      | some d =>
        rw [hd] at h1
        simp only [setKn, lookup_filter] at h1
        split at h1
        · cases h1
        · rename_i hgd
          exact ⟨h1, by simp only [dsts, List.filterMap_cons, hd, List.mem_cons, not_or]; exact ⟨hgd, h2⟩⟩
  obtain ⟨h1, h2⟩ := key l kn hg
  rw [← hk g b h1]
  exact slotB_congr (hf g h2) hs

theorem lget_dropD : ∀ (l : List Oper) (tm : List Value) (i : Nat), lget (dropD l tm) i = if i ∈ dsts l then junk else lget tm i := by
  intro l
  induction l with
  | nil => intro tm i; simp [dropD, dsts]
  | cons o l ih =>
    intro tm i
    rw [dropD, ih]
    cases hd : o.dst with
    | none => simp [dsts, hd, putD]
    | some d =>
      simp only [putD, dsts, List.filterMap_cons, hd, List.mem_cons]
      by_cases h1 : i ∈ List.filterMap (fun x => x.dst) l
      · simp [h1]
      · simp only [h1, if_false, or_false]
        rw [lget_lset]
        by_cases h2 : i = d
        · subst h2
          by_cases h3 : i < tm.length
          · simp [h3]
          · simp [h3, lget_ge tm i (by omega)]
        · simp [h2]
theorem length_dropD (l : List Oper) : ∀ tm : List Value, (dropD l tm).length = tm.length := by
  induction l with
  | nil => intro tm; rfl
  | cons o l ih => intro tm; rw [dropD, ih]; cases o.dst <;> simp [putD, lset_length]

theorem cutPick_split {g : Tmp} : ∀ (l grp : List Oper) (d : Tmp) (after : List Oper), cutPick g l = some (grp, d, after) → l = grp ++ after
  | [], _, _, _, h => by simp [cutPick] at h
  | o :: r, grp, d, after, h => by
    unfold cutPick at h
    split at h
    · split at h
      · cases h; rfl
      · obtain ⟨⟨g1, d1, a1⟩, h1, h2⟩ := Option.map_eq_some_iff.1 h
        cases h2
        rw [cutPick_split r _ _ _ h1]
        rfl
    · obtain ⟨⟨g1, d1, a1⟩, h1, h2⟩ := Option.map_eq_some_iff.1 h
      cases h2
      rw [cutPick_split r _ _ _ h1]
      rfl

def Idx (ops : Array Oper) (is : List Nat) (l : List Oper) : Prop := is.map (ops[·]?) = l.map some
theorem Idx.split {ops : Array Oper} {is : List Nat} {l l' : List Oper} (h : Idx ops is (l ++ l')) : ∃ a b, is = a ++ b ∧ Idx ops a l ∧ Idx ops b l' := by
  unfold Idx at h
  rw [List.map_append] at h
  obtain ⟨a, b, h1, h2, h3⟩ := List.map_eq_append_iff.1 h
  exact ⟨a, b, h1, h2, h3⟩

theorem wanted_eq {ops : Array Oper} {o : Oper} {j : Nat} {want : Bool} {g : Tmp} {a : Act} (hg : o.guard = some (j, want)) (hs : gslot ops.toList j = some g) : Region.wanted o (yielded ops a.tmps) = (slotB a g == some want) := by
  unfold Region.wanted yielded slotB
  rw [hg]
  have : (ops[j]?).bind (·.dst) = some g := by
    rw [← Array.getElem?_toList]; exact hs
  simp only [this, Option.bind_some]
  rfl

/-- what holds behind a list of operations -/
structure After (E : Env) (β : Beta) (S : Sc) (w : World) (a : Act) (tm' : List Value) (h' : H) (ds : List Tmp) (β' : Beta) (a' : Act) (w' : World) : Prop where
  le : β.le β'
  tmr : TmR β' tm' a'
  tms : TmS tm' a'
  rh : RH E β' h' S w'
  fr : Fr S w w'
  defers : a'.defers = a.defers
  size : a'.tmps.size = a.tmps.size
  keep : ∀ i, i ∉ ds → a'.tmps.getD i undef = a.tmps.getD i undef

theorem After.refl {β : Beta} {S : Sc} {w : World} {a : Act} {tm : List Value} {h : H} (ht : TmR β tm a) (hs : TmS tm a) (r : RH E β h S w) : After E β S w a tm h [] β a w :=
  ⟨Beta.le_refl β, ht, hs, r, Fr.refl S w, rfl, rfl, fun _ _ => rfl⟩

theorem After.trans {β β1 β2 : Beta} {S : Sc} {w w1 w2 : World} {a a1 a2 : Act} {tm1 tm2 : List Value} {h1 h2 : H} {d1 d2 : List Tmp}
    (x : After E β S w a tm1 h1 d1 β1 a1 w1) (y : After E β1 S w1 a1 tm2 h2 d2 β2 a2 w2) : After E β S w a tm2 h2 (d1 ++ d2) β2 a2 w2 :=
  ⟨Beta.le_trans x.le y.le, y.tmr, y.tms, y.rh, x.fr.trans y.fr, y.defers.trans x.defers, y.size.trans x.size, fun i hi => by
    simp only [List.mem_append, not_or] at hi
    rw [y.keep i hi.2, x.keep i hi.1]⟩

theorem After.one {β β' : Beta} {S : Sc} {w w' : World} {a : Act} {tm : List Value} {h' : H} {o : Oper} {v v' : Value} (ht : TmR β tm a) (hs : TmS tm a) (hle : β.le β') (hv : VR β' v v') (r : RH E β' h' S w') (hf : Fr S w w') :
    After E β S w a (putD tm o.dst v) h' (dsts [o]) β' (a.put o.dst v') w' :=
  ⟨hle, (ht.mono hle).put hs o.dst hv, hs.put o.dst v v', r, hf, defers_put a _ _, size_put a _ _, fun i hi => getD_put_ne a _ _ i (by
    intro h
    apply hi
    simp [dsts, h])⟩

theorem dsts_cons (o : Oper) (l : List Oper) : dsts (o :: l) = dsts [o] ++ dsts l := by
  simp only [dsts, List.filterMap_cons, List.filterMap_nil]
  cases o.dst <;> simp

theorem wpOps_cons {ro : Option Nat} {ops : Array Oper} {i : Nat} {o : Oper} {Q : Exit → Act → World → Prop} {ks : List Nat} {a : Act} {w : World} (ho : ops[i]? = some o) :
    wpOpsIn (FW ro) 0 P ops Q (i :: ks) a w = if Region.wanted o (yielded ops a.tmps) then o.wpIn (FW ro) 0 P a w (wpOpsIn (FW ro) 0 P ops Q ks) Q else (∀ f, o.about P w a.eval = some f → (FW ro).fn f) ∧ wpOpsIn (FW ro) 0 P ops Q ks (a.put o.dst undef) w := by
  simp only [wpOpsIn, ho]

theorem Idx.cons {ops : Array Oper} {is : List Nat} {o : Oper} {l : List Oper} (h : Idx ops is (o :: l)) : ∃ i js, is = i :: js ∧ ops[i]? = some o ∧ Idx ops js l := by
  unfold Idx at h
  cases is with
  | nil => simp at h
  | cons i js => simp at h; exact ⟨i, js, rfl, h.1, h.2⟩

/-- what a list of operations does -/
def ListW (E : Env) (P : Program) (ops : Array Oper) (l : List Oper) (kn : List (Tmp × Option Bool)) (tm : List Value) (h : H) (tm' : List Value) (h' : H) : Prop :=
  ∀ (ro : Option Nat) β S w (a : Act), TmR β tm a → TmS tm a → KnOK kn a → RH E β h S w → ∀ (Q : Exit → Act → World → Prop) (is ks : List Nat), Idx ops is l →
    (∀ β' a' w', After E β S w a tm' h' (dsts l) β' a' w' → wpOpsIn (FW ro) 0 P ops Q ks a' w') → wpOpsIn (FW ro) 0 P ops Q (is ++ ks) a w

theorem length_putD (tm : List Value) (d : Option Tmp) (v : Value) : (putD tm d v).length = tm.length := by cases d <;> simp [putD, lset_length]

theorem opsK_sound (hE : EnvOK P E) (hC : CallsOK P E C) (hL : RoundsOK P E L) {ops : Array Oper} : ∀ (f : Nat) {R : Type} (l : List Oper) (kn : List (Tmp × Option Bool)) (tm : List Value) (h : H) (K : List Value → H → Option R) (res : R),
    opsK E C L ops.toList f l kn tm h K = some res → ∃ tm' h', K tm' h' = some res ∧ tm'.length = tm.length ∧ ListW E P ops l kn tm h tm' h' := by
  intro f
  induction f with
  | zero => intro R l kn tm h K res e; simp [opsK] at e
  | succ f ih =>
    intro R l kn tm h K res e
    cases l with
    | nil =>
      simp only [opsK] at e
      refine ⟨tm, h, e, rfl, fun ro β S w a ht hs hk r Q is ks hi hn => ?_⟩
      have : is = [] := by simpa [Idx] using hi
      subst this
      exact hn β a w (.refl ht hs r)
    | cons o rest =>
      -- an operation that is done
      have go : (stepK E C L o tm h fun v h' => opsK E C L ops.toList f rest (setKn kn o.dst) (putD tm o.dst v) h' K) = some res →
          (∀ a : Act, KnOK kn a → Region.wanted o (yielded ops a.tmps) = true) → ∃ tm' h', K tm' h' = some res ∧ tm'.length = tm.length ∧ ListW E P ops (o :: rest) kn tm h tm' h' := by
        intro hst hw
        obtain ⟨v, h1, hv, hstep⟩ := step_wp hE hC hL hst
        obtain ⟨tm', h', hK, hlen, hlist⟩ := ih rest _ _ _ _ _ hv
        refine ⟨tm', h', hK, by rw [hlen]; exact length_putD _ _ _, fun ro β S w a ht hs hk r Q is ks hi hn => ?_⟩
        obtain ⟨i, js, rfl, ho, hjs⟩ := hi.cons
        rw [List.cons_append, wpOps_cons ho, hw a hk]
        simp only [if_true]
        refine hstep ro β S w a ht r _ _ fun β1 v1 w1 hle hvr r1 hf1 => ?_
        have hone : After E β S w a (putD tm o.dst v) h1 (dsts [o]) β1 (a.put o.dst v1) w1 := .one ht hs hle hvr r1 hf1
        refine hlist ro β1 S w1 _ hone.tmr hone.tms (hk.set o.dst v1) r1 Q js ks hjs fun β2 a2 w2 h2 => hn β2 a2 w2 ?_
        rw [dsts_cons]
        exact hone.trans h2
      -- one that is not
      have skip : opsK E C L ops.toList f rest (offKn kn o.dst) (putD tm o.dst junk) h K = some res →
          (∀ a : Act, KnOK kn a → Region.wanted o (yielded ops a.tmps) = false) → ∃ tm' h', K tm' h' = some res ∧ tm'.length = tm.length ∧ ListW E P ops (o :: rest) kn tm h tm' h' := by
        intro hst hw
        obtain ⟨tm', h', hK, hlen, hlist⟩ := ih rest _ _ _ _ _ hst
        refine ⟨tm', h', hK, by rw [hlen]; exact length_putD _ _ _, fun ro β S w a ht hs hk r Q is ks hi hn => ?_⟩
        obtain ⟨i, js, rfl, ho, hjs⟩ := hi.cons
        rw [List.cons_append, wpOps_cons ho, hw a hk]
        simp only [Bool.false_eq_true, if_false]
        have hone : After E β S w a (putD tm o.dst junk) h (dsts [o]) β (a.put o.dst undef) w := .one ht hs (Beta.le_refl β) (.junk _) r (Fr.refl S w)
        refine ⟨fun _ _ => trivial, ?_⟩
        refine hlist ro β S w _ hone.tmr hone.tms (hk.off o.dst) r Q js ks hjs fun β2 a2 w2 h2 => hn β2 a2 w2 ?_
        rw [dsts_cons]
        exact hone.trans h2
      simp only [opsK] at e
      cases hg : o.guard with
      | none =>
        simp only [hg] at e
        exact go e fun a _ => by simp [Region.wanted, hg]
      | some jw =>
        obtain ⟨j, want⟩ := jw
        simp only [hg] at e
        cases hgs : gslot ops.toList j with
        | none => simp only [hgs] at e; cases e
        | some g =>
          simp only [hgs] at e
          cases hkg : kn.lookup g with
          | some q =>
            cases q with
            | some b =>
              simp only [hkg] at e
              split at e
              · rename_i hb
                refine go e fun a hk => ?_
                rw [wanted_eq hg hgs, hk g _ hkg]
                simpa using hb
              · rename_i hb
                refine skip e fun a hk => ?_
                rw [wanted_eq hg hgs, hk g _ hkg]
                simpa using hb
            | none =>
              simp only [hkg] at e
              refine skip e fun a hk => ?_
              rw [wanted_eq hg hgs, hk g _ hkg]
              rfl
          | none =>
            simp only [hkg] at e
            split at e
            · rename_i grp d after b hcut hgb
              have hsplit := cutPick_split _ _ _ _ hcut
              obtain ⟨⟨rb, h1⟩, hp, e⟩ := Option.bind_eq_some_iff.1 e
              have hgrp : opsK E C L ops.toList f grp ((g, some b) :: kn) (lset tm g (.bool b)) h (fun tm' h' => (asB (lget tm' d)).bind fun r => some (r, h')) = some (rb, h1) := by
                cases b <;> simpa using hp
              obtain ⟨tm1, h1', hK1, _, hl1⟩ := ih grp _ _ _ _ _ hgrp
              obtain ⟨rb2, hrb, hK1⟩ := Option.bind_eq_some_iff.1 hK1
              cases hK1
              obtain ⟨tm', h', hK, hlen, hl2⟩ := ih after _ _ _ _ _ e
              refine ⟨tm', h', hK, by rw [hlen, lset_length, length_dropD], fun ro β S w a ht hs hk r Q is ks hi hn => ?_⟩
              rw [hsplit] at hi hn
              obtain ⟨is1, is2, rfl, hi1, hi2⟩ := hi.split
              have hgv : a.tmps.getD g undef = .bool b := by
                have := ht g
                rw [hgb] at this
                exact this.bool_inv
              have ht1 : TmR β (lset tm g (.bool b)) a := by
                intro i
                rw [lget_lset]
                split
                · rename_i hh; rw [hh.1, hgv]; exact .clit _ rfl
                · exact ht i
              have hs1 : TmS (lset tm g (.bool b)) a := by unfold TmS; rw [lset_length]; exact hs
              rw [List.append_assoc]
              refine hl1 ro β S w a ht1 hs1 (hk.know (slotB_of hgv)) r Q is1 (is2 ++ ks) hi1 fun β1 a1 w1 h1 => ?_
              have hd1 : a1.tmps.getD d undef = .bool rb := by
                have := h1.tmr d
                rw [asB_some hrb] at this
                exact this.bool_inv
              have ht2 : TmR β1 (lset (dropD grp tm) d (.bool rb)) a1 := by
                intro i
                rw [lget_lset]
                split
                · rename_i hh; rw [hh.1, hd1]; exact .clit _ rfl
                · rw [lget_dropD]
                  split
                  · exact .junk _
                  · rename_i hni
                    rw [h1.keep i hni]
                    exact (ht i).mono h1.le
              have hs2 : TmS (lset (dropD grp tm) d (.bool rb)) a1 := by unfold TmS; rw [lset_length, length_dropD, h1.size]; exact hs
              refine hl2 ro β1 S w1 a1 ht2 hs2 (hk.drop grp kn h1.keep h1.size) h1.rh Q is2 ks hi2 fun β2 a2 w2 h2 => hn β2 a2 w2 ?_
              have : dsts (grp ++ after) = dsts grp ++ dsts after := by simp [dsts]
              rw [this]
              exact h1.trans h2
            · cases e

end Go.Arm
namespace Go.Arm
variable {E : Env} {P : Program} {C : CF} {L : LF}

def exOf : Ex → Exit
  | .normal => .normal
  | .exit i => .exit i
  | .goto l => .goto l
  | .ret => .ret

/-- less memory may be written -/
structure Sub (S S' : Sc) : Prop where
  mem : ∀ k, S' k → S k
  held : S'.held = S.held
  hol : S'.hol = S.hol
theorem Sub.refl (S : Sc) : Sub S S := ⟨fun _ h => h, rfl, rfl⟩
theorem Sub.trans {S S1 S2 : Sc} (h : Sub S S1) (k : Sub S1 S2) : Sub S S2 := ⟨fun b hb => h.mem b (k.mem b hb), k.held.trans h.held, k.hol.trans h.hol⟩

abbrev mkMark (r : Nat) : Deferred := { target := .collected r, args := #[] }
/-- marks of ranges over functions: whose rounds have left nothing to be done -/
def Marks (S S' : Sc) (w' : World) (l' l : List Deferred) : Prop :=
  ∃ rs : List Nat, l' = rs.map mkMark ++ l ∧ rs.Nodup ∧ ∀ r ∈ rs, w'.heap[r]? = some (.deferred (some [])) ∧ S r ∧ ¬ S' r
theorem Marks.nil (S S' : Sc) (w' : World) (l : List Deferred) : Marks S S' w' l l := ⟨[], rfl, .nil, fun _ h => by cases h⟩
theorem Marks.trans {S S1 S2 : Sc} {w1 w2 : World} {l l1 l2 : List Deferred} (hs : Sub S S1) (hs2 : Sub S1 S2) (hf : Fr S1 w1 w2) (h : Marks S S1 w1 l1 l) (k : Marks S1 S2 w2 l2 l1) : Marks S S2 w2 l2 l := by
  obtain ⟨rs, rfl, h1, h2⟩ := h
  obtain ⟨qs, rfl, k1, k2⟩ := k
  refine ⟨qs ++ rs, by simp, List.nodup_append.2 ⟨k1, h1, fun a ha b hb e => ?_⟩, fun r hr => ?_⟩
  · subst e; exact (h2 a hb).2.2 (k2 a ha).2.1
  · rcases List.mem_append.1 hr with hr | hr
    · exact ⟨(k2 r hr).1, hs.mem r (k2 r hr).2.1, (k2 r hr).2.2⟩
    · obtain ⟨q1, q2, q3⟩ := h2 r hr
      exact ⟨by rw [hf.keep r q3]; exact q1, q2, fun q => q3 (hs2.mem r q)⟩

/-- what holds behind code, but for the slots -/
structure Aft0 (E : Env) (β : Beta) (S : Sc) (w : World) (a : Act) (h' : H) (β' : Beta) (S' : Sc) (a' : Act) (w' : World) : Prop where
  le : β.le β'
  rh : RH E β' h' S' w'
  fr : Fr S w w'
  defers : Marks S S' w' a'.defers a.defers
  size : a'.tmps.size = a.tmps.size
  sub : Sub S S'

theorem Aft0.refl {β : Beta} {S : Sc} {w : World} {a : Act} {h : H} (r : RH E β h S w) : Aft0 E β S w a h β S a w :=
  ⟨Beta.le_refl β, r, Fr.refl S w, .nil _ _ _ _, rfl, .refl S⟩
theorem Aft0.trans {β β1 β2 : Beta} {S S1 S2 : Sc} {w w1 w2 : World} {a a1 a2 : Act} {h1 h2 : H}
    (x : Aft0 E β S w a h1 β1 S1 a1 w1) (y : Aft0 E β1 S1 w1 a1 h2 β2 S2 a2 w2) : Aft0 E β S w a h2 β2 S2 a2 w2 :=
  ⟨Beta.le_trans x.le y.le, y.rh, x.fr.trans ⟨y.fr.os, y.fr.tape, y.fr.output, y.fr.size, fun k hk => y.fr.keep k fun h => hk (x.sub.mem k h)⟩, x.defers.trans x.sub y.sub y.fr y.defers, y.size.trans x.size, x.sub.trans y.sub⟩

/-- what holds behind code -/
structure Aft (E : Env) (β : Beta) (S : Sc) (w : World) (a : Act) (tm' : List Value) (h' : H) (β' : Beta) (S' : Sc) (a' : Act) (w' : World) : Prop where
  a0 : Aft0 E β S w a h' β' S' a' w'
  tmr : TmR β' tm' a'
  tms : TmS tm' a'

theorem Aft.trans {β β1 β2 : Beta} {S S1 S2 : Sc} {w w1 w2 : World} {a a1 a2 : Act} {tm1 tm2 : List Value} {h1 h2 : H}
    (x : Aft E β S w a tm1 h1 β1 S1 a1 w1) (y : Aft E β1 S1 w1 a1 tm2 h2 β2 S2 a2 w2) : Aft E β S w a tm2 h2 β2 S2 a2 w2 :=
  ⟨x.a0.trans y.a0, y.tmr, y.tms⟩
theorem Aft.refl {β : Beta} {S : Sc} {w : World} {a : Act} {tm : List Value} {h : H} (ht : TmR β tm a) (hs : TmS tm a) (r : RH E β h S w) : Aft E β S w a tm h β S a w := ⟨.refl r, ht, hs⟩

/-- in no round, or no round is begun -/
def RoOK (ro : Option Nat) (c : Code) : Prop := ro = none ∨ noRange c = true

def CodeW (E : Env) (P : Program) (c : Code) (tm : List Value) (h : H) (ex : Ex) (tm' : List Value) (h' : H) : Prop :=
  ∀ (ro : Option Nat), RoOK ro c → ∀ β S w (a : Act), TmR β tm a → TmS tm a → RH E β h S w → ∀ Q : Exit → Act → World → Prop, (∀ β' S' a' w', Aft E β S w a tm' h' β' S' a' w' → Q (exOf ex) a' w') → c.wpIn (FW ro) 0 P Q a w

/-! ## loops and labels -/
theorem fenced_FW (P : Program) (ro : Option Nat) (m : Machine) : m.fenced P (FW ro) := fenced_wide P m
theorem one_FW {ro : Option Nat} {m m' : Machine} (h : Go.step P m = .next m') : StepsIn (Machine.fenced P (FW ro)) P m m' := .one (fenced_FW P ro m) h

def RunL (ro : Option Nat) (P : Program) (c : Code) (Q : Exit → Act → World → Prop) (a : Act) (w : World) : Prop :=
  ∀ (b : Frame) (k : List Item) (cs : List Frame), b.roundOf = ro → ∃ e a' w', Q e a' w' ∧ ArrivesIn (Machine.fenced P (FW ro)) P (lone (b.atR a (.code c :: .inLoop c :: k)) cs w) b k cs e a' w'
theorem wp_loop_of {ro : Option Nat} {c : Code} {Q : Exit → Act → World → Prop} {a : Act} {w : World} (h : RunL ro P c Q a w) : (Code.loop c).wpIn (FW ro) 0 P Q a w := fun b k cs hro _ _ =>
  let ⟨e, a', w', q, r⟩ := h b k cs hro
  ⟨e, a', w', q, .of_steps (one_FW stepR_loop) r⟩
theorem room_FW {ro : Option Nat} (n : Nat) : (FW ro).room n := fun _ h => by cases h
theorem RunL_of {ro : Option Nat} {c : Code} {Q : Exit → Act → World → Prop} {a : Act} {w : World} (h : c.wpIn (FW ro) 0 P (Exit.then (RunL ro P c Q) Q) a w) : RunL ro P c Q a w := by
  intro b k cs hro
  obtain ⟨e, a₁, w₁, hq, harr⟩ := h b (.inLoop c :: k) cs hro trivial (room_FW _)
  cases e with
  | normal =>
    obtain ⟨e₂, a₂, w₂, hq₂, harr₂⟩ := hq b k cs hro
    exact ⟨e₂, a₂, w₂, hq₂, .of_steps (StepsIn.trans harr (one_FW stepR_inLoop)) harr₂⟩
  | exit id => exact ⟨_, a₁, w₁, hq, .pass (x := .inLoop c) rfl (fun _ _ => .inl (by simp)) harr⟩
  | goto l => exact ⟨_, a₁, w₁, hq, .pass (x := .inLoop c) rfl (fun _ _ => .inl (by simp)) harr⟩
  | ret => exact ⟨_, a₁, w₁, hq, .pass (x := .inLoop c) rfl (fun _ _ => .inl (by simp)) harr⟩
  | panic ch => exact ⟨_, a₁, w₁, hq, .pass (x := .inLoop c) rfl (fun _ _ => .inl (by simp)) harr⟩
  | outgrown => exact ⟨_, a₁, w₁, hq, .pass (x := .inLoop c) rfl (fun _ _ => .inl (by simp)) harr⟩

theorem stepR_scope {b : Frame} {a : Act} {k : List Item} {cs : List Frame} {w : World} {c : Code} :
    Go.step P (lone (b.atR a (.code (.scope c) :: k)) cs w) = .next (lone (b.atR a (.code c :: .inScope c :: k)) cs w) :=
  step_lone_go (by simp [stepG, stepG.exec, Frame.atR])
theorem stepR_inScope {b : Frame} {a : Act} {k : List Item} {cs : List Frame} {w : World} {c : Code} :
    Go.step P (lone (b.atR a (.inScope c :: k)) cs w) = .next (lone (b.atR a k) cs w) :=
  step_lone_go (by simp [stepG, stepG.exec, Frame.atR])

def RunS (ro : Option Nat) (P : Program) (c rest : Code) (Q : Exit → Act → World → Prop) (a : Act) (w : World) : Prop :=
  ∀ (b : Frame) (k : List Item) (cs : List Frame), b.roundOf = ro → ∃ e a' w', Q e a' w' ∧ ArrivesIn (Machine.fenced P (FW ro)) P (lone (b.atR a (.code rest :: .inScope c :: k)) cs w) b k cs e a' w'
theorem wp_scope_of {ro : Option Nat} {c : Code} {Q : Exit → Act → World → Prop} {a : Act} {w : World} (h : RunS ro P c c Q a w) : (Code.scope c).wpIn (FW ro) 0 P Q a w := fun b k cs hro _ _ =>
  let ⟨e, a', w', q, r⟩ := h b k cs hro
  ⟨e, a', w', q, .of_steps (one_FW stepR_scope) r⟩
def Exit.inScopeOf (ro : Option Nat) (P : Program) (c : Code) (Q : Exit → Act → World → Prop) : Exit → Act → World → Prop
  | .goto l, a, w => match findLabel c l with
    | some rest => RunS ro P c rest Q a w
    | none => Q (.goto l) a w
  | e, a, w => Q e a w
theorem RunS_of {ro : Option Nat} {c rest : Code} {Q : Exit → Act → World → Prop} {a : Act} {w : World} (h : rest.wpIn (FW ro) 0 P (Exit.inScopeOf ro P c Q) a w) : RunS ro P c rest Q a w := by
  intro b k cs hro
  obtain ⟨e, a₁, w₁, hq, harr⟩ := h b (.inScope c :: k) cs hro trivial (room_FW _)
  cases e with
  | normal => exact ⟨.normal, a₁, w₁, hq, StepsIn.trans harr (one_FW stepR_inScope)⟩
  | exit id => exact ⟨.exit id, a₁, w₁, hq, fun k' hk => harr.1 k' (by simp [exitTo, hk]), fun hr hk => harr.2 hr (by simp [exitTo, hk])⟩
  | goto l =>
    simp only [Exit.inScopeOf] at hq
    cases hf : findLabel c l with
    | none =>
      rw [hf] at hq
      exact ⟨.goto l, a₁, w₁, hq, fun k' hk => harr.1 k' (by simp [gotoIn, hf, hk]), fun hr hk => harr.2 hr (by simp [gotoIn, hf, hk])⟩
    | some rest' =>
      rw [hf] at hq
      obtain ⟨e₂, a₂, w₂, hq₂, harr₂⟩ := hq b k cs hro
      exact ⟨e₂, a₂, w₂, hq₂, .of_steps (harr.1 _ (by simp [gotoIn, hf])) harr₂⟩
  | ret => exact ⟨_, a₁, w₁, hq, harr⟩
  | panic ch => exact ⟨_, a₁, w₁, hq, harr⟩
  | outgrown => exact ⟨_, a₁, w₁, hq, harr⟩

end Go.Arm
namespace Go.Arm
variable {E : Env} {P : Program} {C : CF} {L : LF}

/-! ## slots -/
theorem lget_keep (live : List Nat) : ∀ (tm : List Value) (n i : Nat), lget (keep live tm n) i = junk ∨ lget (keep live tm n) i = lget tm i
  | [], n, i => .inr rfl
  | v :: l, n, 0 => by
    simp only [keep, lget]
    split
    · exact .inr rfl
    · exact .inl rfl
  | v :: l, n, i + 1 => by simp only [keep, lget]; exact lget_keep live l (n + 1) i
theorem length_keep (live : List Nat) : ∀ (tm : List Value) (n : Nat), (keep live tm n).length = tm.length
  | [], n => rfl
  | v :: l, n => by simp [keep, length_keep live l (n + 1)]
theorem TmR.mask {β : Beta} {tm : List Value} {a : Act} (h : TmR β tm a) (A : Ann) (c : Code) : TmR β (maskAt A c tm) a := by
  unfold maskAt
  split
  · intro i
    rename_i live _
    rcases lget_keep live tm 0 i with h1 | h1
    · rw [h1]; exact .junk _
    · rw [h1]; exact h i
  · exact h
theorem TmS.mask {tm : List Value} {a : Act} (h : TmS tm a) (A : Ann) (c : Code) : TmS (maskAt A c tm) a := by
  unfold maskAt
  split
  · unfold TmS; rw [length_keep]; exact h
  · exact h

/-- the real values of slots -/
def slotsOf (a : Act) (ss : List (Nat × Nat)) : List Value := ss.map fun s => a.tmps.getD s.1 undef

theorem gather_rel {β : Beta} {tm : List Value} {a : Act} (h : TmR β tm a) (ss : List (Nat × Nat)) : VL β (gather ss tm) (slotsOf a ss) := by
  induction ss with
  | nil => exact .nil β
  | cons s ss ih => exact .cons (h s.1) ih

theorem lget_junks (n i : Nat) : lget (List.replicate n junk) i = junk := by
  induction n generalizing i with
  | zero => rfl
  | succ n ih => cases i <;> simp [List.replicate_succ, lget, ih]

theorem scatter_go {β : Beta} {a : Act} : ∀ (ss : List (Nat × Nat)) (vs : List Value) (tm : List Value), TmR β tm a → VL β vs (slotsOf a ss) →
    TmR β ((ss.zip vs).foldl (fun tm p => lset tm p.1.1 p.2) tm) a ∧ ((ss.zip vs).foldl (fun tm p => lset tm p.1.1 p.2) tm).length = tm.length
  | [], vs, tm, h, _ => ⟨h, rfl⟩
  | s :: ss, [], tm, h, hv => by simp [VL, slotsOf] at hv
  | s :: ss, v :: vs, tm, h, hv => by
    simp only [List.zip_cons_cons, List.foldl_cons]
    have h1 : VR β v (a.tmps.getD s.1 undef) := hv.head
    have hset : TmR β (lset tm s.1 v) a := by
      intro i
      rw [lget_lset]
      split
      · rename_i hh; rw [hh.1]; exact h1
      · exact h i
    obtain ⟨h2, h3⟩ := scatter_go ss vs (lset tm s.1 v) hset hv.tail
    exact ⟨h2, by rw [h3, lset_length]⟩

theorem scatter_rel {β : Beta} {a : Act} {n : Nat} {ss : List (Nat × Nat)} {vs : List Value} (hv : VL β vs (slotsOf a ss)) (hn : n ≤ a.tmps.size) : TmR β (scatter n ss vs) a ∧ TmS (scatter n ss vs) a := by
  obtain ⟨h1, h2⟩ := scatter_go ss vs (List.replicate n junk) (fun i => by rw [lget_junks]; exact .junk _) hv
  refine ⟨h1, ?_⟩
  unfold TmS scatter
  rw [h2]
  simpa using hn

theorem canon1_some {R : Type} {kd : Nat} {v : Value} {J : Value → Option R} {res : R} (e : canon1 E kd v J = some res) : J v = some res := by
  unfold canon1 at e
  split at e
  · obtain ⟨⟨b, q⟩, hp, e2⟩ := Option.bind_eq_some_iff.1 e
    rw [asP_some hp]
    exact e2
  · exact e
  · exact src1_some e

theorem lget_drop (vs : List Value) (i : Nat) (h : i < vs.length) : vs.drop i = lget vs i :: vs.drop (i + 1) := by
  induction vs generalizing i with
  | nil => simp at h
  | cons v vs ih =>
    cases i with
    | zero => simp [lget]
    | succ i => simp only [List.drop_succ_cons, lget]; exact ih i (by simpa using h)

theorem canonL_some {R : Type} {res : R} : ∀ (ss : List (Nat × Nat)) (vs : List Value) (i : Nat) (acc : List Value) (J : List Value → Option R), canonL E ss vs i acc J = some res → i + ss.length = vs.length → J (acc.reverse ++ vs.drop i) = some res
  | [], vs, i, acc, J, e, hl => by
    simp only [canonL] at e
    rw [List.drop_eq_nil_of_le (by simp at hl; omega), List.append_nil]
    exact e
  | s :: ss, vs, i, acc, J, e, hl => by
    simp only [canonL] at e
    have e2 := canon1_some e
    have e3 := canonL_some ss vs (i + 1) _ J e2 (by simp at hl ⊢; omega)
    rw [lget_drop vs i (by simp at hl; omega)]
    simpa using e3

theorem dispK_some {R : Type} {res : R} {len : Nat} {k : Nat} {vs : List Value} {h : H} {K : Ex → List Value → H → Option R} : ∀ (outs : List (Ex × List (Nat × Nat))) (i : Nat), dispK E len outs i k vs h K = some res → i ≤ k → k < i + outs.length →
    ∀ (ex : Ex) (ss : List (Nat × Nat)), outs[k - i]? = some (ex, ss) → ss.length = vs.length → K ex (scatter len ss vs) h = some res
  | [], i, e, _, hk, ex, ss, ho, hl => by simp [dispK] at e
  | [o], i, e, h1, hk, ex, ss, ho, hl => by
    simp only [dispK] at e
    have : k = i := by simp at hk; omega
    subst this
    simp at ho
    subst ho
    have := canonL_some _ _ _ _ _ e (by simpa using hl)
    simpa using this
  | o :: o' :: os, i, e, h1, hk, ex, ss, ho, hl => by
    simp only [dispK] at e
    by_cases hki : k = i
    · subst hki
      simp at e ho
      subst ho
      have := canonL_some _ _ _ _ _ e (by simpa using hl)
      simpa using this
    · have : (k == i) = false := by simp [hki]
      rw [this] at e
      simp only [cond_false] at e
      refine dispK_some (o' :: os) (i + 1) e (by omega) (by simp at hk ⊢; omega) ex ss ?_ hl
      rw [show k - i = (k - (i + 1)) + 1 by omega] at ho
      simpa using ho

/-! ## what is promised of loops and labels -/
def LoopW (E : Env) (c : Code) (X : Option Nat → (Exit → Act → World → Prop) → Act → World → Prop) (live : List (Nat × Nat)) (vals : List Value) (h : H) (ex : Ex) (ss : List (Nat × Nat)) (vs : List Value) (h' : H) (n : Nat) : Prop :=
  ∀ ro, RoOK ro c → ∀ β S w (a : Act), VL β vals (slotsOf a live) → n ≤ a.tmps.size → RH E β h S w → ∀ Q : Exit → Act → World → Prop,
    (∀ β' S' (a' : Act) w', Aft0 E β S w a h' β' S' a' w' → VL β' vs (slotsOf a' ss) → Q (exOf ex) a' w') → X ro Q a w

def loopsOf : Code → List (Nat × Code)
  | .seq a b => loopsOf a ++ loopsOf b
  | .cond _ a b => loopsOf a ++ loopsOf b
  | .block _ b => loopsOf b
  | .scope b => loopsOf b
  | .loop b => (match first b with | some r => [(r, b)] | none => []) ++ loopsOf b
  | .rangeFunc _ _ a b => loopsOf a ++ loopsOf b
  | _ => []
def scopesOf : Code → List Code
  | .seq a b => scopesOf a ++ scopesOf b
  | .cond _ a b => scopesOf a ++ scopesOf b
  | .block _ b => scopesOf b
  | .scope b => b :: scopesOf b
  | .loop b => scopesOf b
  | .rangeFunc _ _ a b => scopesOf a ++ scopesOf b
  | _ => []

def rangesOf : Code → List (Nat × Array Tmp × Code × Code)
  | .seq a b => rangesOf a ++ rangesOf b
  | .cond _ a b => rangesOf a ++ rangesOf b
  | .block _ b => rangesOf b
  | .scope b => rangesOf b
  | .loop b => rangesOf b
  | .rangeFunc _ ps x y => (match first x with | some r => [(r, ps, x, y)] | none => []) ++ (rangesOf x ++ rangesOf y)
  | _ => []

structure LoopsOK (E : Env) (P : Program) (A : Ann) (L : LF) (f : Nat) (body : Code) (n : Nat) : Prop where
  loops : ∀ r b la vals h k vs h', (r, b) ∈ loopsOf body → A.loops.get r = some la → L f r vals h = some (k, vs, h') →
    ∃ ex ss, la.outs[k]? = some (ex, ss) ∧ ss.length = vs.length ∧ LoopW E b (fun ro => RunL ro P b) la.live vals h ex ss vs h' n
  labels : ∀ l b rest la vals h k vs h', b ∈ scopesOf body → findLabel b l = some rest → A.loops.get (lblKey + l) = some la → L f (lblKey + l) vals h = some (k, vs, h') →
    ∃ ex ss, la.outs[k]? = some (ex, ss) ∧ ss.length = vs.length ∧ LoopW E b (fun ro => RunS ro P b rest) la.live vals h ex ss vs h' n
  ranges : ∀ r ps x y, (r, ps, x, y) ∈ rangesOf body → RngOf E f r ps x y n
  rounds : RoundsOK P E L

def DrawOK (E : Env) (P : Program) (C : CF) (L : LF) : Prop :=
  ∀ (id : Nat) (ops : Array Oper) {R : Type} (tm : List Value) (h : H) (K : List Value → H → Option R) (res : R), drawOk ops.toList = true →
    drawK E C L ops.toList (befs ops.toList) (effs ops.toList 0) h.next ops.toList 0 [] tm (holes (fnum ops.toList ops.toList.length) h) ⟨[], [], []⟩ K = some res → ∃ tm' h', K tm' h' = some res ∧ tm'.length = tm.length ∧ CodeW E P (.region id ops true) tm h .normal tm' h'

theorem Idx.range (ops : Array Oper) : Idx ops (List.range ops.size) ops.toList := by
  unfold Idx
  apply List.ext_getElem?
  intro i
  simp only [List.getElem?_map]
  by_cases hi : i < ops.size
  · rw [List.getElem?_eq_getElem (by simpa using hi)]
    simp [hi]
  · rw [List.getElem?_eq_none (by simpa using hi), List.getElem?_eq_none (by simpa using hi)]
    rfl

theorem next_rel {β : Beta} {tm : List Value} {a : Act} (A : Ann) (x y : Code) (h : TmR β tm a) : TmR β (match x with | .region .. => tm | _ => maskAt A y tm) a := by
  split
  · exact h
  · exact h.mask A y
theorem next_tms {tm : List Value} {a : Act} (A : Ann) (x y : Code) (h : TmS tm a) : TmS (match x with | .region .. => tm | _ => maskAt A y tm) a := by
  split
  · exact h
  · exact h.mask A y
theorem next_len (A : Ann) (x y : Code) (tm : List Value) : (match x with | .region .. => tm | _ => maskAt A y tm).length = tm.length := by
  split
  · rfl
  · unfold maskAt
    split
    · rw [length_keep]
    · rfl

theorem length_scatter (n : Nat) (ss : List (Nat × Nat)) (vs : List Value) : (scatter n ss vs).length = n := by
  have : ∀ (l : List ((Nat × Nat) × Value)) (tm : List Value), (l.foldl (fun tm p => lset tm p.1.1 p.2) tm).length = tm.length := by
    intro l
    induction l with
    | nil => intro tm; rfl
    | cons p l ih => intro tm; rw [List.foldl_cons, ih, lset_length]
  unfold scatter
  rw [this]
  simp

theorem RH.setOther {β : Beta} {h : H} {S : Sc} {w : World} (r : RH E β h S w) {q : Nat} {o : Obj} (hq : ∀ c l y, h.get c = some l → l ≠ .hole → β c = some y → y.blk ≠ q) : RH E β h S (w.putObj q o) := by
  have hsz : (w.putObj q o).heap.size = w.heap.size := by simp [World.putObj]
  refine ⟨r.glob, by rw [hsz]; exact r.up, r.fresh, by rw [hsz]; exact r.lt, fun c l hc hh => ?_, r.disj, r.hol, r.held⟩
  obtain ⟨y, hy, hk⟩ := r.blk c l hc hh
  exact ⟨y, hy, hk.keep (Beta.le_refl β) (fun s => s) (World.putObj_heap_other (hq c l y hc hh hy))⟩

theorem isLoop_some {b : Option Blk} (h : isLoop b = true) : ∃ f r vs, b = some (.loop f r vs) := by
  unfold isLoop at h
  split at h
  · exact ⟨_, _, _, rfl⟩
  · cases h

theorem range_wp (hC : CallsOK P E C) {g : Operand} {ps : Array Tmp} {x y : Code} {tm : List Value} {h h1 : H} {f q n gq : Nat} {as bs : Array Value} {v : Value} (hn : tm.length = n) (hrng : RngOf E f q ps x y n)
    (hg : opv E tm g = .func (.func gq) as bs) (hc : C gq (as.toList ++ [.func (.yield h.next) #[] #[]] ++ bs.toList) (h.new (.loop f q tm)) = some (v, h1)) (hlp : isLoop (h1.get h.next) = true) :
    CodeW E P (.rangeFunc g ps x y) tm h .normal tm (h1.put h.next none) := by
  intro ro hro β S w a ht hs r Q hQ
  obtain rfl : ro = none := hro.resolve_right (by simp [noRange])
  obtain ⟨⟨fn, hfn, hng, hbd⟩, hcalls⟩ := hC _ _ _ _ _ hc
  obtain ⟨fnE, cE, hE1, hE2, hE3, hE4⟩ := hrng
  have hv := opv_rel r ht g
  rw [hg] at hv
  obtain ⟨as', bs', hve, hva, hvb⟩ := hv.func_inv
  have hnext : β h.next = none := r.fresh _ (Nat.le_refl _)
  have r1 : RH E β h (S.cut w.heap.size) (w.alloc (.deferred (some []))) := r.cut _
  refine wpIn_rangeFunc fun fn0 _ => ?_
  obtain ⟨rc, hrc⟩ : ∃ rc : Loop, rc = { state := .ready, pending := none, fn := fn0, tmps := a.tmps, params := ps, assign := x, body := y, defers := w.heap.size } := ⟨_, rfl⟩
  obtain ⟨be, hbe⟩ : ∃ be : BE, be = ⟨w.heap.size + 1, 0, 0, 0, 0, false⟩ := ⟨_, rfl⟩
  have hbb : be.blk = w.heap.size + 1 := by rw [hbe]
  have hsz1 : (w.alloc (.deferred (some []))).heap.size = w.heap.size + 1 := size_alloc _ _
  have hS1 : (S.cut w.heap.size) be.blk := ⟨r.up _ (by omega), by omega⟩
  have r2 : RH E (β.set h.next be) (h.new (.loop f q tm)) (S.cut w.heap.size) ((w.alloc (.deferred (some []))).alloc (.loop rc)) := by
    refine r1.add h.next _ _ _ (H.get_next h) hnext (by simp [H.next_new]) (by simp [H.next_new]) (get_new h _) (by rw [hsz1, hbb]) ⟨hS1, rc, ?_, by rw [hrc], by rw [hrc], fun i => ?_, ?_, fnE, cE, hE1, hE2, by rw [hrc]; exact hE3, by omega⟩
    · have := heap_alloc_at (w.alloc (.deferred (some []))) (.loop rc)
      rw [hsz1] at this
      rw [hbb]
      exact this
    · rw [hrc]; exact (ht i).mono (Beta.le_set _ hnext)
    · rw [hrc]; exact hs
  have hle1 := Beta.le_set (β := β) be hnext
  have hy : VR (β.set h.next be) (.func (.yield h.next) #[] #[]) (.func (.yield (w.heap.size + 1)) #[] #[]) := by
    rw [← hbb]; exact VR.yield _ _ (Beta.set_same _ _ _)
  have hcall := hcalls _ _ _ (as'.toList ++ [.func (.yield (w.heap.size + 1)) #[] #[]] ++ bs'.toList) (((hva.mono hle1).append (.cons hy (.nil _))).append (hvb.mono hle1)) r2
  have hnone : fn.body.isNone = false := by cases hb : fn.body <;> simp_all
  have harr : as' ++ #[Value.func (.yield (w.heap.size + 1)) #[] #[]] ++ bs' = ⟨as'.toList ++ [.func (.yield (w.heap.size + 1)) #[] #[]] ++ bs'.toList⟩ := by
    apply Array.ext'; simp
  have hent := run_enterLoop_outer (P := P) (w := w) fn0 a.tmps ps x y
  rw [← hrc] at hent
  have fr1 : Fr S w ((w.alloc (.deferred (some []))).alloc (.loop rc)) := (Fr.alloc w _ r.up).trans (Fr.alloc _ _ fun k hk => r.up k (by rw [hsz1] at hk; omega))
  have hmark : ((w.alloc (.deferred (some []))).alloc (.loop rc)).heap[w.heap.size]? = some (.deferred (some [])) := by
    rw [heap_alloc_old _ _ _ (by rw [hsz1]; omega)]
    exact heap_alloc_at w _
  generalize hw2 : (w.alloc (.deferred (some []))).alloc (.loop rc) = w2 at *
  have hres : (resolve a.eval (rangeCall g (w.heap.size + 1)) 0).run P w2 = .ok { target := .fn (.func gq) bs', args := as' ++ #[Value.func (.yield (w.heap.size + 1)) #[] #[]] } w2 := by
    simp only [resolve, hve, Deferred.ofValue, Sem.run_pure]
    simp [Act.eval]
  have hinv : (invoke (.fn (.func gq) bs') (as' ++ #[Value.func (.yield (w.heap.size + 1)) #[] #[]])).run P w2 = .ok (.enter gq ⟨as'.toList ++ [.func (.yield (w.heap.size + 1)) #[] #[]] ++ bs'.toList⟩) w2 := by
    simp only [invoke, callFunc, Sem.run_bind, Sem.run_pure, Result.andThen_ok, run_program, hfn, hng, hnone, Bool.false_eq_true, if_false, harr]
  refine ⟨w.heap.size + 1, [mkMark w.heap.size], w2, _, w2, gq, _, w2, hent, hres, fun _ _ => trivial, hinv, fun h => (by cases h), callsIn_FW (hcall.mono fun ed w3 hpost => ?_)⟩
  cases ed with
  | panicked _ => exact hpost.elim
  | outgrown => exact hpost.elim
  | returned u =>
    obtain ⟨β', hle, r3, fr3, _⟩ := hpost
    obtain ⟨f3, q3, vs3, hg3⟩ := isLoop_some hlp
    obtain ⟨y3, hy3, hb3⟩ := r3.blk _ _ hg3 (by simp)
    have hbe3 := hle _ _ (Beta.set_same β h.next be)
    rw [hbe3] at hy3; cases hy3
    obtain ⟨_, rc3, hrc3, hst3, hpe3, _⟩ := hb3
    have hend := run_endLoop (P := P) hrc3 (by rw [hst3]; simp)
    obtain ⟨o3, ho3⟩ : ∃ o3, o3 = Obj.loop { rc3 with state := .exhausted } := ⟨_, rfl⟩
    rw [← ho3, hpe3] at hend
    refine ⟨none, _, by rw [← hbb]; exact hend, ?_⟩
    have r4 := (r3.kill h.next (by rw [hg3]; simp)).setOther (q := be.blk) (o := o3) fun c l z hc hl hz => by
      obtain ⟨h5, h6⟩ := H.get_put_none hc
      exact (r3.disj h.next c _ l be z hg3 h6 (Ne.symm h5) rfl hbe3 hz).symm
    have hmark3 : w3.heap[w.heap.size]? = some (.deferred (some [])) := by
      rw [fr3.keep _ fun h => h.2 rfl]; exact hmark
    have fr4 : Fr (S.cut w.heap.size) w3 (w3.putObj be.blk o3) :=
      ⟨rfl, rfl, rfl, by simp [World.putObj], fun k hk => World.putObj_heap_other (fun e => hk (by rw [e]; exact hS1))⟩
    have fr34 := fr3.trans fr4
    refine hQ β' (S.cut w.heap.size) _ _ ⟨⟨Beta.le_trans hle1 hle, r4, fr1.trans ⟨fr34.os, fr34.tape, fr34.output, fr34.size, fun k hk => fr34.keep k fun h => hk h.1⟩, ⟨[w.heap.size], rfl, by simp, fun q hq => ?_⟩, rfl, ⟨fun k hk => hk.1, rfl, rfl⟩⟩, ht.mono (Beta.le_trans hle1 hle), hs⟩
    rw [List.mem_singleton] at hq
    subst hq
    refine ⟨?_, r.up _ (Nat.le_refl _), fun h => h.2 rfl⟩
    rw [World.putObj_heap_other (by omega)]; exact hmark3

theorem codeK_sound (hE : EnvOK P E) (hC : CallsOK P E C) (hD : DrawOK E P C L) {A : Ann} {f : Nat} {body : Code} {n : Nat} (hL : LoopsOK E P A L f body n) :
    ∀ (c : Code) {R : Type} (tm : List Value) (h : H) (K : Ex → List Value → H → Option R) (res : R), (∀ p ∈ loopsOf c, p ∈ loopsOf body) → (∀ b ∈ scopesOf c, b ∈ scopesOf body) → (∀ q ∈ rangesOf c, q ∈ rangesOf body) → tm.length = n →
      codeK E C L f A c tm h K = some res → ∃ ex tm' h', K ex tm' h' = some res ∧ tm'.length = n ∧ CodeW E P c tm h ex tm' h' := by
  intro c
  induction c with
  | skip =>
    intro R tm h K res _ _ _ hn e
    exact ⟨.normal, tm, h, by simpa only [codeK] using e, hn, fun ro hro β S w a ht hs r Q hq => wpIn_skip (hq β S a w (.refl ht hs r))⟩
  | label l =>
    intro R tm h K res _ _ _ hn e
    exact ⟨.normal, tm, h, by simpa only [codeK] using e, hn, fun ro hro β S w a ht hs r Q hq => wpIn_label (hq β S a w (.refl ht hs r))⟩
  | exit id =>
    intro R tm h K res _ _ _ hn e
    exact ⟨.exit id, tm, h, by simpa only [codeK] using e, hn, fun ro hro β S w a ht hs r Q hq => wpIn_exit (hq β S a w (.refl ht hs r))⟩
  | goto l =>
    intro R tm h K res _ _ _ hn e
    exact ⟨.goto l, tm, h, by simpa only [codeK] using e, hn, fun ro hro β S w a ht hs r Q hq => wpIn_goto (hq β S a w (.refl ht hs r))⟩
  | ret =>
    intro R tm h K res _ _ _ hn e
    exact ⟨.ret, tm, h, by simpa only [codeK] using e, hn, fun ro hro β S w a ht hs r Q hq => wpIn_ret (hq β S a w (.refl ht hs r))⟩
  | refuse why => intro R tm h K res _ _ _ hn e; simp [codeK] at e
  | rangeFunc g ps x y _ _ =>
    intro R tm h K res _ _ hr0 hn e
    simp only [codeK] at e
    split at e
    case h_2 => cases e
    rename_i q hq
    cases hnr : (noRange x && noRange y) with
    | false => rw [hnr] at e; cases e
    | true =>
      simp only [hnr, cond_true] at e
      obtain ⟨⟨v, h1⟩, hc, e⟩ := Option.bind_eq_some_iff.1 e
      unfold rngV at hc
      split at hc
      case h_2 => cases hc
      rename_i gq as bs hg
      cases hlp : isLoop (h1.get h.next) with
      | false => simp [hlp] at e
      | true =>
        simp only [hlp, cond_true] at e
        exact ⟨.normal, tm, _, e, hn, range_wp hC hn (hL.ranges q ps x y (hr0 _ (by simp [rangesOf, hq]))) hg hc hlp⟩
  | region id ops draw =>
    intro R tm h K res _ _ _ hn e
    simp only [codeK] at e
    cases draw with
    | true =>
      simp only [if_true] at e
      split at e
      · rename_i hd
        obtain ⟨tm', h', hK, hl, hw⟩ := hD id ops tm h _ res hd e
        exact ⟨.normal, tm', h', hK, hl.trans hn, hw⟩
      · cases e
    | false =>
      simp only [Bool.false_eq_true, if_false] at e
      obtain ⟨tm', h', hK, hlen, hw⟩ := opsK_sound hE hC hL.rounds _ _ _ _ _ _ _ e
      refine ⟨.normal, tm', h', hK, hlen.trans hn, fun ro hro β S w a ht hs r Q hq => wpIn_region ?_⟩
      have := hw ro β S w a ht hs (fun _ _ h => by simp at h) r Q (List.range ops.size) [] (Idx.range ops) (fun β' a' w' x => by
        simp only [wpOpsIn]
        exact hq β' S a' w' ⟨⟨x.le, x.rh, x.fr, by rw [x.defers]; exact .nil _ _ _ _, x.size, .refl S⟩, x.tmr, x.tms⟩)
      simpa using this
  | seq x y ihx ihy =>
    intro R tm h K res hl hs hr0 hn e
    simp only [codeK] at e
    obtain ⟨ex, tm1, h1, hK, hn1, hw⟩ := ihx tm h _ res (fun p hp => hl p (by simp [loopsOf, hp])) (fun p hp => hs p (by simp [scopesOf, hp])) (fun p hp => hr0 p (by simp [rangesOf, hp])) hn e
    have stop : ∀ ex', ex = ex' → ex' ≠ .normal → K ex' tm1 h1 = some res → ∃ ex tm' h', K ex tm' h' = some res ∧ tm'.length = n ∧ CodeW E P (.seq x y) tm h ex tm' h' := by
      intro ex' he hne hK
      subst he
      refine ⟨ex, tm1, h1, hK, hn1, fun ro hro β S w a ht hs r Q hq => wpIn_seq ?_⟩
      refine hw ro (hro.imp id fun h => by simp only [noRange, Bool.and_eq_true] at h; exact h.1) β S w a ht hs r _ fun β' S' a' w' x => ?_
      have := hq β' S' a' w' x
      cases ex with
      | normal => exact absurd rfl hne
      | exit i => exact this
      | goto l => exact this
      | ret => exact this
    cases ex with
    | exit i => exact stop _ rfl (by simp) hK
    | goto l => exact stop _ rfl (by simp) hK
    | ret => exact stop _ rfl (by simp) hK
    | normal =>
      simp only at hK
      obtain ⟨ex2, tm2, h2, hK2, hn2, hw2⟩ := ihy _ h1 K res (fun p hp => hl p (by simp [loopsOf, hp])) (fun p hp => hs p (by simp [scopesOf, hp])) (fun p hp => hr0 p (by simp [rangesOf, hp])) ((next_len A x y tm1).trans hn1) hK
      refine ⟨ex2, tm2, h2, hK2, hn2, fun ro hro β S w a ht hs r Q hq => wpIn_seq ?_⟩
      refine hw ro (hro.imp id fun h => by simp only [noRange, Bool.and_eq_true] at h; exact h.1) β S w a ht hs r _ fun β1 S1 a1 w1 x1 => ?_
      show y.wpIn (FW ro) 0 P Q a1 w1
      exact hw2 ro (hro.imp id fun h => by simp only [noRange, Bool.and_eq_true] at h; exact h.2) β1 S1 w1 a1 (next_rel A x y x1.tmr) (next_tms A x y x1.tms) x1.a0.rh Q fun β2 S2 a2 w2 x2 => hq β2 S2 a2 w2 (x1.trans x2)
  | cond c x y ihx ihy =>
    intro R tm h K res hl hs hr0 hn e
    simp only [codeK] at e
    split at e
    case h_2 => cases e
    rename_i t ht0
    cases t with
    | true =>
      simp only [cond_true] at e
      obtain ⟨ex, tm', h', hK, hn', hw⟩ := ihx tm h K res (fun p hp => hl p (by simp [loopsOf, hp])) (fun p hp => hs p (by simp [scopesOf, hp])) (fun p hp => hr0 p (by simp [rangesOf, hp])) hn e
      refine ⟨ex, tm', h', hK, hn', fun ro hro β S w a ht hs r Q hq => wpIn_cond_true ?_ (hw ro (hro.imp id fun h => by simp only [noRange, Bool.and_eq_true] at h; exact h.1) β S w a ht hs r Q hq)⟩
      have := opv_rel r ht c
      rw [ht0] at this
      exact this.bool_inv
    | false =>
      simp only [cond_false] at e
      obtain ⟨ex, tm', h', hK, hn', hw⟩ := ihy tm h K res (fun p hp => hl p (by simp [loopsOf, hp])) (fun p hp => hs p (by simp [scopesOf, hp])) (fun p hp => hr0 p (by simp [rangesOf, hp])) hn e
      refine ⟨ex, tm', h', hK, hn', fun ro hro β S w a ht hs r Q hq => wpIn_cond_false ?_ (hw ro (hro.imp id fun h => by simp only [noRange, Bool.and_eq_true] at h; exact h.2) β S w a ht hs r Q hq)⟩
      have := opv_rel r ht c
      rw [ht0] at this
      exact this.bool_inv
  | block id b ih =>
    intro R tm h K res hl hs hr0 hn e
    simp only [codeK] at e
    obtain ⟨ex, tm', h', hK, hn', hw⟩ := ih tm h _ res (fun p hp => hl p (by simpa [loopsOf] using hp)) (fun p hp => hs p (by simpa [scopesOf] using hp)) (fun p hp => hr0 p (by simpa [rangesOf] using hp)) hn e
    have key : ∀ ex', K ex' tm' h' = some res → (∀ (Q : Exit → Act → World → Prop) a w, Q (exOf ex') a w → Exit.inBlock id Q (exOf ex) a w) → ∃ ex tm' h', K ex tm' h' = some res ∧ tm'.length = n ∧ CodeW E P (.block id b) tm h ex tm' h' :=
      fun ex' hK hx => ⟨ex', tm', h', hK, hn', fun ro hro β S w a ht hs r Q hq => wpIn_block (hw ro hro β S w a ht hs r _ fun β' S' a' w' x => hx Q a' w' (hq β' S' a' w' x))⟩
    cases ex with
    | normal => exact key _ hK fun Q a w q => q
    | goto l => exact key _ hK fun Q a w q => q
    | ret => exact key _ hK fun Q a w q => q
    | exit i =>
      simp only at hK
      split at hK
      · rename_i hi
        exact key _ hK fun Q a w q => by simp only [exOf, Exit.inBlock, hi, if_true]; exact q
      · rename_i hi
        exact key _ hK fun Q a w q => by simp only [exOf, Exit.inBlock, hi, if_false]; exact q
  | loop b ih =>
    intro R tm h K res hl hs hr0 hn e
    simp only [codeK] at e
    split at e
    case h_2 => cases e
    rename_i la r hla hr
    rw [hr] at hla
    simp only [Option.bind_some] at hla
    obtain ⟨⟨k, vs, h1⟩, hLf, e⟩ := Option.bind_eq_some_iff.1 e
    obtain ⟨ex, ss, hout, hlen, hw⟩ := hL.loops r b la _ h k vs h1 (hl _ (by simp [loopsOf, hr])) hla hLf
    have hk := (List.getElem?_eq_some_iff.1 hout).1
    have hK := dispK_some la.outs 0 e (by omega) (by omega) ex ss (by simpa using hout) hlen
    refine ⟨ex, _, h1, hK, ?_, fun ro hro β S w a ht hs r Q hq => wp_loop_of (hw ro hro β S w a (gather_rel ht _) (by have := hs; unfold TmS at this; omega) r Q fun β' S' a' w' x hv => ?_)⟩
    · rw [length_scatter]; exact hn
    · have hsz' : tm.length ≤ a'.tmps.size := by rw [x.size]; exact hs
      obtain ⟨q1, q2⟩ := scatter_rel (n := tm.length) hv hsz'
      exact hq β' S' a' w' ⟨x, q1, q2⟩
  | scope b ih =>
    intro R tm h K res hl hs hr0 hn e
    simp only [codeK] at e
    obtain ⟨ex, tm1, h1, hK, hn1, hw⟩ := ih tm h _ res (fun p hp => hl p (by simpa [loopsOf] using hp)) (fun p hp => hs p (by simp [scopesOf, hp])) (fun p hp => hr0 p (by simp [rangesOf, hp])) hn e
    have key : ∀ ex', K ex' tm1 h1 = some res → (∀ ro (Q : Exit → Act → World → Prop) a w, Q (exOf ex') a w → Exit.inScopeOf ro P b Q (exOf ex) a w) → ∃ ex tm' h', K ex tm' h' = some res ∧ tm'.length = n ∧ CodeW E P (.scope b) tm h ex tm' h' :=
      fun ex' hK hx => ⟨ex', tm1, h1, hK, hn1, fun ro hro β S w a ht hs r Q hq => wp_scope_of (RunS_of (hw ro hro β S w a ht hs r _ fun β' S' a' w' x => hx ro Q a' w' (hq β' S' a' w' x)))⟩
    cases ex with
    | normal => exact key _ hK fun ro Q a w q => q
    | exit i => exact key _ hK fun ro Q a w q => q
    | ret => exact key _ hK fun ro Q a w q => q
    | goto l =>
      simp only at hK
      split at hK
      · rename_i hf
        obtain ⟨rest, hrest⟩ := Option.isSome_iff_exists.1 hf
        split at hK
        case h_2 => cases hK
        rename_i la hla
        obtain ⟨⟨k, vs, h2⟩, hLf, e2⟩ := Option.bind_eq_some_iff.1 hK
        obtain ⟨ex, ss, hout, hlen, hw2⟩ := hL.labels l b rest la _ h1 k vs h2 (hs _ (by simp [scopesOf])) hrest hla hLf
        have hk := (List.getElem?_eq_some_iff.1 hout).1
        have hK2 := dispK_some la.outs 0 e2 (by omega) (by omega) ex ss (by simpa using hout) hlen
        refine ⟨ex, _, h2, hK2, ?_, fun ro hro β S w a ht hs r Q hq => wp_scope_of (RunS_of (hw ro hro β S w a ht hs r _ fun β1 S1 a1 w1 x1 => ?_))⟩
        · rw [length_scatter]; exact hn1
        · simp only [exOf, Exit.inScopeOf, hrest]
          refine hw2 ro hro β1 S1 w1 a1 (gather_rel x1.tmr _) (by have := x1.tms; unfold TmS at this; omega) x1.a0.rh Q fun β2 S2 a2 w2 x2 hv => ?_
          have hsz' : tm1.length ≤ a2.tmps.size := by rw [x2.size]; exact x1.tms
          obtain ⟨q1, q2⟩ := scatter_rel (n := tm1.length) hv hsz'
          exact hq β2 S2 a2 w2 (x1.trans ⟨x2, q1, q2⟩)
      · rename_i hf
        refine key _ hK fun ro Q a w q => ?_
        have : findLabel b l = none := by simpa using hf
        simp only [exOf, Exit.inScopeOf, this]
        exact q

end Go.Arm
namespace Go.Arm
variable {E : Env} {P : Program} {C : CF} {L : LF}

theorem findLoop_eq (r : Nat) : ∀ c : Code, findLoop r c = ((loopsOf c).find? fun p => p.1 == r).map (·.2) := by
  intro c
  induction c with
  | seq a b iha ihb => simp only [findLoop, loopsOf, iha, ihb, List.find?_append]; cases (loopsOf a).find? (fun p => p.1 == r) <;> simp
  | cond c a b iha ihb => simp only [findLoop, loopsOf, iha, ihb, List.find?_append]; cases (loopsOf a).find? (fun p => p.1 == r) <;> simp
  | block id b ih => simp only [findLoop, loopsOf, ih]
  | scope b ih => simp only [findLoop, loopsOf, ih]
  | rangeFunc g ps a b iha ihb => simp only [findLoop, loopsOf, iha, ihb, List.find?_append]; cases (loopsOf a).find? (fun p => p.1 == r) <;> simp
  | loop b ih =>
    simp only [findLoop, loopsOf, ih]
    cases hf : first b with
    | none => simp
    | some q =>
      by_cases hq : q = r
      · simp [hq]
      · have : (q == r) = false := by simp [hq]
        simp [hq, this]
  | _ => simp [findLoop, loopsOf]

theorem findScope_eq (l : Nat) : ∀ c : Code, findScope l c = (scopesOf c).find? fun b => (findLabel b l).isSome := by
  intro c
  induction c with
  | seq a b iha ihb => simp only [findScope, scopesOf, iha, ihb, List.find?_append]; cases (scopesOf a).find? (fun b => (findLabel b l).isSome) <;> simp
  | cond c a b iha ihb => simp only [findScope, scopesOf, iha, ihb, List.find?_append]; cases (scopesOf a).find? (fun b => (findLabel b l).isSome) <;> simp
  | block id b ih => simp only [findScope, scopesOf, ih]
  | loop b ih => simp only [findScope, scopesOf, ih]
  | rangeFunc g ps a b iha ihb => simp only [findScope, scopesOf, iha, ihb, List.find?_append]; cases (scopesOf a).find? (fun b => (findLabel b l).isSome) <;> simp
  | scope b ih =>
    simp only [findScope, scopesOf, ih, List.find?_cons]
    cases hf : (findLabel b l).isSome <;> simp
  | _ => simp [findScope, scopesOf]

/-- what stands in code stands in other code -/
def CSub (b c : Code) : Prop := (∀ p ∈ loopsOf b, p ∈ loopsOf c) ∧ (∀ s ∈ scopesOf b, s ∈ scopesOf c) ∧ (∀ q ∈ rangesOf b, q ∈ rangesOf c)
theorem CSub.refl (c : Code) : CSub c c := ⟨fun _ h => h, fun _ h => h, fun _ h => h⟩
theorem CSub.trans {a b c : Code} (h : CSub a b) (k : CSub b c) : CSub a c := ⟨fun p hp => k.1 p (h.1 p hp), fun p hp => k.2.1 p (h.2.1 p hp), fun p hp => k.2.2 p (h.2.2 p hp)⟩
theorem CSub.seq1 {a b : Code} : CSub a (.seq a b) := ⟨fun p hp => by simp [loopsOf, hp], fun p hp => by simp [scopesOf, hp], fun p hp => by simp [rangesOf, hp]⟩
theorem CSub.seq2 {a b : Code} : CSub b (.seq a b) := ⟨fun p hp => by simp [loopsOf, hp], fun p hp => by simp [scopesOf, hp], fun p hp => by simp [rangesOf, hp]⟩
theorem CSub.cond1 {c : Operand} {a b : Code} : CSub a (.cond c a b) := ⟨fun p hp => by simp [loopsOf, hp], fun p hp => by simp [scopesOf, hp], fun p hp => by simp [rangesOf, hp]⟩
theorem CSub.cond2 {c : Operand} {a b : Code} : CSub b (.cond c a b) := ⟨fun p hp => by simp [loopsOf, hp], fun p hp => by simp [scopesOf, hp], fun p hp => by simp [rangesOf, hp]⟩
theorem CSub.block {i : Nat} {b : Code} : CSub b (.block i b) := ⟨fun _ h => h, fun _ h => h, fun _ h => h⟩
theorem CSub.scope {b : Code} : CSub b (.scope b) := ⟨fun _ h => h, fun p hp => by simp [scopesOf, hp], fun _ h => h⟩
theorem CSub.loop {b : Code} : CSub b (.loop b) := ⟨fun p hp => by simp [loopsOf, hp], fun _ h => h, fun _ h => h⟩
theorem CSub.rng1 {g : Operand} {ps : Array Tmp} {a b : Code} : CSub a (.rangeFunc g ps a b) := ⟨fun p hp => by simp [loopsOf, hp], fun p hp => by simp [scopesOf, hp], fun p hp => by simp [rangesOf, hp]⟩
theorem CSub.rng2 {g : Operand} {ps : Array Tmp} {a b : Code} : CSub b (.rangeFunc g ps a b) := ⟨fun p hp => by simp [loopsOf, hp], fun p hp => by simp [scopesOf, hp], fun p hp => by simp [rangesOf, hp]⟩

theorem loops_sub : ∀ (c : Code) (r : Nat) (b : Code), (r, b) ∈ loopsOf c → CSub b c := by
  intro c
  induction c with
  | seq x y ihx ihy => intro r b hm; simp only [loopsOf, List.mem_append] at hm; exact hm.elim (fun h => (ihx r b h).trans .seq1) (fun h => (ihy r b h).trans .seq2)
  | cond c x y ihx ihy => intro r b hm; simp only [loopsOf, List.mem_append] at hm; exact hm.elim (fun h => (ihx r b h).trans .cond1) (fun h => (ihy r b h).trans .cond2)
  | rangeFunc g ps x y ihx ihy => intro r b hm; simp only [loopsOf, List.mem_append] at hm; exact hm.elim (fun h => (ihx r b h).trans .rng1) (fun h => (ihy r b h).trans .rng2)
  | block id x ih => intro r b hm; exact (ih r b hm).trans .block
  | scope x ih => intro r b hm; exact (ih r b hm).trans .scope
  | loop x ih =>
    intro r b hm
    simp only [loopsOf, List.mem_append] at hm
    rcases hm with hm | hm
    · cases hf : first x with
      | none => rw [hf] at hm; cases hm
      | some q =>
        rw [hf] at hm
        simp at hm
        rw [hm.2]
        exact .loop
    · exact (ih r b hm).trans .loop
  | _ => intro r b hm; simp [loopsOf] at hm
theorem scopes_sub : ∀ (c b : Code), b ∈ scopesOf c → CSub b c := by
  intro c
  induction c with
  | seq x y ihx ihy => intro b hm; simp only [scopesOf, List.mem_append] at hm; exact hm.elim (fun h => (ihx b h).trans .seq1) (fun h => (ihy b h).trans .seq2)
  | cond c x y ihx ihy => intro b hm; simp only [scopesOf, List.mem_append] at hm; exact hm.elim (fun h => (ihx b h).trans .cond1) (fun h => (ihy b h).trans .cond2)
  | rangeFunc g ps x y ihx ihy => intro b hm; simp only [scopesOf, List.mem_append] at hm; exact hm.elim (fun h => (ihx b h).trans .rng1) (fun h => (ihy b h).trans .rng2)
  | block id x ih => intro b hm; exact (ih b hm).trans .block
  | scope x ih =>
    intro b hm
    simp only [scopesOf, List.mem_cons] at hm
    rcases hm with rfl | hm
    · exact .scope
    · exact (ih b hm).trans .scope
  | loop x ih => intro b hm; exact (ih b hm).trans .loop
  | _ => intro b hm; simp [scopesOf] at hm
theorem ranges_sub : ∀ (c : Code) (r : Nat) (ps : Array Tmp) (x y : Code), findRange r c = some (ps, x, y) → CSub x c ∧ CSub y c := by
  have or2 : ∀ {a b : Option (Array Tmp × Code × Code)} {v}, (a.orElse fun _ => b) = some v → a = some v ∨ b = some v := by
    intro a b v h
    cases a with
    | none => exact .inr h
    | some _ => exact .inl h
  have both : ∀ {a c x y : Code}, CSub x a ∧ CSub y a → CSub a c → CSub x c ∧ CSub y c := fun h k => ⟨h.1.trans k, h.2.trans k⟩
  intro c
  induction c with
  | seq a b iha ihb => intro r ps x y h; exact (or2 h).elim (fun h => both (iha r ps x y h) .seq1) (fun h => both (ihb r ps x y h) .seq2)
  | cond q a b iha ihb => intro r ps x y h; exact (or2 h).elim (fun h => both (iha r ps x y h) .cond1) (fun h => both (ihb r ps x y h) .cond2)
  | block id b ih => intro r ps x y h; exact both (ih r ps x y h) .block
  | scope b ih => intro r ps x y h; exact both (ih r ps x y h) .scope
  | loop b ih => intro r ps x y h; exact both (ih r ps x y h) .loop
  | rangeFunc g qs a b iha ihb =>
    intro r ps x y h
    simp only [findRange] at h
    split at h
    · cases h; exact ⟨.rng1, .rng2⟩
    · exact (or2 h).elim (fun h => both (iha r ps x y h) .rng1) (fun h => both (ihb r ps x y h) .rng2)
  | _ => intro r ps x y h; simp [findRange] at h
theorem label_sub : ∀ (b : Code) (l : Nat) (rest : Code), findLabel b l = some rest → CSub rest b := by
  intro b
  induction b with
  | seq x y ihx ihy =>
    intro l rest h
    simp only [findLabel] at h
    cases hx : findLabel x l with
    | none =>
      rw [hx] at h
      exact (ihy l rest h).trans .seq2
    | some q =>
      rw [hx] at h
      cases h
      obtain ⟨h1, h2, h3⟩ := ihx l q hx
      refine ⟨fun p hp => ?_, fun p hp => ?_, fun p hp => ?_⟩
      · simp only [loopsOf, List.mem_append] at hp ⊢
        exact hp.imp (h1 p) id
      · simp only [scopesOf, List.mem_append] at hp ⊢
        exact hp.imp (h2 p) id
      · simp only [rangesOf, List.mem_append] at hp ⊢
        exact hp.imp (h3 p) id
  | label l' =>
    intro l rest h
    simp only [findLabel] at h
    split at h
    · cases h; exact ⟨fun p hp => by simp [loopsOf] at hp, fun p hp => by simp [scopesOf] at hp, fun p hp => by simp [rangesOf] at hp⟩
    · cases h
  | _ => intro l rest h; simp [findLabel] at h

theorem outOf_some {ex : Ex} {tm : List Value} {h : H} : ∀ (outs : List (Ex × List (Nat × Nat))) (i k : Nat) (vs : List Value) (h' : H), outOf ex tm h outs i = some (k, vs, h') →
    i ≤ k ∧ ∃ ss, outs[k - i]? = some (ex, ss) ∧ vs = gather ss tm ∧ h' = h
  | [], i, k, vs, h', e => by simp [outOf] at e
  | o :: os, i, k, vs, h', e => by
    simp only [outOf] at e
    split at e
    · rename_i ho
      cases e
      refine ⟨Nat.le_refl _, o.2, ?_, rfl, rfl⟩
      simp [← ho]
    · obtain ⟨h1, ss, h2, h3, h4⟩ := outOf_some os (i + 1) k vs h' e
      refine ⟨by omega, ss, ?_, h3, h4⟩
      rw [show k - i = (k - (i + 1)) + 1 by omega]
      simpa using h2

theorem canonL_any {R : Type} {res : R} : ∀ (ss : List (Nat × Nat)) (vs : List Value) (i : Nat) (acc : List Value) (J : List Value → Option R), canonL E ss vs i acc J = some res → J (acc.reverse ++ (List.range' i ss.length).map (lget vs)) = some res
  | [], vs, i, acc, J, e => by simpa [canonL] using e
  | s :: ss, vs, i, acc, J, e => by
    simp only [canonL] at e
    have e3 := canonL_any ss vs (i + 1) _ J (canon1_some e)
    simpa [List.range'_succ] using e3

theorem map_lget (vs : List Value) : ∀ (n i : Nat), i + n = vs.length → (List.range' i n).map (lget vs) = vs.drop i := by
  intro n
  induction n with
  | zero => intro i h; simp; omega
  | succ n ih =>
    intro i h
    rw [List.range'_succ, List.map_cons, ih (i + 1) (by omega), lget_drop vs i (by omega)]

/-- what is asked of a function's code -/
structure FnOK (c : Code) : Prop where
  loops : ∀ r b, (r, b) ∈ loopsOf c → r < lblKey ∧ findLoop r c = some b
  scopes : ∀ b l, b ∈ scopesOf c → (findLabel b l).isSome = true → findScope l c = some b
  ranges : ∀ r ps x y, (r, ps, x, y) ∈ rangesOf c → findRange r c = some (ps, x, y)

theorem gather_length (ss : List (Nat × Nat)) (tm : List Value) : (gather ss tm).length = ss.length := by simp [gather]

theorem noRange_label : ∀ (c : Code) (l : Nat) (rest : Code), findLabel c l = some rest → noRange c = true → noRange rest = true := by
  intro c
  induction c with
  | seq a b iha ihb =>
    intro l rest h hn
    simp only [noRange, Bool.and_eq_true] at hn
    simp only [findLabel] at h
    split at h
    · rename_i r hr
      cases h
      simp only [noRange, Bool.and_eq_true]
      exact ⟨iha l r hr hn.1, hn.2⟩
    · exact ihb l rest h hn.2
  | label k => intro l rest h hn; simp only [findLabel] at h; split at h <;> cases h; rfl
  | _ => intro l rest h; simp [findLabel] at h

theorem loops_step (hE : EnvOK P E) (hC : CallsOK P E C) (hD : DrawOK E P C L) {f : Nat} {fn : Func} {c : Code} (hb : fn.body = some c) (hfn : FnOK c) (hL : LoopsOK E P (annOf E f) L f c fn.ntmps) {L' : LF}
    (hL' : ∀ r args h, L' f r args h = lpN E C L f r fn args h) (hRg : E.fns.get f = some fn) (hRd : RoundsOK P E L') : LoopsOK E P (annOf E f) L' f c fn.ntmps := by
  -- what a round comes to
  have ends : ∀ (la : LoopAnn) (ex : Ex) (tm1 : List Value) (h1 : H) (k : Nat) (vs : List Value) (h' : H), outOf ex tm1 h1 la.outs 0 = some (k, vs, h') →
      ∃ ss, la.outs[k]? = some (ex, ss) ∧ ss.length = vs.length ∧ vs = gather ss tm1 ∧ h' = h1 := by
    intro la ex tm1 h1 k vs h' e
    obtain ⟨_, ss, h2, h3, h4⟩ := outOf_some _ _ _ _ _ e
    exact ⟨ss, by simpa using h2, by rw [h3, gather_length], h3, h4⟩
  refine ⟨fun r b la vals h k vs h' hm hla e => ?_, fun l b rest la vals h k vs h' hm hrest hla e => ?_, fun r ps x y hm => ⟨fn, c, hRg, hb, hfn.ranges r ps x y hm, rfl⟩, hRd⟩
  · obtain ⟨hr, hfl⟩ := hfn.loops r b hm
    rw [hL'] at e
    simp only [lpN, hb, hla, hr, if_true, hfl, Option.bind_some] at e
    unfold lpK at e
    have e := canonL_any _ _ _ _ _ e
    simp only [List.reverse_nil, List.nil_append] at e
    obtain ⟨hs1, hs2, hs3⟩ := loops_sub c r b hm
    obtain ⟨ex, tm1, h1, hK, hn1, hw⟩ := codeK_sound hE hC hD hL b _ h _ _ hs1 hs2 hs3 (length_scatter _ _ _) e
    have pre : ∀ (β : Beta) (a : Act), VL β vals (slotsOf a la.live) → fn.ntmps ≤ a.tmps.size → TmR β (scatter fn.ntmps la.live ((List.range' 0 la.live.length).map (lget vals))) a ∧ TmS (scatter fn.ntmps la.live ((List.range' 0 la.live.length).map (lget vals))) a := by
      intro β a hv hn
      have hlen : la.live.length = vals.length := by have := hv.1; simp [slotsOf] at this; exact this.symm
      rw [hlen, map_lget vals _ 0 (by omega), List.drop_zero]
      exact scatter_rel hv hn
    have fin : ∀ ex', ex = ex' → ex' ≠ .normal → outOf ex' tm1 h1 la.outs 0 = some (k, vs, h') → ∃ ex ss, la.outs[k]? = some (ex, ss) ∧ ss.length = vs.length ∧ LoopW E b (fun ro => RunL ro P b) la.live vals h ex ss vs h' fn.ntmps := by
      intro ex' he hne ho
      subst he
      obtain ⟨ss, q1, q2, rfl, rfl⟩ := ends la _ tm1 h1 k vs h' ho
      refine ⟨ex, ss, q1, q2, fun ro hro β S w a hv hn r Q hq => RunL_of ?_⟩
      obtain ⟨p1, p2⟩ := pre β a hv hn
      refine hw ro hro β S w a p1 p2 r _ fun β' S' a' w' x => ?_
      have := hq β' S' a' w' x.a0 (gather_rel x.tmr _)
      cases ex with
      | normal => exact absurd rfl hne
      | exit i => exact this
      | goto l => exact this
      | ret => exact this
    cases ex with
    | exit i => exact fin _ rfl (by simp) hK
    | goto l => exact fin _ rfl (by simp) hK
    | ret => exact fin _ rfl (by simp) hK
    | normal =>
      simp only at hK
      obtain ⟨ex2, ss, q1, q2, hlw⟩ := hL.loops r b la _ h1 k vs h' hm hla hK
      refine ⟨ex2, ss, q1, q2, fun ro hro β S w a hv hn r Q hq => RunL_of ?_⟩
      obtain ⟨p1, p2⟩ := pre β a hv hn
      refine hw ro hro β S w a p1 p2 r _ fun β1 S1 a1 w1 x => ?_
      show RunL ro P b Q a1 w1
      exact hlw ro hro β1 S1 w1 a1 (gather_rel x.tmr _) (by rw [x.a0.size]; exact hn) x.a0.rh Q fun β2 S2 a2 w2 y hv2 => hq β2 S2 a2 w2 (x.a0.trans y) hv2
  · have hsc := hfn.scopes b l hm (by rw [hrest]; rfl)
    rw [hL'] at e
    have hlt : ¬ lblKey + l < lblKey := by omega
    have hsub : lblKey + l - lblKey = l := by omega
    simp only [lpN, hb, hla, hlt, if_false, hsub, hsc, hrest, Option.bind_some] at e
    unfold lbK at e
    have e := canonL_any _ _ _ _ _ e
    simp only [List.reverse_nil, List.nil_append] at e
    obtain ⟨hs1, hs2, hs3⟩ := (label_sub b l rest hrest).trans (scopes_sub c b hm)
    obtain ⟨ex, tm1, h1, hK, hn1, hw⟩ := codeK_sound hE hC hD hL rest _ h _ _ hs1 hs2 hs3 (length_scatter _ _ _) e
    have pre : ∀ (β : Beta) (a : Act), VL β vals (slotsOf a la.live) → fn.ntmps ≤ a.tmps.size → TmR β (scatter fn.ntmps la.live ((List.range' 0 la.live.length).map (lget vals))) a ∧ TmS (scatter fn.ntmps la.live ((List.range' 0 la.live.length).map (lget vals))) a := by
      intro β a hv hn
      have hlen : la.live.length = vals.length := by have := hv.1; simp [slotsOf] at this; exact this.symm
      rw [hlen, map_lget vals _ 0 (by omega), List.drop_zero]
      exact scatter_rel hv hn
    have fin : ∀ ex', ex = ex' → (∀ l', ex' = .goto l' → findLabel b l' = none) → outOf ex' tm1 h1 la.outs 0 = some (k, vs, h') → ∃ ex ss, la.outs[k]? = some (ex, ss) ∧ ss.length = vs.length ∧ LoopW E b (fun ro => RunS ro P b rest) la.live vals h ex ss vs h' fn.ntmps := by
      intro ex' he hne ho
      subst he
      obtain ⟨ss, q1, q2, rfl, rfl⟩ := ends la _ tm1 h1 k vs h' ho
      refine ⟨ex, ss, q1, q2, fun ro hro β S w a hv hn r Q hq => RunS_of ?_⟩
      obtain ⟨p1, p2⟩ := pre β a hv hn
      refine hw ro (hro.imp id (noRange_label b l rest hrest)) β S w a p1 p2 r _ fun β' S' a' w' x => ?_
      have := hq β' S' a' w' x.a0 (gather_rel x.tmr _)
      cases ex with
      | normal => exact this
      | exit i => exact this
      | goto l' =>
        simp only [exOf, Exit.inScopeOf, hne l' rfl]
        exact this
      | ret => exact this
    cases ex with
    | exit i => exact fin _ rfl (fun _ h => by cases h) hK
    | normal => exact fin _ rfl (fun _ h => by cases h) hK
    | ret => exact fin _ rfl (fun _ h => by cases h) hK
    | goto l' =>
      simp only at hK
      split at hK
      · rename_i hf
        obtain ⟨rest2, hrest2⟩ := Option.isSome_iff_exists.1 hf
        split at hK
        case h_2 => cases hK
        rename_i lb hlb
        split at hK
        case isFalse => cases hK
        rename_i houts
        obtain ⟨ex2, ss, q1, q2, hlw⟩ := hL.labels l' b rest2 lb _ h1 k vs h' hm hrest2 hlb hK
        rw [houts] at q1
        refine ⟨ex2, ss, q1, q2, fun ro hro β S w a hv hn r Q hq => RunS_of ?_⟩
        obtain ⟨p1, p2⟩ := pre β a hv hn
        refine hw ro (hro.imp id (noRange_label b l rest hrest)) β S w a p1 p2 r _ fun β1 S1 a1 w1 x => ?_
        simp only [exOf, Exit.inScopeOf, hrest2]
        exact hlw ro hro β1 S1 w1 a1 (gather_rel x.tmr _) (by rw [x.a0.size]; exact hn) x.a0.rh Q fun β2 S2 a2 w2 y hv2 => hq β2 S2 a2 w2 (x.a0.trans y) hv2
      · rename_i hf
        exact fin _ rfl (fun l2 h2 => by cases h2; simpa using hf) hK

/-! ## functions -/
theorem srcL_any {R : Type} {res : R} : ∀ (ts : List (Option Nat)) (vs : List Value) (i : Nat) (acc : List Value) (J : List Value → Option R), srcL E ts vs i acc J = some res → J (acc.reverse ++ (List.range' i ts.length).map (lget vs)) = some res
  | [], vs, i, acc, J, e => by simpa [srcL] using e
  | some t :: ts, vs, i, acc, J, e => by
    simp only [srcL] at e
    have e3 := srcL_any ts vs (i + 1) _ J (src1_some e)
    simpa [List.range'_succ] using e3
  | none :: ts, vs, i, acc, J, e => by
    simp only [srcL] at e
    have e3 := srcL_any ts vs (i + 1) _ J e
    simpa [List.range'_succ] using e3

theorem lget_append (a b : List Value) (i : Nat) : lget (a ++ b) i = if i < a.length then lget a i else lget b (i - a.length) := by
  induction a generalizing i with
  | nil => simp
  | cons v a ih =>
    cases i with
    | zero => simp [lget]
    | succ i => simp only [List.cons_append, lget, ih, List.length_cons]; simp

theorem lget_getElem (a : List Value) (i : Nat) : lget a i = (a[i]?).getD junk := by
  induction a generalizing i with
  | nil => simp [lget]
  | cons v a ih => cases i <;> simp [lget, ih]

theorem enter_rel {β : Beta} {args args' : List Value} {n m : Nat} (hv : VL β args args') :
    TmR β ((List.range' 0 n).map (lget args) ++ List.replicate (m - n) junk) { tmps := (⟨args'⟩ : Array Value) ++ Array.replicate (m - (⟨args'⟩ : Array Value).size) undef, defers := [] } := by
  intro i
  have hl := hv.1
  rw [lget_append]
  simp only [List.length_map, List.length_range']
  split
  · rename_i hi
    rw [lget_getElem]
    simp only [List.getElem?_map]
    rw [List.getElem?_range' (by simpa using hi)]
    simp only [Option.map_some, Option.getD_some, Nat.zero_add, Nat.one_mul]
    by_cases h1 : i < args.length
    · have h2 : i < args'.length := by omega
      rw [lget_getElem, List.getElem?_eq_getElem h1]
      have : ((⟨args'⟩ : Array Value) ++ Array.replicate (m - (⟨args'⟩ : Array Value).size) undef).getD i undef = args'[i] := by
        rw [Array.getD_eq_getD_getElem?, Array.getElem?_append_left (by simpa using h2)]
        simp [h2]
      simp only [Option.getD_some]
      rw [this]
      exact hv.2 i _ _ (List.getElem?_eq_getElem h1) (List.getElem?_eq_getElem h2)
    · rw [lget_ge args i (by omega)]
      exact .junk _
  · rw [lget_junks]
    exact .junk _

def resG (tmps : Array Value) : ResultVar → Sem Value
  | .tmp t => pure (tmps.getD t undef)
  | .cell a t => do loadVar t (← asAddr (tmps.getD a undef))

theorem resV_run (hE : EnvOK P E) {tm : List Value} {h : H} {rv : ResultVar} {v : Value} (e : resV E tm h rv = some v) {β : Beta} {S : Sc} {w : World} {a : Act} (ht : TmR β tm a) (r : RH E β h S w) :
    ∃ v', VR β v v' ∧ (resG a.tmps rv).run P w = .ok v' w := by
  cases rv with
  | tmp t => simp only [resV] at e; cases e; exact ⟨_, ht t, by simp [resG]⟩
  | cell p t =>
    simp only [resV] at e
    obtain ⟨⟨b, q⟩, hp, e⟩ := Option.bind_eq_some_iff.1 e
    have hx := ht p
    rw [asP_some hp] at hx
    obtain ⟨y, hy, hpe⟩ := hx.ptr_inv
    split at e
    case h_2 => cases e
    rename_i i hi
    have hok := hE.tys t i hi
    have one1 : aggT i.ty = false → ∀ v, cellAt h b q = some v → ∃ v', VR β v v' ∧ (resG a.tmps (.cell p t)).run P w = .ok v' w := by
      intro ha v hv
      obtain ⟨v', hc, hvr⟩ := r.cellAt hv hy
      exact ⟨v', hvr, by simp [resG, hpe, asAddr, run_loadVar_one hok ha hc]⟩
    have agg1 : aggT i.ty = true → ∀ l, cellsAt h b q i.size = some l → ∃ v', VR β (.agg ⟨l⟩) v' ∧ (resG a.tmps (.cell p t)).run P w = .ok v' w := by
      intro ha l hv
      obtain ⟨_, l', hl', hvl, hc⟩ := r.cellsAt hv hy
      exact ⟨.agg ⟨l'⟩, hvl.agg, by simp [resG, hpe, asAddr, run_loadVar_agg hok ha hl' hc]⟩
    have lv : ldV h b q = some v → cellAt h b q = some v := by
      intro hv
      unfold ldV at hv
      obtain ⟨u, hu, hv⟩ := Option.bind_eq_some_iff.1 hv
      split at hv
      · cases hv; exact hu
      · cases hv
    cases hty : i.ty with
    | int k =>
      simp only [hty] at e
      obtain ⟨n, hn, rfl⟩ := Option.map_eq_some_iff.1 e
      obtain ⟨u, hu, hn⟩ := Option.bind_eq_some_iff.1 hn
      rw [asI_some hn] at hu
      exact one1 (by simp [hty, aggT]) _ hu
    | bool =>
      simp only [hty] at e
      obtain ⟨n, hn, rfl⟩ := Option.map_eq_some_iff.1 e
      obtain ⟨u, hu, hn⟩ := Option.bind_eq_some_iff.1 hn
      rw [asB_some hn] at hu
      exact one1 (by simp [hty, aggT]) _ hu
    | string =>
      simp only [hty] at e
      obtain ⟨n, hn, rfl⟩ := Option.map_eq_some_iff.1 e
      obtain ⟨u, hu, hn⟩ := Option.bind_eq_some_iff.1 hn
      rw [asS_some hn] at hu
      exact one1 (by simp [hty, aggT]) _ hu
    | struct fs =>
      simp only [hty] at e
      unfold ldA at e
      obtain ⟨l, hl, rfl⟩ := Option.map_eq_some_iff.1 e
      exact agg1 (by simp [hty, aggT]) l hl
    | array n t2 =>
      simp only [hty] at e
      unfold ldA at e
      obtain ⟨l, hl, rfl⟩ := Option.map_eq_some_iff.1 e
      exact agg1 (by simp [hty, aggT]) l hl
    | _ => simp only [hty] at e; exact one1 (by simp [hty, aggT]) _ (lv e)

theorem resK_run (hE : EnvOK P E) {fn : Func} {tm : List Value} {h h' : H} {v : Value} (e : resK E fn tm h = some (v, h')) {β : Beta} {S : Sc} {w : World} {a : Act} (ht : TmR β tm a) (r : RH E β h S w) :
    h' = h ∧ ∃ v', VR β v v' ∧ (results fn a.tmps).run P w = .ok v' w := by
  unfold resK at e
  have hrun : ∀ (l : List ResultVar) (us : List Value), fn.results.toList = l → (l.mapM (resG a.tmps)).run P w = .ok us w → (results fn a.tmps).run P w = .ok (if us.length = 1 then us.headD undef else .tuple ⟨us⟩) w := by
    intro l us hl hm
    have : results fn a.tmps = (do let vs ← fn.results.mapM (resG a.tmps); pure (if h : vs.size = 1 then vs[0] else .tuple vs)) := rfl
    rw [this, Array.mapM_eq_mapM_toList, hl]
    simp only [Sem.run_bind, Sem.run_map, hm, Result.andThen_ok, Sem.run_pure]
    by_cases h1 : us.length = 1
    · match us, h1 with
      | [u], _ => simp
    · simp [h1]
  split at e
  · rename_i hl
    cases e
    exact ⟨rfl, .tuple #[], .junk _, by simpa using hrun [] [] hl (by simp)⟩
  · rename_i x hl
    obtain ⟨v1, h1, e⟩ := Option.bind_eq_some_iff.1 e
    cases e
    obtain ⟨u1, q1, q2⟩ := resV_run hE h1 ht r
    exact ⟨rfl, u1, q1, by simpa using hrun [x] [u1] hl (by simp [List.mapM_cons, q2])⟩
  · rename_i x y hl
    obtain ⟨v1, h1, e⟩ := Option.bind_eq_some_iff.1 e
    obtain ⟨v2, h2, e⟩ := Option.bind_eq_some_iff.1 e
    cases e
    obtain ⟨u1, q1, q2⟩ := resV_run hE h1 ht r
    obtain ⟨u2, q3, q4⟩ := resV_run hE h2 ht r
    refine ⟨rfl, .tuple #[u1, u2], ?_, by simpa using hrun [x, y] [u1, u2] hl (by simp [List.mapM_cons, q2, q4])⟩
    refine .tuple _ _ rfl fun j c c' h3 h4 => ?_
    rcases j with _ | _ | j
    · simp at h3 h4; subst h3 h4; exact q1
    · simp at h3 h4; subst h3 h4; exact q3
    · simp at h3
  · rename_i x y z hl
    obtain ⟨v1, h1, e⟩ := Option.bind_eq_some_iff.1 e
    obtain ⟨v2, h2, e⟩ := Option.bind_eq_some_iff.1 e
    obtain ⟨v3, h3, e⟩ := Option.bind_eq_some_iff.1 e
    cases e
    obtain ⟨u1, q1, q2⟩ := resV_run hE h1 ht r
    obtain ⟨u2, q3, q4⟩ := resV_run hE h2 ht r
    obtain ⟨u3, q5, q6⟩ := resV_run hE h3 ht r
    refine ⟨rfl, .tuple #[u1, u2, u3], ?_, by simpa using hrun [x, y, z] [u1, u2, u3] hl (by simp [List.mapM_cons, q2, q4, q6])⟩
    refine .tuple _ _ rfl fun j c c' h3 h4 => ?_
    rcases j with _ | _ | _ | j
    · simp at h3 h4; subst h3 h4; exact q1
    · simp at h3 h4; subst h3 h4; exact q3
    · simp at h3 h4; subst h3 h4; exact q5
    · simp at h3
  · cases e

end Go.Arm
