/- The operations, further: arithmetic, comparisons, conversions, parts of aggregates.
   Equality by type; the binary operations; conversions; indexing.
   The binary operations; conversions; indexing.
   Conversions, slices, new slices.
   Slices.
   New slices, append, copy.
   append and copy.
   append and copy, whole.
   copy, and the other calls of the language's own functions.
   Maps.
   Maps: the operations. -/
import Derived.Test.YtcambejnmifhmaaGreatDoorArm1
import Derived.Laws.StructEq
import Derived.ChangeKeysEq
import Derived.Laws.BytesString
import Derived.Laws.IdiomStrings
import Derived.Laws.MakeOwn
import Derived.MapKept
import Derived.Lib.SlicesS
namespace Go.Arm
variable {R : Type} {E : Env} {P : Program} {C : CF} {L : LF} {o : Oper} {tm : List Value} {h : H} {K : Value → H → Option R} {res : R}

theorem asI_some {k : IntKind} {v : Value} {n : Int} (e : asI k v = some n) : v = .int k n := by
  unfold asI at e
  split at e
  · split at e
    · rename_i hk; cases e; rw [hk]
    · cases e
  · cases e
theorem asB_some {v : Value} {b : Bool} (e : asB v = some b) : v = .bool b := by
  unfold asB at e; split at e
  · cases e; rfl
  · cases e
theorem asS_some {v : Value} {b : ByteArray} (e : asS v = some b) : v = .string b := by
  unfold asS at e; split at e
  · cases e; rfl
  · cases e

theorem src1_some {t : Nat} {v : Value} {J : Value → Option R} (e : src1 E t v J = some res) : J v = some res := by
  unfold src1 at e
  split at e
  · split at e
    · obtain ⟨n, hn, e⟩ := Option.bind_eq_some_iff.1 e
      rw [asI_some hn]; exact e
    · obtain ⟨n, hn, e⟩ := Option.bind_eq_some_iff.1 e
      rw [asB_some hn]; exact e
    · obtain ⟨n, hn, e⟩ := Option.bind_eq_some_iff.1 e
      rw [asS_some hn]; exact e
    · exact e
  · cases e

/-! ### whole numbers -/
theorem run_binI {op : BinOp} {k k2 : IntKind} {a b : Int} {t : Nat} {J : Value → Option R} (hk : binI op k a b J = some res) (hs : isShift op = true ∨ k2 = k) :
    ∃ v, J v = some res ∧ lit v = true ∧ ∀ w, (Go.binOp op t (.int k a) (.int k2 b)).run P w = .ok v w := by
  cases op
  case shl =>
    simp only [binI] at hk
    cases hd : decide (b < 0) with
    | true => simp [hd] at hk
    | false =>
      simp only [hd, cond_false] at hk
      refine ⟨_, hk, rfl, fun w => ?_⟩
      have : ¬ b < 0 := by simpa using hd
      simp [Go.binOp, Op.shift, this, ishl]
  case shr =>
    simp only [binI] at hk
    cases hd : decide (b < 0) with
    | true => simp [hd] at hk
    | false =>
      simp only [hd, cond_false] at hk
      refine ⟨_, hk, rfl, fun w => ?_⟩
      have : ¬ b < 0 := by simpa using hd
      simp [Go.binOp, Op.shift, this, ishr]
  case quo =>
    rcases hs with hs | rfl
    · simp [isShift] at hs
    simp only [binI] at hk
    cases hd : decide (b = 0) with
    | true => simp [hd] at hk
    | false =>
      simp only [hd, cond_false] at hk
      refine ⟨_, hk, rfl, fun w => ?_⟩
      have : ¬ b = 0 := by simpa using hd
      simp [Go.binOp, Op.intDiv, this]
  case rem =>
    rcases hs with hs | rfl
    · simp [isShift] at hs
    simp only [binI] at hk
    cases hd : decide (b = 0) with
    | true => simp [hd] at hk
    | false =>
      simp only [hd, cond_false] at hk
      refine ⟨_, hk, rfl, fun w => ?_⟩
      have : ¬ b = 0 := by simpa using hd
      simp [Go.binOp, Op.intDiv, this]
  all_goals
    rcases hs with hs | rfl
    · simp [isShift] at hs
    simp only [binI] at hk
    refine ⟨_, hk, rfl, fun w => ?_⟩
    simp [Go.binOp, Op.intArith, Op.intBits, Op.intCmp, iand, ior, ixor, iandn]

theorem run_eqGuard_lit (op : BinOp) (t : Nat) (x y : Operand) {a b : Value} (ha : lit a = true) (w : World) : (eqGuard op t x y a b).run P w = .ok () w := by
  unfold eqGuard
  cases a <;> first | (simp [lit] at ha; done) | (cases op <;> simp)

theorem sim_bin_lit {op : BinOp} {xt yt : Nat} {x y : Operand} (ho : o.op = .binOp op xt x y yt) {v : Value} (hv : lit v = true) (hx : lit (opv E tm x) = true) (hy : lit (opv E tm y) = true)
    (hrun : ∀ w, (Go.binOp op xt (opv E tm x) (opv E tm y)).run P w = .ok v w) : Sim E P o tm h v h := fun β S w a ht r => by
  have h1 := (opv_rel r ht x).lit_inv hx
  have h2 := (opv_rel r ht y).lit_inv hy
  refine Res.same r (v' := v) ?_ (.clit v hv)
  simp only [execOp, ho, h1, h2, Sem.run_bind, run_eqGuard_lit op xt x y hx, Result.andThen_ok, hrun, Sem.run_pure]

theorem pure?_some {α : Type} {s : Sem α} {x : α} (e : pure? s = some x) (w : World) : s.run P w = .ok x w := by
  cases s <;> simp [pure?] at e
  subst e; rfl

theorem fop_some {op : BinOp} {x y v : Value} (e : fop op x y = some v) : lit v = true ∧ lit x = true ∧ lit y = true ∧ ∀ t w, (Go.binOp op t x y).run P w = .ok v w := by
  unfold fop at e
  split at e
  · rename_i k1 b1 k2 b2
    obtain ⟨u, hu, e⟩ := Option.bind_eq_some_iff.1 e
    split at e
    · rename_i hl; cases e
      refine ⟨hl, rfl, rfl, fun t w => ?_⟩
      have := pure?_some (P := P) hu w
      cases op <;> exact this
    · cases e
  · rename_i k1 a1 b1 k2 a2 b2
    obtain ⟨u, hu, e⟩ := Option.bind_eq_some_iff.1 e
    split at e
    · rename_i hl; cases e
      refine ⟨hl, rfl, rfl, fun t w => ?_⟩
      have := pure?_some (P := P) hu w
      cases op <;> exact this
    · cases e
  · cases e

theorem sim_unOp {op : UnOp} {t : Nat} {x : Operand} (ho : o.op = .unOp op t x) (hk : stepK E C L o tm h K = some res) : ∃ v h', K v h' = some res ∧ Sim E P o tm h v h' := by
  simp only [stepK, ho] at hk
  have base : ∀ v, lit v = true → lit (opv E tm x) = true → (∀ w, (Op.unary op (opv E tm x)).run P w = .ok v w) → Sim E P o tm h v h := by
    intro v hv hx hrun β S w a ht r
    have h1 := (opv_rel r ht x).lit_inv hx
    refine Res.same r (v' := v) ?_ (.clit v hv)
    simp only [execOp, ho, h1, Sem.run_bind, Result.andThen_ok, hrun, Sem.run_pure]
  unfold unK at hk
  split at hk
  · cases hk
  · rename_i i hi
    split at hk
    · rename_i k k1 n hty hop hx
      split at hk
      · rename_i hkk; subst hkk
        exact ⟨_, _, hk, base _ rfl (by rw [hx]; rfl) (fun w => by rw [hx]; simp [Op.unary, Op.intArith])⟩
      · cases hk
    · rename_i k k1 n hty hop hx
      split at hk
      · rename_i hkk; subst hkk
        exact ⟨_, _, hk, base _ rfl (by rw [hx]; rfl) (fun w => by rw [hx]; simp [Op.unary, Op.intBits, inot, ixor])⟩
      · cases hk
    · rename_i b hty hop hx
      exact ⟨_, _, hk, base _ rfl (by rw [hx]; rfl) (fun w => by rw [hx]; simp [Op.unary])⟩
    · rename_i v hty hop hx
      obtain ⟨u, hu, hk⟩ := Option.bind_eq_some_iff.1 hk
      unfold fneg at hu
      split at hu
      · rename_i hx'
        obtain ⟨z, hz, hu⟩ := Option.bind_eq_some_iff.1 hu
        split at hu
        · rename_i hl; cases hu
          exact ⟨_, _, hk, base _ hl (by rw [hx']; rfl) (fun w => pure?_some hz w)⟩
        · cases hu
      · rename_i hx'
        obtain ⟨z, hz, hu⟩ := Option.bind_eq_some_iff.1 hu
        split at hu
        · rename_i hl; cases hu
          exact ⟨_, _, hk, base _ hl (by rw [hx']; rfl) (fun w => pure?_some hz w)⟩
        · cases hu
      · cases hu
    · rename_i v hty hop hx
      obtain ⟨u, hu, hk⟩ := Option.bind_eq_some_iff.1 hk
      unfold fneg at hu
      split at hu
      · rename_i hx'
        obtain ⟨z, hz, hu⟩ := Option.bind_eq_some_iff.1 hu
        split at hu
        · rename_i hl; cases hu
          exact ⟨_, _, hk, base _ hl (by rw [hx']; rfl) (fun w => pure?_some hz w)⟩
        · cases hu
      · rename_i hx'
        obtain ⟨z, hz, hu⟩ := Option.bind_eq_some_iff.1 hu
        split at hu
        · rename_i hl; cases hu
          exact ⟨_, _, hk, base _ hl (by rw [hx']; rfl) (fun w => pure?_some hz w)⟩
        · cases hu
      · cases hu
    · cases hk

/-! ### parts of aggregates -/
theorem run_part {t : Nat} {i : TI} (hok : TyOK P t i) {off : Nat} {β : Beta} {cs cs' : Array Value} (hv : VL β cs.toList cs'.toList) {u : Value}
    (e : partV (aggT i.ty) off i.size (.agg cs) = some u) : ∃ u', VR β u u' ∧ ∀ w, (part t cs' off).run P w = .ok u' w := by
  obtain ⟨f, hf, hs, _⟩ := hok.inf
  simp only [partV] at e
  cases ha : aggT i.ty with
  | true =>
    simp only [ha, if_true] at e
    split at e
    · rename_i hle
      cases e
      refine ⟨.agg ⟨(cs'.toList.drop off).take i.size⟩, ((hv.drop off).take i.size).agg, fun w => ?_⟩
      simp only [part, Sem.run_bind, run_isAgg hok, ha, Result.andThen_ok, if_true, runI hf, Sem.run_pure]
      congr 2
      apply Array.ext'
      simp [hs]
    · cases e
  | false =>
    simp only [ha, Bool.false_eq_true, if_false] at e
    have hlt : off < cs'.toList.length := by rw [← hv.1]; exact (List.getElem?_eq_some_iff.1 e).1
    refine ⟨cs'.toList[off], hv.2 off u _ e (List.getElem?_eq_getElem hlt), fun w => ?_⟩
    have hg : cs'[off]? = some cs'.toList[off] := by simp
    simp only [part, Sem.run_bind, run_isAgg hok, ha, Result.andThen_ok, Bool.false_eq_true, if_false, hg, Sem.run_pure]

theorem aggT_eq (t : Ty) : (match t with | .struct _ | .array .. => true | _ => false) = aggT t := by cases t <;> rfl

theorem partV_agg {b : Bool} {off size : Nat} {v u : Value} (e : partV b off size v = some u) : ∃ cs, v = .agg cs := by
  unfold partV at e
  split at e
  · exact ⟨_, rfl⟩
  · cases e

theorem sim_field (hE : EnvOK P E) {t f : Nat} {x : Operand} (ho : o.op = .field t x f) (hk : stepK E C L o tm h K = some res) : ∃ v h', K v h' = some res ∧ Sim E P o tm h v h' := by
  simp only [stepK, ho] at hk
  split at hk
  · rename_i i sz by_ ze fs hi
    split at hk
    · rename_i off ft hfs
      split at hk
      · rename_i j hj
        obtain ⟨u, hu, hk⟩ := Option.bind_eq_some_iff.1 hk
        refine ⟨_, _, src1_some hk, fun β S w a ht r => ?_⟩
        obtain ⟨fl, hud, hfl⟩ := (hE.tys t _ hi).und
        have hfg : ∃ fd : Field, fl[f]? = some fd ∧ fd.offset = off ∧ fd.type = ft := by
          rw [← hfl, List.getElem?_map] at hfs
          obtain ⟨fd, h1, h2⟩ := Option.map_eq_some_iff.1 hfs
          cases h2
          exact ⟨fd, by simpa using h1, rfl, rfl⟩
        obtain ⟨fd, hfd, rfl, rfl⟩ := hfg
        have hx := opv_rel r ht x
        obtain ⟨cs, hcs⟩ := partV_agg hu
        rw [hcs] at hx hu
        obtain ⟨cs', hce, hvl⟩ := hx.agg_inv
        obtain ⟨u', hur, hrun⟩ := run_part (hE.tys fd.type j hj) hvl (by rw [← aggT_eq]; exact hu)
        refine Res.same r (v' := u') ?_ hur
        simp only [execOp, ho, Instr.field, Sem.run_bind, run_underlying hud, Result.andThen_ok, hfd, hce, asAgg, Sem.run_pure, hrun]
      · cases hk
    · cases hk
  · cases hk

end Go.Arm
namespace Go.Arm
variable {R : Type} {E : Env} {P : Program} {C : CF} {L : LF} {o : Oper} {tm : List Value} {h : H} {K : Value → H → Option R} {res : R}

theorem isAggT_eq (t : Ty) : isAggT t = aggT t := by cases t <;> rfl

theorem run_partT (hE : EnvOK P E) {t off : Nat} {β : Beta} {cs cs' : Array Value} (hv : VL β cs.toList cs'.toList) {u : Value} (e : partT E t off (.agg cs) = some u) :
    ∃ u', VR β u u' ∧ ∀ w, (part t cs' off).run P w = .ok u' w := by
  unfold partT at e
  split at e
  · rename_i i hi
    rw [isAggT_eq] at e
    exact run_part (hE.tys t i hi) hv e
  · cases e

theorem foldr_and {α : Type} {g : α → Option Bool} {x : α} {l : List α} {b : Bool} (e : (x :: l).foldr (fun p acc => (g p).bind fun b => acc.map fun c => b && c) (some true) = some b) :
    ∃ b1 b2, g x = some b1 ∧ l.foldr (fun p acc => (g p).bind fun b => acc.map fun c => b && c) (some true) = some b2 ∧ b = (b1 && b2) := by
  simp only [List.foldr_cons] at e
  obtain ⟨b1, h1, e⟩ := Option.bind_eq_some_iff.1 e
  obtain ⟨b2, h2, e⟩ := Option.map_eq_some_iff.1 e
  exact ⟨b1, b2, h1, h2, e.symm⟩

theorem eqT_run (hE : EnvOK P E) : ∀ (f t : Nat) (x y : Value) (b : Bool), eqT E f t x y = some b → ∀ (β : Beta) (x' y' : Value), VR β x x' → VR β y y' → ∀ d, f ≤ d → ∀ w, (Op.equalIn d t x' y').run P w = .ok b w := by
  intro f
  induction f with
  | zero => intro t x y b e; simp [eqT] at e
  | succ f ih =>
    intro t x y b e β x' y' hx hy d hd w
    obtain ⟨d, rfl⟩ : ∃ d', d = d' + 1 := ⟨d - 1, by omega⟩
    simp only [eqT] at e
    split at e
    case h_2 => cases e
    rename_i i hi
    have hok := hE.tys t i hi
    have hu := hok.und
    split at e
    · rename_i a c hty
      rw [hty] at hu
      rw [hx.bool_inv, hy.bool_inv]
      cases e
      exact run_equalIn_bool' w d t a c hu
    · rename_i k0 k a k' c hty
      rw [hty] at hu
      rw [hx.int_inv, hy.int_inv]
      split at e
      · rename_i hk; subst hk; cases e
        exact run_equalIn_int w d t k k0 a c hu
      · cases e
    · rename_i k a k' c hty
      rw [hty] at hu
      rw [hx.lit_inv rfl, hy.lit_inv rfl]
      split at e
      · rename_i hk; subst hk; cases e
        simp [Op.equalIn, run_underlying (show P.underlying t = some (.float .f64) from hu), feq]
      · cases e
    · rename_i k a a2 k' c c2 hty
      rw [hty] at hu
      rw [hx.lit_inv rfl, hy.lit_inv rfl]
      split at e
      · rename_i hk; subst hk; cases e
        simp [Op.equalIn, run_underlying (show P.underlying t = some (.complex .f64) from hu), feq]
      · cases e
    · rename_i a c hty
      rw [hty] at hu
      rw [hx.str_inv, hy.str_inv]
      cases e
      exact run_equalIn_string w d t a c hu
    · rename_i fs xs ys hty
      rw [hty] at hu
      obtain ⟨fl, hfu, hfl⟩ := hu
      split at e
      case isFalse => cases e
      rename_i heq
      obtain ⟨hst, _, hnm⟩ := hok.eq heq (by rw [hty]; rfl)
      obtain ⟨xs', rfl, hxv⟩ := hx.agg_inv
      obtain ⟨ys', rfl, hyv⟩ := hy.agg_inv
      have hfo : P.fieldsOf t = fl := by simp [Program.fieldsOf, hfu]
      rw [run_equalIn_struct w d t xs' ys' (by rw [hfo]; exact hfu) hst, hfo]
      have hnm' : ∀ g ∈ fl.toList, g.name ≠ "_" := hnm fl hfu
      subst hfl
      generalize fl.toList = gs at e hnm'
      clear hnm
      induction gs generalizing b with
      | nil => simp at e; subst e; simp [Op.eqFields]
      | cons g gs ihg =>
        obtain ⟨b1, b2, h1, h2, rfl⟩ := foldr_and (g := fun (p : Nat × Nat) => ((partT E p.2 p.1 (.agg xs)).bind fun u => (partT E p.2 p.1 (.agg ys)).bind fun v => eqT E f p.2 u v)) e
        obtain ⟨u, hu1, h1⟩ := Option.bind_eq_some_iff.1 h1
        obtain ⟨v, hv1, h1⟩ := Option.bind_eq_some_iff.1 h1
        obtain ⟨u', hur, hup⟩ := run_partT hE hxv hu1
        obtain ⟨v', hvr, hvp⟩ := run_partT hE hyv hv1
        have hq := ih _ u v b1 h1 β u' v' hur hvr d (by omega) w
        have hrest := ihg b2 h2 (fun g hg => hnm' g (List.mem_cons_of_mem _ hg))
        have hng := hnm' g List.mem_cons_self
        simp only [Op.eqFields, hng, ne_eq, not_false_eq_true, if_true, Sem.run_bind, hup, hvp, hq, Result.andThen_ok]
        cases b1
        · simp
        · simpa using hrest
    · rename_i n et xs ys hty
      rw [hty] at hu
      split at e
      case isFalse => cases e
      split at e
      case h_2 => cases e
      rename_i heq j hj
      obtain ⟨xs', rfl, hxv⟩ := hx.agg_inv
      obtain ⟨ys', rfl, hyv⟩ := hy.agg_inv
      obtain ⟨g, hg, hgs, _⟩ := (hE.tys et j hj).inf
      rw [run_equalIn_array w d xs' ys' (show P.underlying t = some (.array n et) from hu) hg]
      have hc : P.cellsOf et = j.size := by simp [Program.cellsOf, hg, hgs]
      rw [hc]
      generalize List.range n = is at e
      induction is generalizing b with
      | nil => simp at e; subst e; simp [Op.eqItems]
      | cons k is ihk =>
        obtain ⟨b1, b2, h1, h2, rfl⟩ := foldr_and (g := fun k => ((partT E et (k * j.size) (.agg xs)).bind fun u => (partT E et (k * j.size) (.agg ys)).bind fun v => eqT E f et u v)) e
        obtain ⟨u, hu1, h1⟩ := Option.bind_eq_some_iff.1 h1
        obtain ⟨v, hv1, h1⟩ := Option.bind_eq_some_iff.1 h1
        obtain ⟨u', hur, hup⟩ := run_partT hE hxv hu1
        obtain ⟨v', hvr, hvp⟩ := run_partT hE hyv hv1
        have hq := ih _ u v b1 h1 β u' v' hur hvr d (by omega) w
        have hrest := ihk b2 h2
        simp only [Op.eqItems, Sem.run_bind, hup, hvp, hq, Result.andThen_ok]
        cases b1
        · simp
        · simpa using hrest
    · cases e

theorem eqT_equal (hE : EnvOK P E) {t : Nat} {x y : Value} {b : Bool} (e : eqT E 8 t x y = some b) {β : Beta} {x' y' : Value} (hx : VR β x x') (hy : VR β y y') (w : World) : (Op.equal t x' y').run P w = .ok b w :=
  eqT_run hE 8 t x y b e β x' y' hx hy Op.maxDepth (by decide) w

theorem nilT_rel {k : Nat} {β : Beta} {v v' : Value} (hv : VR β v v') {b : Bool} (e : nilT k v = some b) : nilT k v' = some b := by
  cases hv <;> (first | exact e | (revert e; rcases k with _ | _ | _ | _ | _ | k <;> simp [nilT]))

theorem nilC_eval {k : Nat} {y : Operand} (hy : isNilC k y = true) : ∃ u, y = .const u ∧ nilT k u = some true := by
  unfold isNilC at hy
  split at hy
  · rename_i v
    split at hy
    · rename_i b hb
      simp only [Bool.and_eq_true] at hy
      rw [hy.1] at hb
      exact ⟨_, rfl, hb⟩
    · cases hy
  · cases hy

/-- which types have nil, by the number of nilT -/
def NilTy (k : Nat) : Ty → Prop
  | .ptr => k = 0
  | .slice _ => k = 1
  | .map .. => k = 2
  | .func => k = 3
  | .iface => k = 4
  | _ => False

theorem run_nil_right {k t : Nat} {y : Ty} (hu : UndOK P t y) (hn : NilTy k y) {u v : Value} {b : Bool} (hv : nilT k v = some b) (hu2 : nilT k u = some true) (d : Nat) (w : World) :
    (Op.equalIn (d + 1) t v u).run P w = .ok b w ∧ (Op.equalIn (d + 1) t u v).run P w = .ok b w := by
  cases y <;> simp only [NilTy] at hn <;> subst hn
  · obtain ⟨e, hu⟩ := hu
    cases v <;> simp only [nilT, Option.some.injEq, reduceCtorEq] at hv
    cases u <;> simp only [nilT, Option.some.injEq, reduceCtorEq] at hu2
    rename_i a c
    cases c <;> simp at hu2
    cases a <;> simp at hv <;> subst hv <;> simp [Op.equalIn, run_underlying hu]
  · cases v <;> simp only [nilT, Option.some.injEq, reduceCtorEq] at hv
    cases u <;> simp only [nilT, Option.some.injEq, reduceCtorEq] at hu2
    rename_i e a _ _ c _ _
    cases c <;> simp at hu2
    cases a <;> simp at hv <;> subst hv <;> simp [Op.equalIn, run_underlying (show P.underlying t = some (.slice e) from hu)]
  · cases v <;> simp only [nilT, Option.some.injEq, reduceCtorEq] at hv
    cases u <;> simp only [nilT, Option.some.injEq, reduceCtorEq] at hu2
    rename_i kt e a c
    cases c <;> simp at hu2
    cases a <;> simp at hv <;> subst hv <;> simp [Op.equalIn, run_underlying (show P.underlying t = some (.map kt e) from hu)]
  · obtain ⟨x1, x2, x3, hu⟩ := hu
    cases v <;> simp only [nilT, Option.some.injEq, reduceCtorEq] at hv <;> cases u <;> simp only [nilT, Option.some.injEq, reduceCtorEq] at hu2 <;> subst hv <;> simp [Op.equalIn, run_underlying hu]
    all_goals simp at hu2
  · obtain ⟨x1, hu⟩ := hu
    cases v <;> simp only [nilT, Option.some.injEq, reduceCtorEq] at hv <;> cases u <;> simp only [nilT, Option.some.injEq, reduceCtorEq] at hu2 <;> subst hv <;> simp [Op.equalIn, run_underlying hu]
    all_goals simp at hu2

theorem run_equal_nil {k t : Nat} {y : Ty} (hu : UndOK P t y) (hn : NilTy k y) {u v : Value} {b : Bool} (hv : nilT k v = some b) (hu2 : nilT k u = some true) (w : World) :
    (Op.equal t v u).run P w = .ok b w ∧ (Op.equal t u v).run P w = .ok b w := run_nil_right hu hn hv hu2 9999 w

end Go.Arm
namespace Go.Arm
variable {R : Type} {E : Env} {P : Program} {C : CF} {L : LF} {o : Oper} {tm : List Value} {h : H} {K : Value → H → Option R} {res : R}

theorem run_eqop_nil {k t : Nat} {v u : Value} {b c d : Bool} (hv : nilT k v = some b) (hu : nilT k u = some c) {op : BinOp} (hop : op = .eql ∨ op = .neq) (w : World) (hr : (Op.equal t v u).run P w = .ok d w) :
    (Go.binOp op t v u).run P w = .ok (.bool (if op = .eql then d else !d)) w := by
  have : (Go.binOp .eql t v u).run P w = .ok (.bool d) w ∧ (Go.binOp .neq t v u).run P w = .ok (.bool (!d)) w := by
    rcases k with _ | _ | _ | _ | _ | k <;> cases v <;> simp only [nilT, reduceCtorEq] at hv <;> cases u <;> simp only [nilT, reduceCtorEq] at hu <;> simp [Go.binOp, hr]
  rcases hop with rfl | rfl
  · simpa using this.1
  · simpa using this.2

theorem run_eqGuard_nil {k : Nat} {op : BinOp} {t : Nat} {x y : Operand} {v u : Value} {b c : Bool} (hv : nilT k v = some b) (hu : nilT k u = some c) (hc : (x matches .const _) = true ∨ (y matches .const _) = true) (w : World) :
    (eqGuard op t x y v u).run P w = .ok () w := by
  unfold eqGuard
  rcases k with _ | _ | _ | _ | _ | k <;> cases v <;> simp only [nilT, reduceCtorEq] at hv <;> cases u <;> simp only [nilT, reduceCtorEq] at hu <;> cases op <;> first | rfl | (simp; done) | (rcases hc with hc | hc <;> (revert hc; cases x <;> cases y <;> simp))

theorem sim_nilK (hE : EnvOK P E) {k xt yt : Nat} {i : TI} (hi : E.tys.get xt = some i) (hn : NilTy k i.ty) {op : BinOp} {x y : Operand} (ho : o.op = .binOp op xt x y yt) (hk : nilK E k op x y tm (fun v => K v h) = some res) :
    ∃ v h', K v h' = some res ∧ Sim E P o tm h v h' := by
  have hu := (hE.tys xt i hi).und
  unfold nilK at hk
  split at hk
  · rename_i hy
    obtain ⟨u, rfl, hu2⟩ := nilC_eval hy
    obtain ⟨b, hb, hk⟩ := Option.bind_eq_some_iff.1 hk
    have base : ∀ op', op = op' → (op' = .eql ∨ op' = .neq) → Sim E P o tm h (.bool (if op' = .eql then b else !b)) h := by
      intro op' he hop β S w a ht r
      subst he
      have hb' := nilT_rel (opv_rel r ht x) hb
      refine Res.same r (v' := .bool (if op = .eql then b else !b)) ?_ (.clit _ rfl)
      have he : a.eval (.const u) = u := rfl
      simp only [execOp, ho, he, Sem.run_bind, run_eqGuard_nil (P := P) (op := op) (t := xt) (x := x) (y := .const u) hb' hu2 (.inr rfl) w, Result.andThen_ok, run_eqop_nil (P := P) hb' hu2 hop w (run_equal_nil hu hn hb' hu2 w).1, Sem.run_pure]
    split at hk
    · exact ⟨_, _, hk, by simpa using base .eql rfl (.inl rfl)⟩
    · exact ⟨_, _, hk, by simpa using base .neq rfl (.inr rfl)⟩
    · cases hk
  · split at hk
    · rename_i hx
      obtain ⟨u, rfl, hu2⟩ := nilC_eval hx
      obtain ⟨b, hb, hk⟩ := Option.bind_eq_some_iff.1 hk
      have base : ∀ op', op = op' → (op' = .eql ∨ op' = .neq) → Sim E P o tm h (.bool (if op' = .eql then b else !b)) h := by
        intro op' he hop β S w a ht r
        subst he
        have hb' := nilT_rel (opv_rel r ht y) hb
        refine Res.same r (v' := .bool (if op = .eql then b else !b)) ?_ (.clit _ rfl)
        have he : a.eval (.const u) = u := rfl
        simp only [execOp, ho, he, Sem.run_bind, run_eqGuard_nil (P := P) (op := op) (t := xt) (x := .const u) (y := y) hu2 hb' (.inl rfl) w, Result.andThen_ok, run_eqop_nil (P := P) hu2 hb' hop w (run_equal_nil hu hn hb' hu2 w).2, Sem.run_pure]
      split at hk
      · exact ⟨_, _, hk, by simpa using base .eql rfl (.inl rfl)⟩
      · exact ⟨_, _, hk, by simpa using base .neq rfl (.inr rfl)⟩
      · cases hk
    · cases hk

theorem eqT_agg' {f t : Nat} {i : TI} (hi : E.tys.get t = some i) (ha : aggT i.ty = true) {x y : Value} {b : Bool} (e : eqT E (f + 1) t x y = some b) : i.eq = true ∧ ∃ xs ys, x = .agg xs ∧ y = .agg ys := by
  simp only [eqT, hi] at e
  split at e
  case h_6 =>
    split at e
    · rename_i h1; exact ⟨h1, _, _, rfl, rfl⟩
    · cases e
  case h_7 =>
    split at e
    · rename_i h1; exact ⟨h1, _, _, rfl, rfl⟩
    · cases e
  all_goals (rename_i hty; simp_all [aggT])

theorem eqT_agg {t : Nat} {i : TI} (hi : E.tys.get t = some i) (ha : aggT i.ty = true) {x y : Value} {b : Bool} (e : eqT E 8 t x y = some b) : i.eq = true ∧ ∃ xs ys, x = .agg xs ∧ y = .agg ys :=
  eqT_agg' (f := 7) hi ha e

theorem sim_binOp (hE : EnvOK P E) {op : BinOp} {xt yt : Nat} {x y : Operand} (ho : o.op = .binOp op xt x y yt) (hk : stepK E C L o tm h K = some res) : ∃ v h', K v h' = some res ∧ Sim E P o tm h v h' := by
  simp only [stepK, ho] at hk
  unfold binK at hk
  split at hk
  · cases hk
  rename_i i hi
  have hok := hE.tys xt i hi
  split at hk
  · rename_i k hty
    split at hk
    · rename_i k1 a k2 b hx hy
      split at hk
      · rename_i hc
        obtain ⟨rfl, hs⟩ := hc
        obtain ⟨v, hv, hl, hrun⟩ := run_binI (P := P) (t := xt) hk hs
        exact ⟨v, h, hv, sim_bin_lit ho hl (by rw [hx]; rfl) (by rw [hy]; rfl) (by rw [hx, hy]; exact hrun)⟩
      · cases hk
    · cases hk
  · rename_i hty
    have hu : P.underlying xt = some .bool := by have := hok.und; rw [hty] at this; exact this
    split at hk
    · rename_i a b hx hy
      have heq : ∀ w, (Op.equal xt (.bool a) (.bool b)).run P w = .ok (a == b) w := fun w => run_equalIn_bool' w 9999 xt a b hu
      split at hk
      · exact ⟨_, _, hk, sim_bin_lit ho rfl (by rw [hx]; rfl) (by rw [hy]; rfl) (fun w => by rw [hx, hy]; simp [Go.binOp, heq])⟩
      · exact ⟨_, _, hk, sim_bin_lit ho rfl (by rw [hx]; rfl) (by rw [hy]; rfl) (fun w => by rw [hx, hy]; simp [Go.binOp, heq])⟩
      · cases hk
    · cases hk
  · rename_i hty
    split at hk
    · rename_i a b hx hy
      have base : ∀ v, lit v = true → (∀ w, (Go.binOp op xt (.string a) (.string b)).run P w = .ok v w) → Sim E P o tm h v h :=
        fun v hl hr => sim_bin_lit ho hl (by rw [hx]; rfl) (by rw [hy]; rfl) (by rw [hx, hy]; exact hr)
      split at hk
      · cases hd : decide (roomy < a.size + b.size) with
        | true => simp [hd] at hk
        | false =>
          simp only [hd, cond_false] at hk
          have hlt : a.size + b.size ≤ roomy := by simpa using hd
          unfold roomy at hlt
          refine ⟨_, _, hk, base _ rfl fun w => ?_⟩
          have : ¬ (((a.size + b.size : Nat) : Int) > IntKind.i64.max) := by
            have : IntKind.i64.max = 9223372036854775807 := by decide
            omega
          simp only [Go.binOp, Op.stringOp, this, if_false, Sem.run_pure]
      all_goals first
        | (exact ⟨_, _, hk, base _ rfl fun w => by simp [Go.binOp, Op.stringOp, seq, slt]⟩)
        | cases hk
    · cases hk
  · obtain ⟨v, hv, hk⟩ := Option.bind_eq_some_iff.1 hk
    obtain ⟨hl, hx, hy, hrun⟩ := fop_some (P := P) hv
    have hs := sim_bin_lit (h := h) (E := E) (tm := tm) ho hl hx hy (hrun xt)
    split at hk
    · exact ⟨_, _, hk, hs⟩
    · exact ⟨_, _, hk, hs⟩
    · exact ⟨_, _, hk, hs⟩
    · exact ⟨_, _, hk, hs⟩
    · obtain ⟨b, hb, hk⟩ := Option.bind_eq_some_iff.1 hk
      rw [asB_some hb] at hs
      exact ⟨_, _, hk, hs⟩
  · obtain ⟨v, hv, hk⟩ := Option.bind_eq_some_iff.1 hk
    obtain ⟨hl, hx, hy, hrun⟩ := fop_some (P := P) hv
    have hs := sim_bin_lit (h := h) (E := E) (tm := tm) ho hl hx hy (hrun xt)
    split at hk
    · exact ⟨_, _, hk, hs⟩
    · exact ⟨_, _, hk, hs⟩
    · exact ⟨_, _, hk, hs⟩
    · exact ⟨_, _, hk, hs⟩
    · obtain ⟨b, hb, hk⟩ := Option.bind_eq_some_iff.1 hk
      rw [asB_some hb] at hs
      exact ⟨_, _, hk, hs⟩
  all_goals first
    | (rename_i hty; exact sim_nilK hE hi (by rw [hty]; exact rfl) ho hk)
    | (rename_i q hty; exact sim_nilK hE hi (by rw [hty]; exact rfl) ho hk)
    | (rename_i q1 q2 hty; exact sim_nilK hE hi (by rw [hty]; exact rfl) ho hk)
    | skip
  all_goals first
    | (have haggt : aggT i.ty = true := by (first | (rename_i hty; rw [hty]; rfl) | (rename_i q hty; rw [hty]; rfl) | (rename_i q1 q2 hty; rw [hty]; rfl))
       obtain ⟨b, hb, hk⟩ := Option.bind_eq_some_iff.1 hk
       obtain ⟨heq, xs, ys, hx, hy⟩ := eqT_agg hi haggt hb
       obtain ⟨_, hg, _⟩ := hok.eq heq haggt
       have base : ∀ op', op = op' → (op' = .eql ∨ op' = .neq) → Sim E P o tm h (.bool (if op' = .eql then b else !b)) h := by
         intro op' he hop β S w a ht r
         subst he
         have hxr := opv_rel r ht x
         have hyr := opv_rel r ht y
         have hrun := eqT_equal hE hb hxr hyr w
         rw [hx] at hxr
         rw [hy] at hyr
         obtain ⟨xs', hxe, _⟩ := hxr.agg_inv
         obtain ⟨ys', hye, _⟩ := hyr.agg_inv
         rw [hxe, hye] at hrun
         refine Res.same r (v' := .bool (if op = .eql then b else !b)) ?_ (.clit _ rfl)
         have hb2 : (Go.binOp op xt (.agg xs') (.agg ys')).run P w = .ok (.bool (if op = .eql then b else !b)) w := by
           rcases hop with rfl | rfl
           · rw [run_eql_struct]; exact (congrArg (fun z : Result Bool => z.andThen fun b w' => Result.ok (Value.bool b) w') hrun)
           · rw [run_neq_struct]; exact (congrArg (fun z : Result Bool => z.andThen fun b w' => Result.ok (Value.bool (!b)) w') hrun)
         simp only [execOp, ho, Sem.run_bind, hxe, hye, run_eqGuard_agg w op xt x y xs' ys' hg, Result.andThen_ok, hb2, Sem.run_pure]
       split at hk
       · exact ⟨_, _, hk, by simpa using base .eql rfl (.inl rfl)⟩
       · exact ⟨_, _, hk, by simpa using base .neq rfl (.inr rfl)⟩
       · cases hk)
    | cases hk

/-! ### indexing -/
theorem byteAt_some {s : ByteArray} {i n : Int} (e : byteAt s i = some n) : 0 ≤ i ∧ ∃ b : UInt8, s[i.toNat]? = some b ∧ n = (b.toNat : Int) := by
  unfold byteAt at e
  split at e
  · rename_i h0
    obtain ⟨b, hb, rfl⟩ := Option.map_eq_some_iff.1 e
    exact ⟨h0, b, hb, rfl⟩
  · cases e

theorem sim_index (hE : EnvOK P E) {t : Nat} {x y : Operand} (ho : o.op = .index t x y) (hk : stepK E C L o tm h K = some res) : ∃ v h', K v h' = some res ∧ Sim E P o tm h v h' := by
  simp only [stepK, ho] at hk
  split at hk
  · rename_i i k j hi hy
    have hok := hE.tys t i hi
    split at hk
    · rename_i hty
      split at hk
      · rename_i s hx
        obtain ⟨n, hn, hk⟩ := Option.bind_eq_some_iff.1 hk
        obtain ⟨h0, b, hb, rfl⟩ := byteAt_some hn
        refine ⟨_, _, hk, fun β S w a ht r => ?_⟩
        have hxv := opv_rel r ht x
        rw [hx] at hxv
        have hyv := opv_rel r ht y
        rw [hy] at hyv
        have hu : P.underlying t = some .string := by have := hok.und; rw [hty] at this; exact this
        refine Res.same r (v' := .int .u8 (b.toNat : Int)) ?_ (.clit _ rfl)
        simp [execOp, ho, Instr.index, hyv.int_inv, hxv.str_inv, run_asIntOf, run_underlying hu, h0, hb]
      · cases hk
    · rename_i n e hty
      split at hk
      · rename_i q hq
        obtain ⟨hc, hk⟩ := cond_some hk
        simp only [Bool.and_eq_true, decide_eq_true_eq] at hc
        obtain ⟨u, hu1, hk⟩ := Option.bind_eq_some_iff.1 hk
        refine ⟨_, _, src1_some hk, fun β S w a ht r => ?_⟩
        have hyv := opv_rel r ht y
        rw [hy] at hyv
        have hxv := opv_rel r ht x
        obtain ⟨cs, hcs⟩ := partV_agg hu1
        rw [hcs] at hxv hu1
        obtain ⟨cs', hce, hvl⟩ := hxv.agg_inv
        have hu : P.underlying t = some (.array n e) := by have := hok.und; rw [hty] at this; exact this
        obtain ⟨g, hg, hgs, _⟩ := (hE.tys e q hq).inf
        obtain ⟨u', hur, hrun⟩ := run_part (hE.tys e q hq) hvl (by rw [← aggT_eq]; exact hu1)
        refine Res.same r (v' := u') ?_ hur
        simp [execOp, ho, Instr.index, hyv.int_inv, hce, run_asIntOf, run_underlying hu, hc.1, hc.2, runI hg, hgs, hrun]
      · cases hk
    · cases hk
  · cases hk

end Go.Arm
namespace Go.Arm
variable {R : Type} {E : Env} {P : Program} {C : CF} {L : LF} {o : Oper} {tm : List Value} {h : H} {K : Value → H → Option R} {res : R}

theorem cell?_alloc_fz (w : World) (A : Array Value) (e : TypeId) (fz : Nat × Nat) (j : Nat) : (w.alloc (.cells A e fz)).cell? ⟨w.heap.size, j, none⟩ = A[j]? := by
  unfold World.cell?
  rw [heap_alloc_at]
  rfl

/-- a new row, with room behind its length -/
theorem RH.newRow {β : Beta} {S : Sc} {w : World} (r : RH E β h S w) {cs : List Value} {A : Array Value} (e e' : TypeId) {i : TI} (hi : E.tys.get e = some i) (hle : cs.length ≤ A.size)
    (hv : ∀ (j : Nat) (v v' : Value), cs[j]? = some v → A[j]? = some v' → VR β v v') (fz : Nat × Nat) (hfz : ∀ j, j < A.size → ¬ (fz.1 ≤ j ∧ j < fz.2)) :
    ∃ x, x.blk = w.heap.size ∧ x.off = 0 ∧ x.size = cs.length ∧ x.rend = A.size ∧ x.esz = i.size ∧ x.loose = true ∧ RH E (β.set h.next x) (h.new (.cells cs e true true)) S (w.alloc (.cells A e' fz)) := by
  have hb := r.fresh _ (Nat.le_refl _)
  refine ⟨⟨w.heap.size, 0, cs.length, A.size, i.size, true⟩, rfl, rfl, rfl, rfl, rfl, rfl, r.add h.next _ _ _ (H.get_next h) hb (by simp [H.next_new]) (by simp [H.next_new]) (get_new h _) rfl ?_⟩
  refine ⟨rfl, by simpa using hle, rfl, fun _ => ⟨i, hi, rfl⟩, fun j v hj => ?_, fun _ => ⟨r.up _ (Nat.le_refl _), fun j _ hj => ?_⟩⟩
  · have hlt : j < A.size := Nat.lt_of_lt_of_le (List.getElem?_eq_some_iff.1 hj).1 hle
    exact ⟨A[j], by rw [Nat.zero_add, cell?_alloc_fz]; exact Array.getElem?_eq_getElem hlt, (hv j v _ hj (Array.getElem?_eq_getElem hlt)).mono (Beta.le_set _ hb)⟩
  · simp only at hj
    rw [cell?_alloc_fz]
    refine ⟨by simp [hj], ?_⟩
    unfold World.frozen?
    rw [heap_alloc_at]
    have := hfz j hj
    simp only [Bool.and_eq_false_imp, decide_eq_true_eq, decide_eq_false_iff_not]
    omega

theorem isBytes_some (hE : EnvOK P E) {t e : Nat} (hb : isBytes E t = some e) : P.underlying t = some (.slice e) ∧ P.underlying e = some (.int .u8) ∧ ∃ i, E.tys.get e = some i ∧ i.ty = .int .u8 := by
  unfold isBytes at hb
  split at hb
  · rename_i e' _ _ _ _ _ hi
    split at hb
    · rename_i hj
      cases hb
      have h1 := (hE.tys _ _ hi).und
      have h2 := (hE.tys _ _ hj).und
      exact ⟨h1, h2, _, hj, rfl⟩
    · cases hb
  · cases hb

theorem bytesOfCells_some : ∀ (l : List Value) (r : List UInt8), bytesOfCells l = some r → ∃ ns : List Int, l = ns.map (Value.int .u8) ∧ r = ns.map fun n => UInt8.ofNat n.toNat
  | [], r, h => by cases h; exact ⟨[], rfl, rfl⟩
  | v :: l, r, h => by
    unfold bytesOfCells at h
    split at h
    · rename_i he; cases he
    · rename_i n l' he
      cases he
      obtain ⟨q, hq, rfl⟩ := Option.map_eq_some_iff.1 h
      obtain ⟨ns, rfl, rfl⟩ := bytesOfCells_some _ q hq
      exact ⟨n :: ns, rfl, rfl⟩
    · cases h

theorem foldl_push (ns : List Int) : ∀ s : ByteArray, ns.foldl (fun r n => r.push (UInt8.ofNat n.toNat)) s = ⟨s.data ++ (ns.map fun n => UInt8.ofNat n.toNat).toArray⟩ := by
  induction ns with
  | nil => intro s; simp
  | cons n ns ih =>
    intro s
    rw [List.foldl_cons, ih]
    congr 1
    apply Array.ext'
    simp [ByteArray.push]

theorem VL.lits {β : Beta} {l l' : List Value} (h : VL β l l') (hl : ∀ v ∈ l, lit v = true) : l' = l := by
  induction l generalizing l' with
  | nil => exact h.cases_nil
  | cons v l ih =>
    obtain ⟨v', t, rfl, hv, ht⟩ := h.cases_cons
    rw [ih ht (fun u hu => hl u (by simp [hu])), hv.lit_inv (hl v (by simp))]

/-- a slice, whatever it is -/
theorem VR.slice_any {β : Beta} {b q n c : Nat} {v' : Value} (hv : VR β (.slice (some ⟨b, q, none⟩) n c) v') :
    (∃ x c', β b = some x ∧ v' = .slice (some ⟨x.blk, x.off + q, none⟩) n c' ∧ n ≤ c ∧ CapOK x q c c') ∨ (n = 0 ∧ c = 0 ∧ ∃ a', v' = .slice (some a') 0 0) := by
  cases hv with
  | clit _ h => simp [Arm.lit] at h
  | slice _ _ _ _ c' x hx hn hc => exact .inl ⟨x, c', hx, rfl, hn, hc⟩
  | sempty _ a' _ => exact .inr ⟨rfl, rfl, a', rfl⟩

theorem VR.snil_inv {β : Beta} {v' : Value} (hv : VR β (.slice none 0 0) v') : v' = .slice none 0 0 := by
  cases hv with
  | clit _ h => simp [Arm.lit] at h
  | snil => rfl
theorem Addr.add_lit' (b q n : Nat) : (⟨b, q, none⟩ : Addr).add n = ⟨b, q + n, none⟩ := add_eq b q n

theorem run_loadCells_zero (a : Addr) (w : World) : (loadCells a 0).run P w = .ok #[] w := by simpa using run_loadCells_list (P := P) w a [] (by simp)

theorem sim_convert (hE : EnvOK P E) {s d : Nat} {x : Operand} (ho : o.op = .convert s d x) (hk : stepK E C L o tm h K = some res) : ∃ v h', K v h' = some res ∧ Sim E P o tm h v h' := by
  simp only [stepK, ho] at hk
  unfold convK at hk
  split at hk
  case h_2 => cases hk
  rename_i i j hi hj
  have hs := (hE.tys s i hi).und
  have hd := (hE.tys d j hj).und
  split at hk
  · rename_i q k h1 h2
    rw [h1] at hs; rw [h2] at hd
    split at hk
    · rename_i k' n hx
      refine ⟨_, _, hk, fun β S w a ht r => Res.same r (v' := .int k (k.wrap n)) ?_ (.clit _ rfl)⟩
      have := opv_rel r ht x
      rw [hx] at this
      simp [execOp, ho, convert, this.int_inv, run_underlying (show P.underlying s = some _ from hs), run_underlying (show P.underlying d = some _ from hd), Conv.intToInt]
    · cases hk
  · rename_i q h1 h2
    rw [h1] at hs; rw [h2] at hd
    split at hk
    · rename_i k' n hx
      split at hk
      · refine ⟨_, _, hk, fun β S w a ht r => Res.same r (v' := .float .f64 (FloatKind.f64.nearest n)) ?_ (.clit _ rfl)⟩
        have := opv_rel r ht x
        rw [hx] at this
        simp [execOp, ho, convert, this.int_inv, run_underlying (show P.underlying s = some _ from hs), run_underlying (show P.underlying d = some _ from hd), Conv.intToFloat]
      · cases hk
    · cases hk
  · rename_i k h1 h2
    rw [h1] at hs; rw [h2] at hd
    obtain ⟨n, hn, hk⟩ := Option.bind_eq_some_iff.1 hk
    unfold f2i at hn
    split at hn
    · rename_i sk b hx
      split at hn
      · rename_i n' hn'
        split at hn
        · rename_i hr
          cases hn
          refine ⟨_, _, hk, fun β S w a ht r => Res.same r (v' := .int k n) ?_ (.clit _ rfl)⟩
          have := opv_rel r ht x
          rw [hx] at this
          rw [show execOp a.eval o = (do pure (.value (← convert s d (a.eval x)))) by simp only [execOp, ho], this.lit_inv rfl]
          simp [convert, run_underlying (show P.underlying s = some _ from hs), run_underlying (show P.underlying d = some _ from hd), Conv.floatToInt, hn', hr]
        · cases hn
      · cases hn
    · cases hn
  · rename_i h1 h2
    rw [h1] at hs; rw [h2] at hd
    obtain ⟨b, hb, hk⟩ := Option.bind_eq_some_iff.1 hk
    refine ⟨_, _, hk, fun β S w a ht r => Res.same r (v' := .string b) ?_ (.clit _ rfl)⟩
    have := opv_rel r ht x
    rw [asS_some hb] at this
    simp [execOp, ho, convert, this.str_inv, run_underlying (show P.underlying s = some _ from hs), run_underlying (show P.underlying d = some _ from hd)]
  · rename_i e h1 h2
    rw [h2] at hd
    split at hk
    · rename_i e' hb
      obtain ⟨q, hq, hk⟩ := Option.bind_eq_some_iff.1 hk
      obtain ⟨hu1, hu2, _⟩ := isBytes_some hE hb
      refine ⟨_, _, hk, fun β S w a ht r => Res.same r (v' := .string q) ?_ (.clit _ rfl)⟩
      have hx := opv_rel r ht x
      have hgo : ∀ v, (Conv.bytesToString v).run P w = .ok (.string q) w → (∃ y n c, v = .slice y n c) → a.eval x = v → (execOp a.eval o).run P w = .ok (.value (.string q)) w := by
        intro v hr ⟨y, n, c, hv⟩ hav
        rw [show execOp a.eval o = (do pure (.value (← convert s d (a.eval x)))) by simp only [execOp, ho], hav]
        subst hv
        cases y <;> simp [convert, run_underlying hu1, run_underlying hu2, run_underlying (show P.underlying d = some _ from hd), hr]
      unfold strOf at hq
      split at hq
      · rename_i hv
        cases hq
        rw [hv] at hx
        exact hgo (.slice none 0 0) (by simp [Conv.bytesToString]) ⟨_, _, _, rfl⟩ hx.snil_inv
      · rename_i b p n c hv
        obtain ⟨l, hl, rfl⟩ := Option.map_eq_some_iff.1 hq
        obtain ⟨cs, hcs, hl⟩ := Option.bind_eq_some_iff.1 hl
        obtain ⟨ns, rfl, rfl⟩ := bytesOfCells_some _ _ hl
        rw [hv] at hx
        have hstr : (⟨⟨ns.map fun n => UInt8.ofNat n.toNat⟩⟩ : ByteArray) = ns.foldl (fun r n => r.push (UInt8.ofNat n.toNat)) ByteArray.empty := by
          rw [foldl_push]; simp [ByteArray.empty, ByteArray.emptyWithCapacity]; rfl
        rcases hx.slice_any with ⟨y, c', hy, hxe, hn, hc⟩ | ⟨rfl, rfl, a', hxe⟩
        · obtain ⟨hlen, l', hl', hvl, hcell⟩ := r.cellsAt hcs hy
          have := hvl.lits (fun v hv => by obtain ⟨n, _, rfl⟩ := List.mem_map.1 hv; rfl)
          subst this
          refine hgo _ ?_ ⟨_, _, _, rfl⟩ hxe
          rw [hstr]
          refine run_bytesToString w _ _ _ ns ?_
          have hld := run_loadCells_list (P := P) w ⟨y.blk, y.off + p, none⟩ (ns.map (Value.int .u8)) (fun j v hj => by rw [add_eq]; exact hcell j v hj)
          rw [hl'] at hld
          exact hld
        · have hn0 : ns = [] := by
            unfold cellsAt at hcs
            split at hcs
            · split at hcs
              · have := Option.some.inj hcs
                cases ns with
                | nil => rfl
                | cons n ns => simp at this
              · cases hcs
            · cases hcs
          subst hn0
          refine hgo _ ?_ ⟨_, _, _, rfl⟩ hxe
          rw [hstr]
          exact run_bytesToString w _ _ _ [] (run_loadCells_zero a' w)
      · cases hq
    · cases hk
  · rename_i e h1 h2
    rw [h1] at hs
    split at hk
    · rename_i e' q hb hq
      obtain ⟨hu1, hu2, i', hi', hty'⟩ := isBytes_some hE hb
      obtain ⟨p, hp, hk⟩ := Option.bind_eq_some_iff.1 hk
      unfold bytesOf at hp
      split at hp
      · rename_i hroom
        cases hp
        refine ⟨_, _, hk, fun β S w a ht r => ?_⟩
        have hx := opv_rel r ht x
        rw [hq] at hx
        have hrun := run_bytes_of_string (P := P) w s d e' q hs hu1 hu2
        have hge : q.size ≤ grownCap w q.size 0 e' := grownCap_ge w q.size 0 e'
        have hsz : (bytesRow q (grownCap w q.size 0 e')).size = grownCap w q.size 0 e' := by
          simp only [bytesRow, Array.size_append, Array.size_map, Array.size_replicate]
          have : q.data.size = q.size := rfl
          omega
        have hnsz : i'.size = 1 := (hE.tys _ _ hi').sz1 (by rw [hty']; rfl)
        obtain ⟨y, hy1, hy2, hy3, hy4, hy5, hy6, r'⟩ := r.drew.newRow (cs := q.data.toList.map fun b => Value.int .u8 (b.toNat : Int)) (A := bytesRow q (grownCap w q.size 0 e')) e' e' hi' (by
            rw [hsz]; simp; exact hge) (fun j v v' hj hj' => by
            obtain ⟨hlt, hje⟩ := List.getElem?_eq_some_iff.1 hj
            simp at hlt hje
            rw [bytesRow_at q _ j hlt] at hj'
            cases hj'
            subst hje
            exact .clit _ rfl) ((bytesRow q (grownCap w q.size 0 e')).size, (bytesRow q (grownCap w q.size 0 e')).size + 1) (fun j hj => by simp only; omega)
        refine ⟨_, _, Beta.le_set y (r.fresh _ (Nat.le_refl _)), r', (Fr.drew S w).trans (Fr.alloc _ _ r.drew.up), .inl ⟨.slice (some ⟨w.heap.size, 0, none⟩) q.size (grownCap w q.size 0 e'), ?_, ?_⟩⟩
        · rw [show execOp a.eval o = (do pure (.value (← convert s d (a.eval x)))) by simp only [execOp, ho], hx.str_inv]
          simp only [Sem.run_bind, hrun, Result.andThen_ok, Sem.run_pure]
        · have hblk : y.blk = w.heap.size := hy1
          have := VR.slice (β := β.set h.next y) h.next 0 q.size q.size (grownCap w q.size 0 e') y (Beta.set_same _ _ _) (Nat.le_refl _) (.inr ⟨hy6, by rw [hy3, hy5, hnsz]; simp, hge, by rw [hy2, hy4, hy5, hsz, hnsz]; simp⟩)
          rw [hblk, hy2] at this
          exact this
      · cases hp
    · cases hk
  · cases hk

end Go.Arm
namespace Go.Arm
variable {R : Type} {E : Env} {P : Program} {C : CF} {L : LF} {o : Oper} {tm : List Value} {h : H} {K : Value → H → Option R} {res : R}

/-- a bound, told -/
def OV : Option Value → Option Int → Prop
  | none, none => True
  | some (.int _ n), some m => n = m
  | _, _ => False

theorem optI_rel {lo : Option Operand} {l : Option Int} (e : optI E tm lo = some l) {β : Beta} {S : Sc} {w : World} (r : RH E β h S w) {a : Act} (ht : TmR β tm a) : OV (lo.map a.eval) l := by
  cases lo with
  | none => cases e; trivial
  | some x =>
    simp only [optI] at e
    split at e
    · rename_i k n hx
      cases e
      have := opv_rel r ht x
      rw [hx] at this
      simp [OV, this.int_inv]
    · cases e

theorem optM_rel {hi mx : Option Operand} {m : Option Int} (e : optM E tm hi mx = some m) : optI E tm mx = some m ∧ (mx.isSome = true → hi.isSome = true) := by
  cases mx with
  | none => cases e; exact ⟨rfl, by simp⟩
  | some x =>
    cases hi with
    | none => cases e
    | some y => exact ⟨e, by simp⟩

theorem run_sliceBound {v : Value} {n : Int} (e : OV (some v) (some n)) {y : Nat} {c : BoundsCode} (h0 : 0 ≤ n) (h1 : n ≤ y) (w : World) : (Instr.sliceBound v y c).run P w = .ok n.toNat w := by
  cases v with
  | int k m => simp only [OV] at e; subst e; simp [Instr.sliceBound, run_asIntOf, h0, h1]
  | _ => exact e.elim

theorem run_sliceBounds {b : Bool} {n c : Nat} {lo hi mx : Option Value} {l r m : Option Int} (hl : OV lo l) (hr : OV hi r) (hm : OV mx m) (hmx : mx.isSome = true → hi.isSome = true)
    (h0 : 0 ≤ l.getD 0) (h1 : l.getD 0 ≤ r.getD n) (h2 : r.getD n ≤ m.getD c) (h3 : m.getD c ≤ c) (w : World) :
    (Instr.sliceBounds b n c lo hi mx).run P w = .ok ((l.getD 0).toNat, (r.getD n).toNat, (m.getD c).toNat) w := by
  have A : ∀ v i, OV v i → v = none ∧ i = none ∨ ∃ u j, v = some u ∧ i = some j ∧ OV (some u) (some j) := by
    intro v i h
    cases v <;> cases i
    · exact .inl ⟨rfl, rfl⟩
    · exact h.elim
    · rename_i v; cases v <;> exact h.elim
    · exact .inr ⟨_, _, rfl, rfl, h⟩
  rcases A _ _ hm with ⟨rfl, rfl⟩ | ⟨mv, mi, rfl, rfl, hm⟩ <;> rcases A _ _ hr with ⟨rfl, rfl⟩ | ⟨rv, ri, rfl, rfl, hr⟩ <;> rcases A _ _ hl with ⟨rfl, rfl⟩ | ⟨lv, li, rfl, rfl, hl⟩ <;>
    simp only [Option.getD_none, Option.getD_some, Option.isSome_some, Option.isSome_none, Bool.false_eq_true, imp_false, not_true_eq_false, forall_const] at *
  · simp [Instr.sliceBounds]
  · simp [Instr.sliceBounds, run_sliceBound hl h0 (show li ≤ (n : Nat) by omega)]
  · simp [Instr.sliceBounds, run_sliceBound hr (show 0 ≤ ri by omega) (show ri ≤ (c : Nat) by omega)]
  · simp [Instr.sliceBounds, run_sliceBound hr (show 0 ≤ ri by omega) (show ri ≤ (c : Nat) by omega), run_sliceBound hl h0 (show li ≤ (ri.toNat : Nat) by omega)]
  · simp [Instr.sliceBounds, run_sliceBound hm (show 0 ≤ mi by omega) (show mi ≤ (c : Nat) by omega), run_sliceBound hr (show 0 ≤ ri by omega) (show ri ≤ (mi.toNat : Nat) by omega)]
  · simp [Instr.sliceBounds, run_sliceBound hm (show 0 ≤ mi by omega) (show mi ≤ (c : Nat) by omega), run_sliceBound hr (show 0 ≤ ri by omega) (show ri ≤ (mi.toNat : Nat) by omega), run_sliceBound hl h0 (show li ≤ (ri.toNat : Nat) by omega)]

/-- a piece of a slice -/
theorem VR.piece {β : Beta} {b q l n c c' : Nat} {x : BE} (hx : β b = some x) (hn : n ≤ c) (hc : CapOK x (q + l) c c') (same : Prop) [Decidable same] (hs : same ↔ c' = 0) (a0 : Addr) :
    VR β (.slice (some ⟨b, q + l, none⟩) n c) (.slice (some (if same then a0 else ⟨x.blk, x.off + (q + l), none⟩)) n c') := by
  by_cases h : same
  · have h0 : c' = 0 := hs.1 h
    subst h0
    have hc0 : c = 0 := by rcases hc with h | ⟨_, _, h, _⟩ <;> omega
    have hn0 : n = 0 := by omega
    subst hc0 hn0
    exact .sempty _ _ rfl
  · rw [if_neg h]; exact .slice b (q + l) n c c' x hx hn hc

theorem sim_slice (hE : EnvOK P E) {t : Nat} {x : Operand} {lo hi mx : Option Operand} (ho : o.op = .slice t x lo hi mx) (hk : stepK E C L o tm h K = some res) : ∃ v h', K v h' = some res ∧ Sim E P o tm h v h' := by
  simp only [stepK, ho] at hk
  split at hk
  case h_2 => cases hk
  rename_i i l rr m hi' hl hr hm
  obtain ⟨hm, hmx⟩ := optM_rel hm
  have hok := hE.tys t i hi'
  have hu := hok.und
  split at hk
  · rename_i hty
    rw [hty] at hu
    split at hk
    · rename_i s hx
      cases mx with
      | some _ => cases hk
      | none =>
        cases hm
        obtain ⟨s', hs', hk⟩ := Option.bind_eq_some_iff.1 hk
        unfold slS at hs'
        simp only at hs'
        split at hs'
        · rename_i hc
          cases hs'
          refine ⟨_, _, hk, fun β S w a ht r => Res.same r (v' := .string (s.extract (l.getD 0).toNat (rr.getD (s.size : Int)).toNat)) ?_ (.clit _ rfl)⟩
          have hxv := opv_rel r ht x
          rw [hx] at hxv
          have hb := run_sliceBounds (P := P) (b := false) (n := s.size) (c := s.size) (optI_rel hl r ht) (optI_rel hr r ht) (mx := none) (m := none) trivial (by simp) hc.1 hc.2.1 hc.2.2 (by simp) w
          rw [show execOp a.eval o = (do pure (.value (← Instr.sliceAt t (a.eval x) (lo.map a.eval) (hi.map a.eval) none))) by simp only [execOp, ho, Option.map_none], hxv.str_inv]
          simp [Instr.sliceAt, Instr.slice, run_underlying (show P.underlying t = some _ from hu), hb]
        · cases hs'
    · cases hk
  · rename_i e hty
    rw [hty] at hu
    split at hk
    case h_2 => cases hk
    rename_i j hj
    obtain ⟨f, hf, hfs, _⟩ := (hE.tys e j hj).inf
    obtain ⟨v, hv, hk⟩ := Option.bind_eq_some_iff.1 hk
    refine ⟨_, _, hk, fun β S w a ht r => ?_⟩
    have hxv := opv_rel r ht x
    have hgo : ∀ (ad : Option Addr) (n c : Nat), a.eval x = .slice ad n c → 0 ≤ l.getD 0 → l.getD 0 ≤ rr.getD n → rr.getD n ≤ m.getD c → m.getD c ≤ c →
        (execOp a.eval o).run P w = .ok (.value (.slice (if (m.getD c).toNat = (l.getD 0).toNat then ad else ad.map (·.add ((l.getD 0).toNat * j.size))) ((rr.getD n).toNat - (l.getD 0).toNat) ((m.getD c).toNat - (l.getD 0).toNat))) w := by
      intro ad n c hav h0 h1 h2 h3
      have hb := run_sliceBounds (P := P) (b := true) (n := n) (c := c) (optI_rel hl r ht) (optI_rel hr r ht) (optI_rel hm r ht) (by simpa using hmx) h0 h1 h2 h3 w
      rw [show execOp a.eval o = (do pure (.value (← Instr.sliceAt t (a.eval x) (lo.map a.eval) (hi.map a.eval) (mx.map a.eval)))) by simp only [execOp, ho], hav]
      simp [Instr.sliceAt, Instr.slice, run_underlying (show P.underlying t = some _ from hu), hb, runI hf, hfs]
    unfold slV at hv
    split at hv
    · rename_i hxe
      split at hv
      · rename_i hc
        cases hv
        rw [hxe] at hxv
        refine Res.same r (v' := .slice none 0 0) ?_ .snil
        have hr0 : rr.getD ((0 : Nat) : Int) = 0 := hc.2.1
        have hm0 : m.getD ((0 : Nat) : Int) = 0 := hc.2.2
        rw [hgo none 0 0 hxv.snil_inv (by omega) (by omega) (by omega) (by omega), hc.1, hr0, hm0]
        rfl
      · cases hv
    · rename_i b q n c hxe
      simp only at hv
      split at hv
      · rename_i hc
        obtain ⟨h0, h1, h2, h3, h4⟩ := hc
        cases hv
        rw [hxe] at hxv
        rcases hxv.slice_any with ⟨y, c', hy, hav, hnc, hcap⟩ | ⟨rfl, rfl, a', hav⟩
        · have hcc : c ≤ c' := by rcases hcap with h | ⟨_, _, h, _⟩ <;> omega
          cases hmm : m with
          | none =>
            subst hmm
            simp only [Option.getD_none] at h2 h3 hgo ⊢
            refine Res.same r (v' := .slice (some (if c' = (l.getD 0).toNat then ⟨y.blk, y.off + q, none⟩ else ⟨y.blk, y.off + (q + (l.getD 0).toNat * j.size), none⟩)) ((rr.getD n).toNat - (l.getD 0).toNat) (c' - (l.getD 0).toNat)) ?_ ?_
            · rw [hgo _ n c' hav h0 h1 (by omega) (by omega)]
              simp only [Int.toNat_natCast]
              congr 3
              split
              · rfl
              · simp [add_eq, Nat.add_assoc]
            · rw [show (rr.getD (n : Int) - l.getD 0).toNat = (rr.getD n).toNat - (l.getD 0).toNat by omega, show ((c : Int) - l.getD 0).toNat = c - (l.getD 0).toNat by omega]
              refine VR.piece hy (by omega) ?_ _ (by omega) _
              rcases hcap with h | ⟨e1, e2, e3, e4⟩
              · exact .inl (by omega)
              · by_cases hl0 : l.getD 0 = 0
                · rw [hl0]
                  exact .inr ⟨e1, by simpa using e2, by simpa using e3, by simpa using e4⟩
                · have hez : y.esz = j.size := by
                    simp only [hl0, decide_false, Option.isSome_none, Bool.or_false, Bool.false_or, okE] at h4
                    split at h4
                    · rename_i cs e' own loose hg
                      obtain ⟨y', hy', hk'⟩ := r.blk b _ hg (by simp)
                      rw [hy] at hy'; cases hy'
                      obtain ⟨_, _, k3, k4, _⟩ := hk'
                      rw [← k3, e1] at h4
                      simp at h4
                      subst h4
                      obtain ⟨i', hi', he'⟩ := k4 (k3 ▸ e1)
                      rw [hj] at hi'; cases hi'
                      exact he'
                    · cases h4
                  have hlc : (l.getD 0).toNat ≤ c := by omega
                  have m1 := Nat.mul_le_mul_right j.size hlc
                  have m2 := Nat.mul_le_mul_right j.size (Nat.le_trans hlc e3)
                  rw [hez] at e2 e4
                  refine .inr ⟨e1, ?_, by omega, ?_⟩
                  · rw [hez, Nat.sub_mul]; omega
                  · rw [hez, Nat.sub_mul]; omega
          | some mm =>
            subst hmm
            simp only [Option.getD_some] at h2 h3 hgo ⊢
            refine Res.same r (v' := .slice (some (if mm.toNat = (l.getD 0).toNat then ⟨y.blk, y.off + q, none⟩ else ⟨y.blk, y.off + (q + (l.getD 0).toNat * j.size), none⟩)) ((rr.getD n).toNat - (l.getD 0).toNat) (mm.toNat - (l.getD 0).toNat)) ?_ ?_
            · rw [hgo _ n c' hav h0 h1 (by omega) (by omega)]
              congr 3
              split
              · rfl
              · simp [add_eq, Nat.add_assoc]
            · rw [show (rr.getD (n : Int) - l.getD 0).toNat = (rr.getD n).toNat - (l.getD 0).toNat by omega, show (mm - l.getD 0).toNat = mm.toNat - (l.getD 0).toNat by omega]
              exact VR.piece hy (by omega) (.inl rfl) _ (by omega) _
        · have hm0 : m.getD ((0 : Nat) : Int) = 0 := by omega
          have hl0 : l.getD 0 = 0 := by omega
          have hr0 : rr.getD ((0 : Nat) : Int) = 0 := by omega
          rw [hl0, hr0, hm0]
          refine Res.same r (v' := .slice (some a') 0 0) ?_ (.sempty _ _ rfl)
          rw [hgo _ 0 0 hav (by omega) (by omega) (by omega) (by omega), hl0, hr0, hm0]
          rfl
      · cases hv
    · cases hv
  · rename_i n e hty
    rw [hty] at hu
    split at hk
    case h_2 => cases hk
    rename_i j hj
    obtain ⟨f, hf, hfs, _⟩ := (hE.tys e j hj).inf
    obtain ⟨⟨b, q⟩, hp, hk⟩ := Option.bind_eq_some_iff.1 hk
    obtain ⟨v, hv, hk⟩ := Option.bind_eq_some_iff.1 hk
    refine ⟨_, _, hk, fun β S w a ht r => ?_⟩
    have hxv := opv_rel r ht x
    rw [asP_some hp] at hxv
    obtain ⟨y, hy, hpe⟩ := hxv.ptr_inv
    unfold slP at hv
    simp only at hv
    split at hv
    · rename_i hc
      obtain ⟨h0, h1, h2, h3⟩ := hc
      cases hv
      have hb := run_sliceBounds (P := P) (b := false) (n := n) (c := n) (optI_rel hl r ht) (optI_rel hr r ht) (optI_rel hm r ht) (by simpa using hmx) h0 h1 h2 h3 w
      refine Res.same r (v' := .slice (some (if (m.getD n).toNat = (l.getD 0).toNat then ⟨y.blk, y.off + q, none⟩ else ⟨y.blk, y.off + (q + (l.getD 0).toNat * j.size), none⟩)) ((rr.getD n).toNat - (l.getD 0).toNat) ((m.getD n).toNat - (l.getD 0).toNat)) ?_ ?_
      · rw [show execOp a.eval o = (do pure (.value (← Instr.sliceAt t (a.eval x) (lo.map a.eval) (hi.map a.eval) (mx.map a.eval)))) by simp only [execOp, ho], hpe]
        simp only [Instr.sliceAt, Sem.run_bind, run_underlying (show P.underlying t = some _ from hu), Result.andThen_ok, Instr.sureAddr, hb, runI hf, hfs, Sem.run_pure]
        congr 4
        split
        · rfl
        · simp [add_eq, Nat.add_assoc]
      · rw [show (rr.getD (n : Int) - l.getD 0).toNat = (rr.getD n).toNat - (l.getD 0).toNat by omega, show (m.getD (n : Int) - l.getD 0).toNat = (m.getD n).toNat - (l.getD 0).toNat by omega]
        exact VR.piece hy (by omega) (.inl rfl) _ (by omega) _
    · cases hv
  · cases hk

end Go.Arm
namespace Go.Arm
variable {R : Type} {E : Env} {P : Program} {C : CF} {L : LF} {o : Oper} {tm : List Value} {h : H} {K : Value → H → Option R} {res : R}

theorem rep_succ (n : Nat) (z : List Value) : rep (n + 1) z = rep n z ++ z := by simp [rep, List.range_succ, List.flatMap_append]
theorem rep_length (z : List Value) : ∀ n : Nat, (rep n z).length = n * z.length
  | 0 => by simp [rep]
  | n + 1 => by rw [rep_succ, List.length_append, rep_length z n, Nat.succ_mul]
theorem rep_get (z : List Value) : ∀ (n j : Nat), j < n * z.length → (rep n z)[j]? = z[j % z.length]? := by
  intro n
  induction n with
  | zero => intro j hj; omega
  | succ n ih =>
    intro j hj
    have hl := rep_length z n
    rw [rep_succ]
    by_cases h1 : j < n * z.length
    · rw [List.getElem?_append_left (by omega)]; exact ih j h1
    · rw [List.getElem?_append_right (by omega), hl]
      have h2 : j - n * z.length < z.length := by rw [Nat.succ_mul] at hj; omega
      have : j % z.length = j - n * z.length := by
        conv => lhs; rw [show j = (j - n * z.length) + n * z.length by omega]
        rw [Nat.add_mul_mod_self_right, Nat.mod_eq_of_lt h2]
      rw [this]

theorem madeCells_rep (z : List Value) (n : Nat) (hz : z ≠ []) : madeCells ⟨z⟩ (n * z.length) = ⟨rep n z⟩ := by
  apply Array.ext'
  apply List.ext_getElem?
  intro j
  have hpos : 0 < z.length := List.length_pos_iff.2 hz
  by_cases hj : j < n * z.length
  · rw [rep_get z n j hj]
    have hm := Nat.mod_lt j hpos
    simp [madeCells, hj, hm]
  · rw [List.getElem?_eq_none (l := rep n z) (by rw [rep_length]; omega), List.getElem?_eq_none (by simp [madeCells]; omega)]

theorem rep_mem (z : List Value) (n : Nat) : ∀ v ∈ rep n z, v ∈ z := by
  intro v hv
  simp only [rep, List.mem_flatMap] at hv
  obtain ⟨_, _, h⟩ := hv
  exact h

theorem sim_makeSlice (hE : EnvOK P E) {t : Nat} {x y : Operand} (ho : o.op = .makeSlice t x y) (hk : stepK E C L o tm h K = some res) : ∃ v h', K v h' = some res ∧ Sim E P o tm h v h' := by
  simp only [stepK, ho] at hk
  split at hk
  case h_2 => cases hk
  rename_i _ _ _ e _ _ kx a0 ky b0 ht0 hx hy
  have hu : P.underlying t = some (.slice e) := (hE.tys t _ ht0).und
  split at hk
  case h_2 => cases hk
  rename_i i hi
  have hok := hE.tys e i hi
  split at hk
  case isFalse => cases hk
  rename_i hne
  obtain ⟨p, hp, hk⟩ := Option.bind_eq_some_iff.1 hk
  unfold mkS at hp
  split at hp
  case isFalse => cases hp
  rename_i hc
  obtain ⟨h0, h1, h2⟩ := hc
  split at hp
  case isFalse => cases hp
  cases hp
  obtain ⟨f, hf, hfs, hfb, hz⟩ := hok.inf
  obtain ⟨z, hz1, hz2⟩ := hz hne
  have hzn : i.zero ≠ [] := by intro h; simp [h] at hne
  refine ⟨_, _, hk, fun β S w a ht r => ?_⟩
  have hxv := opv_rel r ht x
  rw [hx] at hxv
  have hyv := opv_rel r ht y
  rw [hy] at hyv
  have hbd : b0 * ((i.bytes : Int) + 1) = b0 * i.bytes + b0 := by rw [Int.mul_add, Int.mul_one]
  have hb0 : 0 ≤ b0 * (i.bytes : Int) := Int.mul_nonneg (by omega) (by omega)
  have h2' : b0 * ((i.bytes : Nat) : Int) + b0 ≤ 1099511627776 := by rw [hbd] at h2; exact h2
  have hrun := run_make (P := P) w t e f z hu hf hz1 kx ky a0 b0 h0 h1 (by rw [hfb, Int.mul_comm]; omega) (by omega)
  rw [hz2, hfs, ← hok.zs, madeCells_rep _ _ hzn] at hrun
  obtain ⟨q, hq, hq0, _, r'⟩ := r.newCells (cs := rep b0.toNat i.zero) (cs' := rep b0.toNat i.zero) e e (VL.refl_closed β fun v hv => hok.cl v (rep_mem _ _ v hv))
  refine ⟨β.set h.next q, _, Beta.le_set q (r.fresh _ (Nat.le_refl _)), r', Fr.alloc w _ r.up, .inl ⟨.slice (some ⟨w.heap.size, 0, none⟩) a0.toNat b0.toNat, ?_, ?_⟩⟩
  · rw [show execOp a.eval o = (do pure (.value (← Instr.makeSlice t (a.eval x) (a.eval y)))) by simp only [execOp, ho], hxv.int_inv, hyv.int_inv]
    simp only [Sem.run_bind, hrun, Result.andThen_ok, Sem.run_pure]
  · have := VR.slice (β := β.set h.next q) h.next 0 a0.toNat b0.toNat b0.toNat q (Beta.set_same _ _ _) (by omega) (.inl rfl)
    rw [hq, hq0] at this
    exact this

end Go.Arm
namespace Go.Arm
variable {R : Type} {E : Env} {P : Program} {C : CF} {L : LF} {o : Oper} {tm : List Value} {h : H} {K : Value → H → Option R} {res : R}

theorem H.get_put_none {h : H} {b c : Nat} {k : Blk} (e : (h.put b none).get c = some k) : c ≠ b ∧ h.get c = some k := by
  by_cases hcb : c = b
  · subst hcb
    by_cases hlt : c < h.next
    · rw [H.get_put_same _ _ _ hlt] at e; cases e
    · have := H.get_lt e
      rw [H.next_put] at this
      omega
  · rw [H.get_put_ne _ _ _ _ hcb] at e
    exact ⟨hcb, e⟩

theorem RH.kill {β : Beta} {S : Sc} {w : World} (r : RH E β h S w) (b : Nat) (hb : h.get b ≠ some .hole) : RH E β (h.put b none) S w :=
  ⟨r.glob, r.up, r.fresh, r.lt, fun c k hc => r.blk c k (H.get_put_none hc).2, fun c d k l x y hc hd => r.disj c d k l x y (H.get_put_none hc).2 (H.get_put_none hd).2, fun c hc => ⟨by rw [H.get_put_ne _ _ _ _ (fun e => hb (by rw [← e]; exact (r.hol c hc).1))]; exact (r.hol c hc).1, (r.hol c hc).2⟩, fun c hc => by rw [H.get_put_ne _ _ _ _ (fun e => hb (by rw [← e]; exact r.held c hc))]; exact r.held c hc⟩

/-- cells are put behind a slice's length, in the room there -/
theorem RH.appendIn {β : Beta} {S : Sc} {w : World} (r : RH E β h S w) {b : Nat} {cs : List Value} {e : TypeId} (hg : h.get b = some (.cells cs e true true)) {x : BE} (hx : β b = some x)
    {q n m : Nat} {news news' : List Value} (hv : VL β news news') (hle : q + n * x.esz ≤ cs.length) (hreal : x.off + q + (n + m) * x.esz ≤ x.rend) (hm : news.length = m * x.esz) :
    (∀ j, j < news'.length → (w.cell? ⟨x.blk, x.off + q + n * x.esz + j, none⟩).isSome = true) ∧ (∀ j, j < news'.length → w.frozen? ⟨x.blk, x.off + q + n * x.esz + j, none⟩ = false) ∧ S x.blk ∧
    RH E (β.set h.next ⟨x.blk, x.off + q, (n + m) * x.esz, x.rend, x.esz, true⟩) ((h.put b none).new (.cells ((cs.drop q).take (n * x.esz) ++ news) e true true)) S (w.setCells x.blk (x.off + q + n * x.esz) news') := by
  obtain ⟨y, hy, hk⟩ := r.blk b _ hg (by simp)
  rw [hx] at hy; cases hy
  obtain ⟨k1, k2, k3, k4, k5, k6⟩ := hk
  obtain ⟨hS, hreg⟩ := k6 rfl
  rw [Nat.add_mul] at hreal
  have hl' : news'.length = m * x.esz := by rw [← hv.1]; exact hm
  have hin : ∀ j, j < news'.length → (w.cell? ⟨x.blk, x.off + q + n * x.esz + j, none⟩).isSome = true := fun j hj => (hreg _ (by omega) (by omega)).1
  have hfr : ∀ j, j < news'.length → w.frozen? ⟨x.blk, x.off + q + n * x.esz + j, none⟩ = false := fun j hj => (hreg _ (by omega) (by omega)).2
  refine ⟨hin, hfr, hS, ?_⟩
  have hnx : β h.next = none := r.fresh _ (Nat.le_refl _)
  have hbn : b < h.next := H.get_lt hg
  have hget : ∀ c k, ((h.put b none).new (.cells ((cs.drop q).take (n * x.esz) ++ news) e true true)).get c = some k → (c = h.next ∧ k = .cells ((cs.drop q).take (n * x.esz) ++ news) e true true) ∨ (c ≠ h.next ∧ c ≠ b ∧ h.get c = some k) := by
    intro c k hc
    rw [get_new, H.next_put] at hc
    split at hc
    · rename_i hcn; cases hc; exact .inl ⟨hcn, rfl⟩
    · rename_i hcn; exact .inr ⟨hcn, H.get_put_none hc⟩
  have hlen : ((cs.drop q).take (n * x.esz)).length = n * x.esz := by simp; omega
  refine ⟨fun g hg' => ?_, by rw [size_setCells]; exact r.up, fun c hc => ?_, fun c y hy => ?_, fun c k hc hh => ?_, ?_, fun c hc => ?_, fun c hc => ?_⟩
  · obtain ⟨y, hy, h1, h2⟩ := r.glob g hg'
    exact ⟨y, Beta.le_set _ hnx g y hy, h1, h2⟩
  · have : h.next + 1 ≤ c := hc
    rw [Beta.set_ne _ _ _ _ (by omega)]; exact r.fresh c (by omega)
  · rw [size_setCells]
    by_cases hcn : c = h.next
    · subst hcn; rw [Beta.set_same] at hy; cases hy; exact r.lt b x hx
    · rw [Beta.set_ne _ _ _ _ hcn] at hy; exact r.lt c y hy
  · rcases hget c k hc with ⟨rfl, rfl⟩ | ⟨hcn, hcb, hc⟩
    · refine ⟨_, Beta.set_same _ _ _, by rw [List.length_append, hlen, hm, Nat.add_mul], by rw [Nat.add_mul]; simp only; omega, rfl, fun _ => k4 rfl, fun j v hj => ?_, fun _ => ⟨hS, fun j h1 h2 => ?_⟩⟩
      · simp only
        by_cases hjn : j < n * x.esz
        · rw [List.getElem?_append_left (by omega), List.getElem?_take_of_lt hjn, List.getElem?_drop] at hj
          obtain ⟨v', hv', hvr⟩ := k5 _ v hj
          refine ⟨v', ?_, hvr.mono (Beta.le_set _ hnx)⟩
          rw [World.cell?_setCells_out]
          · rw [show x.off + q + j = x.off + (q + j) by omega]; exact hv'
          · intro _ _; simp only; omega
        · rw [List.getElem?_append_right (by omega), hlen] at hj
          have hlt : j - n * x.esz < news'.length := by rw [← hv.1]; exact (List.getElem?_eq_some_iff.1 hj).1
          refine ⟨news'[j - n * x.esz], ?_, (hv.2 _ v _ hj (List.getElem?_eq_getElem hlt)).mono (Beta.le_set _ hnx)⟩
          have := World.cell?_setCells_in x.blk news' (x.off + q + n * x.esz) w hin _ hlt
          rwa [show x.off + q + n * x.esz + (j - n * x.esz) = x.off + q + j by omega] at this
      · simp only at h1 h2
        rw [World.frozen?_setCells]
        refine ⟨?_, (hreg j (by omega) h2).2⟩
        by_cases hr : x.off + q + n * x.esz ≤ j ∧ j < x.off + q + n * x.esz + news'.length
        · have := World.cell?_setCells_in x.blk news' (x.off + q + n * x.esz) w hin (j - (x.off + q + n * x.esz)) (by omega)
          rw [show x.off + q + n * x.esz + (j - (x.off + q + n * x.esz)) = j by omega] at this
          rw [this]; rfl
        · rw [World.cell?_setCells_out]
          · exact (hreg j (by omega) h2).1
          · intro _ _; simp only; omega
    · obtain ⟨y, hy, hk⟩ := r.blk c k hc hh
      refine ⟨y, by rw [Beta.set_ne _ _ _ _ hcn]; exact hy, hk.keep (Beta.le_set _ hnx) (fun s => s) (heap_setCells w x.blk news' _ y.blk ?_)⟩
      exact (r.disj b c _ k x y hg hc (Ne.symm hcb) rfl hx hy).symm
  · intro c d k l y z hc hd hne hown hy hz
    rcases hget c k hc with ⟨rfl, rfl⟩ | ⟨hcn, hcb, hc⟩
    · rcases hget d l hd with ⟨rfl, _⟩ | ⟨hdn, hdb, hd⟩
      · exact absurd rfl hne
      · rw [Beta.set_same] at hy; cases hy
        rw [Beta.set_ne _ _ _ _ hdn] at hz
        exact r.disj b d _ l x z hg hd (Ne.symm hdb) rfl hx hz
    · rw [Beta.set_ne _ _ _ _ hcn] at hy
      rcases hget d l hd with ⟨rfl, _⟩ | ⟨hdn, hdb, hd⟩
      · rw [Beta.set_same] at hz; cases hz
        exact r.disj c b k _ y x hc hg hcb hown hy hx
      · rw [Beta.set_ne _ _ _ _ hdn] at hz
        exact r.disj c d k l y z hc hd hne hown hy hz
  · have h1 := r.hol c hc
    have hcb : c ≠ b := fun e => by subst e; rw [hg] at h1; cases h1.1
    have hcn : c ≠ h.next := fun e => by subst e; rw [H.get_next] at h1; cases h1.1
    rw [get_new, H.next_put, if_neg hcn, H.get_put_ne _ _ _ _ hcb, Beta.set_ne _ _ _ _ hcn]
    exact h1
  · have h1 := r.held c hc
    have hcb : c ≠ b := fun e => by subst e; rw [hg] at h1; cases h1
    have hcn : c ≠ h.next := fun e => by subst e; rw [H.get_next] at h1; cases h1
    rw [get_new, H.next_put, if_neg hcn, H.get_put_ne _ _ _ _ hcb]
    exact h1

theorem srcT_some (hE : EnvOK P E) {u : Nat} (hs : srcT E u = true) : (∃ e', P.underlying u = some (.slice e')) ∨ P.underlying u = some .string := by
  unfold srcT at hs
  split at hs
  · rename_i hi; exact .inl ⟨_, (hE.tys _ _ hi).und⟩
  · rename_i hi; exact .inr (hE.tys _ _ hi).und
  · cases hs

theorem VL.ones {β : Beta} {l l' : List Value} (hv : VL β l l') (h1 : ∀ u ∈ l, one u = true) : ∀ u ∈ l', u.oneCell' = true := by
  intro u hu
  obtain ⟨i, hi⟩ := List.getElem?_of_mem hu
  have hlt : i < l.length := by rw [hv.1]; exact (List.getElem?_eq_some_iff.1 hi).1
  rw [← one_eq]
  exact (hv.2 i l[i] u (List.getElem?_eq_getElem hlt) hi).one (h1 _ (List.getElem_mem hlt))

theorem cellsAt_zero {b q : Nat} {l : List Value} (e : cellsAt h b q 0 = some l) : l = [] := by
  unfold cellsAt at e
  split at e
  · split at e
    · cases e; simp
    · cases e
  · cases e

/-- what is appended: its cells -/
theorem srcC_rel {u esz m : Nat} (hk : (∃ e', P.underlying u = some (.slice e')) ∨ P.underlying u = some .string) {v v' : Value} {l : List Value} (e : srcC esz h v = some (m, l)) {β : Beta} {S : Sc} {w : World}
    (r : RH E β h S w) (hv : VR β v v') (h1 : ∀ x ∈ l, one x = true) : ∃ l', VL β l l' ∧ Src P esz u v' m l' w ∧ l.length = m * esz := by
  unfold srcC at e
  split at e
  · cases e
    rw [hv.snil_inv]
    exact ⟨[], .nil β, ⟨hk, fun _ => rfl, run_firstCells_none w esz 0 0 0, run_firstCells_none w.drew esz 0 0 0, by simp, fun _ h => by cases h⟩, by simp⟩
  · rename_i b q n c
    obtain ⟨l0, hl0, e⟩ := Option.map_eq_some_iff.1 e
    cases e
    rcases hv.slice_any with ⟨x, c', hx, rfl, _, _⟩ | ⟨rfl, rfl, a', rfl⟩
    · obtain ⟨hlen, l', hl', hvl, hc⟩ := r.cellsAt hl0 hx
      have hc' : ∀ (j : Nat) (v : Value), l'[j]? = some v → w.cell? ((⟨x.blk, x.off + q, none⟩ : Addr).add j) = some v := fun j v hj => by rw [add_eq]; exact hc j v hj
      exact ⟨l', hvl, ⟨hk, fun _ => rfl, run_firstCells_some w esz m _ m c' l' hl' hc', run_firstCells_some w.drew esz m _ m c' l' hl' (by simpa using hc'), hl', hvl.ones h1⟩, hlen⟩
    · rw [Nat.zero_mul] at hl0
      rw [cellsAt_zero hl0]
      have hz := run_firstCells_some (P := P) w esz 0 a' 0 0 [] (by simp) (by simp)
      have hz' := run_firstCells_some (P := P) w.drew esz 0 a' 0 0 [] (by simp) (by simp)
      exact ⟨[], .nil β, ⟨hk, fun _ => rfl, hz, hz', by simp, fun _ h => by cases h⟩, by simp⟩
  · rename_i s
    split at e
    · rename_i he
      subst he
      cases e
      rw [hv.str_inv]
      exact ⟨byteCells s, .refl_closed β fun v hv => by obtain ⟨_, _, rfl⟩ := List.mem_map.1 hv; rfl,
        ⟨hk, fun _ => rfl, firstCells_string s w, firstCells_string s w.drew, by rw [byteCells_length, Nat.mul_one], fun u hu => by obtain ⟨_, _, rfl⟩ := List.mem_map.1 hu; rfl⟩, by rw [Nat.mul_one]; exact byteCells_length s⟩
    · cases e
  · cases e

/-- a new row, with zeros behind -/
theorem RH.growRow {β : Beta} {S : Sc} {w : World} (r : RH E β h S w) {cs cs' : List Value} (e e' : TypeId) {i : TI} (hi : E.tys.get e = some i) (hv : VL β cs cs') (Z : Array Value) :
    ∃ x, x.blk = w.heap.size ∧ x.off = 0 ∧ x.size = cs.length ∧ x.rend = cs.length + Z.size ∧ x.esz = i.size ∧ x.loose = true ∧ RH E (β.set h.next x) (h.new (.cells cs e true true)) S (w.alloc (.cells (cs'.toArray ++ Z) e')) := by
  obtain ⟨x, h1, h2, h3, h4, h5, h6, h7⟩ := r.newRow (cs := cs) (A := cs'.toArray ++ Z) e e' hi (by simp [hv.1]) (fun j v v' hj hj' => by
    have hlt : j < cs'.length := by rw [← hv.1]; exact (List.getElem?_eq_some_iff.1 hj).1
    rw [Array.getElem?_append_left (by simpa using hlt)] at hj'
    exact hv.2 j v v' hj (by simpa using hj')) (0, 0) (fun j _ => by simp only; omega)
  exact ⟨x, h1, h2, h3, by rw [h4]; simp [hv.1], h5, h6, h7⟩

theorem size_zeroCells (z : Array Value) (n : Nat) : (Builtin.zeroCells z n).size = n * z.size := by simp [Builtin.zeroCells]

theorem run_append_nothing (t u ty e : TypeId) (f : TypeInfo) (ht : P.underlying t = some (.slice e)) (hf : P.info? e = some f) (base : Option Addr) (n c : Nat) (hn : n ≤ c) (x : Value) (w : World) (hs : Src P f.size u x 0 [] w) :
    (Builtin.append_ #[t, u] ty #[.slice base n c, x]).run P w = .ok (.slice base n c) w := by
  rcases hs.kind with ⟨e', hk⟩ | hk <;> cases base <;> simp [Builtin.append_, run_underlying ht, run_underlying hk, sizeOf, typeInfo, hf, hs.len, hn, hs.cells, storeCells]

end Go.Arm
namespace Go.Arm
variable {R : Type} {E : Env} {P : Program} {C : CF} {L : LF} {o : Oper} {tm : List Value} {h : H} {K : Value → H → Option R} {res : R}

theorem grow_sound (hE : EnvOK P E) {t u e : Nat} {i : TI} (ht : P.underlying t = some (.slice e)) (hi : E.tys.get e = some i) (hne : i.size ≠ 0) {β : Beta} {S : Sc} {w : World} (r : RH E β h S w)
    {base : Option Addr} {n c' m : Nat} {olds olds' news news' : List Value} (hvo : VL β olds olds') (hvn : VL β news news')
    (hold : (Builtin.firstCells i.size n (.slice base n c')).run P w.drew = .ok olds'.toArray w.drew) (hlo : olds.length = n * i.size) (hln : news.length = m * i.size) {x' : Value} (hs : Src P i.size u x' m news' w)
    (hg : c' < n + m) (hroom : (n + m) * (i.bytes + 1) ≤ roomy) :
    ∃ β' w' v', β.le β' ∧ RH E β' (h.new (.cells (olds ++ news) e true true)) S w' ∧ Fr S w w' ∧ VR β' (.slice (some ⟨h.next, 0, none⟩) (n + m) (n + m)) v' ∧
      ∀ ty, (Builtin.append_ #[t, u] ty #[.slice base n c', x']).run P w = .ok v' w' := by
  have hok := hE.tys e i hi
  obtain ⟨f, hf, hfs, hfb, hz⟩ := hok.inf
  have hzn : i.zero.isEmpty = false := by
    cases hzz : i.zero with
    | nil => have := hok.zs; rw [hzz] at this; exact absurd this.symm hne
    | cons _ _ => rfl
  obtain ⟨z, hz1, hz2⟩ := hz hzn
  have hb : (n + m) * (i.bytes + 1) = (n + m) * i.bytes + (n + m) := by rw [Nat.mul_add, Nat.mul_one]
  have hroom' : (n + m) * i.bytes + (n + m) ≤ 1099511627776 := by rw [← hb]; exact hroom
  have hfit : Builtin.nextslicecap (n + m) c' * f.bytes ≤ 281474976710656 := by
    have h1 := nextslicecap_le hg
    have h2 := Nat.mul_le_mul_right f.bytes h1
    rw [Nat.mul_assoc, hfb] at h2
    rw [hfb]
    omega
  rw [← hfs] at hs hold
  have hrun := fun ty => run_append_grow_src (P := P) w t u ty e f z ht hf hz1 base n c' olds' hold x' m news' hs hg (by omega) hfit
  have hge : n + m ≤ grownCap w (n + m) c' e := grownCap_ge w (n + m) c' e
  obtain ⟨y, hy1, hy2, hy3, hy4, hy5, hy6, r'⟩ := r.drew.growRow (cs := olds ++ news) (cs' := olds' ++ news') e e hi (hvo.append hvn) (Builtin.zeroCells z.cells (grownCap w (n + m) c' e - (n + m)))
  refine ⟨_, _, _, Beta.le_set y (r.fresh _ (Nat.le_refl _)), r', (Fr.drew S w).trans (Fr.alloc _ _ r.drew.up), ?_, hrun⟩
  have hzs : z.cells.size = i.size := by rw [hz2]; exact hok.zs
  have := VR.slice (β := β.set h.next y) h.next 0 (n + m) (n + m) (grownCap w (n + m) c' e) y (Beta.set_same _ _ _) (Nat.le_refl _) (.inr ⟨hy6, by
      rw [hy3, hy5, List.length_append, hlo, hln, Nat.add_mul]; omega, hge, by
      rw [hy2, hy4, hy5, List.length_append, hlo, hln, size_zeroCells, hzs, ← Nat.add_mul, ← Nat.add_mul]
      rw [show n + m + (grownCap w (n + m) c' e - (n + m)) = grownCap w (n + m) c' e by omega]; omega⟩)
  have hblk : y.blk = w.heap.size := hy1
  rw [hblk, hy2] at this
  exact this

theorem srcC_zero {esz : Nat} {v : Value} {l : List Value} (e : srcC esz h v = some (0, l)) : l = [] := by
  unfold srcC at e
  split at e
  · cases e; rfl
  · obtain ⟨l', hl, he⟩ := Option.map_eq_some_iff.1 e
    have h1 := congrArg Prod.fst he
    have h2 := congrArg Prod.snd he
    simp only at h1 h2
    rw [h1, Nat.zero_mul] at hl
    rw [← h2]
    exact cellsAt_zero hl
  · split at e
    · have he := Option.some.inj e
      have h1 := congrArg Prod.fst he
      have h2 := congrArg Prod.snd he
      simp only at h1 h2
      rw [← h2, List.map_eq_nil_iff]
      exact List.length_eq_zero_iff.1 h1
    · cases e
  · cases e

theorem appA_sound (hE : EnvOK P E) {t u e : Nat} {i : TI} (ht : P.underlying t = some (.slice e)) (hi : E.tys.get e = some i) (hk : (∃ e', P.underlying u = some (.slice e')) ∨ P.underlying u = some .string)
    {s x v : Value} {h' : H} (e1 : appA i.size i.bytes e h s x = some (v, h')) {β : Beta} {S : Sc} {w : World} (r : RH E β h S w) {s' x' : Value} (hs : VR β s s') (hx : VR β x x') :
    ∃ β' w' v', β.le β' ∧ RH E β' h' S w' ∧ Fr S w w' ∧ VR β' v v' ∧ ∀ ty, (Builtin.append_ #[t, u] ty #[s', x']).run P w = .ok v' w' := by
  obtain ⟨f, hf, hfs, hfb, hz⟩ := (hE.tys e i hi).inf
  unfold appA at e1
  obtain ⟨⟨m, news⟩, hsrc, e2⟩ := Option.bind_eq_some_iff.1 e1
  clear e1
  have e1 := e2
  clear e2
  simp only at e1
  split at e1
  · -- nothing was there
    have hsn := hs.snil_inv
    subst hsn
    split at e1
    · rename_i hm
      cases e1
      subst hm
      have hn0 : news = [] := srcC_zero hsrc
      subst hn0
      obtain ⟨l', hvl, hS, _⟩ := srcC_rel (esz := i.size) hk hsrc r hx (fun _ h => by cases h)
      rw [hvl.cases_nil] at hS
      rw [← hfs] at hS
      exact ⟨β, w, _, Beta.le_refl β, r, Fr.refl S w, .snil, fun ty => run_append_nothing t u ty e f ht hf none 0 0 (Nat.le_refl _) x' w hS⟩
    · split at e1
      · rename_i hm hc
        cases e1
        simp only [Bool.and_eq_true, decide_eq_true_eq, List.all_eq_true, ne_eq] at hc
        obtain ⟨⟨h1, h2⟩, h3⟩ := hc
        obtain ⟨l', hvl, hS, hln⟩ := srcC_rel (esz := i.size) hk hsrc r hx h2
        have := grow_sound hE (t := t) ht hi (by simpa using h3) r (base := none) (n := 0) (c' := 0) (m := m) (olds := []) (.nil β) hvl (run_firstCells_none w.drew i.size 0 0 0) (by simp) hln hS (by omega) (by rw [Nat.zero_add]; exact h1)
        simpa using this
      · cases e1
  · rename_i b q n c
    split at e1
    · rename_i hnm
      split at e1
      · rename_i hm
        cases e1
        subst hm
        rw [srcC_zero hsrc] at hsrc
        obtain ⟨l', hvl, hS, _⟩ := srcC_rel (esz := i.size) hk hsrc r hx (fun _ h => by cases h)
        rw [hvl.cases_nil, ← hfs] at hS
        rcases hs.slice_any with ⟨y, c', hy, rfl, hnc, hcap⟩ | ⟨rfl, rfl, a', rfl⟩
        · have hcc : c ≤ c' := by rcases hcap with h | ⟨_, _, h, _⟩ <;> omega
          exact ⟨β, w, _, Beta.le_refl β, r, Fr.refl S w, hs, fun ty => run_append_nothing t u ty e f ht hf _ n c' (by omega) x' w hS⟩
        · exact ⟨β, w, _, Beta.le_refl β, r, Fr.refl S w, hs, fun ty => run_append_nothing t u ty e f ht hf _ 0 0 (by omega) x' w hS⟩
      · rename_i hm
        obtain ⟨h2, hst, he⟩ := Option.map_eq_some_iff.1 e1
        cases he
        obtain ⟨l', hvl, hS, hln⟩ := srcC_rel (esz := i.size) hk hsrc r hx (stC_one hst)
        rcases hs.slice_any with ⟨y, c', hy, rfl, hnc, hcap⟩ | ⟨rfl, rfl, a', rfl⟩
        · have hcc : c ≤ c' := by rcases hcap with h | ⟨_, _, h, _⟩ <;> omega
          obtain ⟨hc, hfz, _, hSy, r'⟩ := r.stC hst hvl hy
          rw [← hfs] at hS hc hfz r'
          rw [← Nat.add_assoc] at hc hfz r'
          refine ⟨β, _, _, Beta.le_refl β, r', Fr.setCells w _ hSy _ _, .slice b q (n + m) c c' y hy hnm hcap, fun ty => run_append_room_src w t u ty e f ht hf y.blk (y.off + q) n c' x' m l' hS (by omega) hc hfz⟩
        · omega
    · rename_i hnm
      split at e1
      · cases e1
      · rename_i hcond
        have hcond := Classical.not_not.1 hcond
        obtain ⟨hroom, hne, hone⟩ := hcond
        rw [List.all_eq_true] at hone
        obtain ⟨l', hvl, hS, hln⟩ := srcC_rel (esz := i.size) hk hsrc r hx hone
        split at e1
        · rename_i cs e' own loose hg
          split at e1
          · rename_i hq
            obtain ⟨hq, rfl⟩ := hq
            obtain ⟨y, hy, hkk⟩ := r.blk b _ hg (by simp)
            have hkb := hkk
            obtain ⟨k1, k2, k3, k4, k5, k6⟩ := hkk
            -- the cells that were there
            have hca : cellsAt h b q (n * i.size) = some ((cs.drop q).take (n * i.size)) := by
              simp only [cellsAt, hg, hq, if_true]
            obtain ⟨hlo, lo', hlo', hvo, hco⟩ := r.cellsAt hca hy
            have hold : ∀ c', (Builtin.firstCells i.size n (.slice (some ⟨y.blk, y.off + q, none⟩) n c')).run P w.drew = .ok lo'.toArray w.drew := fun c' =>
              run_firstCells_some w.drew i.size n _ n c' lo' hlo' (fun j v hj => by rw [add_eq]; simpa using hco j v hj)
            have hgrow : ∀ (h0 : H), h0.next = h.next → RH E β h0 S w → ∀ c', (s' = .slice (some ⟨y.blk, y.off + q, none⟩) n c' ∧ c' < n + m ∨ n = 0 ∧ ∃ a', s' = .slice (some a') 0 0 ∧ c' = 0) →
                ∃ β' w' v', β.le β' ∧ RH E β' (h0.new (.cells ((cs.drop q).take (n * i.size) ++ news) e' true true)) S w' ∧ Fr S w w' ∧ VR β' (.slice (some ⟨h.next, 0, none⟩) (n + m) (n + m)) v' ∧
                  ∀ ty, (Builtin.append_ #[t, u] ty #[s', x']).run P w = .ok v' w' := by
              intro h0 hn0 r0 c' hcs
              rw [← hn0]
              rcases hcs with ⟨rfl, hlt⟩ | ⟨rfl, a', rfl, rfl⟩
              · exact grow_sound hE ht hi hne r0 hvo hvl (hold c') hlo hln hS hlt hroom
              · have ho : (cs.drop q).take (0 * i.size) = [] := by simp
                rw [ho]
                exact grow_sound hE ht hi hne r0 (.nil β) hvl (run_firstCells_some w.drew i.size 0 a' 0 0 [] (by simp) (by simp)) (by simp) hln hS (by omega) hroom
            split at e1
            · rename_i hl
              obtain ⟨hl, hqc⟩ := hl
              subst hl
              cases own with
              | false => cases e1
              | true =>
                simp only [if_true] at e1
                cases e1
                rcases hs.slice_any with ⟨y2, c', hy2, hse, hnc, hcap⟩ | ⟨rfl, rfl, a', hse⟩
                · rw [hy] at hy2; cases hy2
                  by_cases hreal : n + m ≤ c'
                  · -- in place
                    obtain ⟨i2, hi2, hez⟩ := k4 rfl
                    rw [hi] at hi2; cases hi2
                    have hrend : y.off + q + c' * i.size = y.rend := by
                      rcases hcap with h | ⟨_, _, _, h⟩
                      · omega
                      · rw [hez] at h; exact h
                    have hmul := Nat.mul_le_mul_right i.size hreal
                    have := r.appendIn hg hy (q := q) (n := n) (m := m) hvl (by rw [hez]; exact hq) (by rw [hez]; omega) (by rw [hez]; exact hln)
                    rw [hez] at this
                    obtain ⟨hc, hfz, hSy, r'⟩ := this
                    rw [← hfs] at hS hc hfz r'
                    subst hse
                    have hnx : β h.next = none := r.fresh _ (Nat.le_refl _)
                    refine ⟨_, _, _, Beta.le_set _ hnx, by rw [hfs] at r' ⊢; exact r', Fr.setCells w _ hSy _ _, ?_, fun ty => run_append_room_src w t u ty e' f ht hf y.blk (y.off + q) n c' x' m l' hS hreal hc hfz⟩
                    exact VR.slice (β := β.set h.next _) h.next 0 (n + m) (n + m) c' _ (Beta.set_same _ _ _) (Nat.le_refl _) (.inr ⟨rfl, by simp [hfs], hreal, by simp only [hfs]; omega⟩)
                  · exact hgrow (h.put b none) rfl (r.kill b (by rw [hg]; simp)) c' (.inl ⟨hse, by omega⟩)
                · exact hgrow (h.put b none) rfl (r.kill b (by rw [hg]; simp)) 0 (.inr ⟨rfl, a', hse, rfl⟩)
            · rename_i hl
              cases e1
              rcases hs.slice_any with ⟨y2, c', hy2, hse, hnc, hcap⟩ | ⟨rfl, rfl, a', hse⟩
              · rw [hy] at hy2; cases hy2
                have hc' : c' = c := by
                  rcases hcap with h | ⟨e1, e2, _, _⟩
                  · exact h
                  · obtain ⟨i2, hi2, hez⟩ := k4 (k3 ▸ e1)
                    rw [hi] at hi2; cases hi2
                    exact absurd ⟨k3 ▸ e1, by rw [← hez, e2, k1]⟩ hl
                exact hgrow h rfl r c' (.inl ⟨hse, by omega⟩)
              · exact hgrow h rfl r 0 (.inr ⟨rfl, a', hse, rfl⟩)
          · cases e1
        · cases e1
  · cases e1

end Go.Arm
namespace Go.Arm
variable {R : Type} {E : Env} {P : Program} {C : CF} {L : LF} {o : Oper} {tm : List Value} {h : H} {K : Value → H → Option R} {res : R}

theorem srcC_first {esz m : Nat} {v v' : Value} {l : List Value} (e : srcC esz h v = some (m, l)) {β : Beta} {S : Sc} {w : World}
    (r : RH E β h S w) (hv : VR β v v') {n : Nat} (hn : n ≤ m) : ∃ l', VL β (l.take (n * esz)) l' ∧ (Builtin.lenOf v').run P w = .ok m w ∧ (Builtin.firstCells esz n v').run P w = .ok l'.toArray w := by
  unfold srcC at e
  split at e
  · cases e
    rw [hv.snil_inv]
    have : n = 0 := by omega
    subst this
    exact ⟨[], by simpa using VL.nil β, rfl, run_firstCells_none w esz 0 0 0⟩
  · rename_i b q k c
    obtain ⟨l0, hl0, e⟩ := Option.map_eq_some_iff.1 e
    cases e
    rcases hv.slice_any with ⟨x, c', hx, rfl, _, _⟩ | ⟨rfl, rfl, a', rfl⟩
    · obtain ⟨hlen, l', hl', hvl, hc⟩ := r.cellsAt hl0 hx
      have hmul := Nat.mul_le_mul_right esz hn
      refine ⟨l'.take (n * esz), hvl.take _, rfl, run_firstCells_some w esz n _ m c' (l'.take (n * esz)) (by simp; omega) (fun j v hj => ?_)⟩
      rw [add_eq]
      rw [List.getElem?_take] at hj
      split at hj
      · exact hc j v hj
      · cases hj
    · have : n = 0 := by omega
      subst this
      exact ⟨[], by simpa using VL.nil β, rfl, run_firstCells_some w esz 0 a' 0 0 [] (by simp) (by simp)⟩
  · rename_i s
    split at e
    · rename_i he
      subst he
      cases e
      rw [hv.str_inv]
      refine ⟨_, .refl_closed β fun v hv => ?_, rfl, ?_⟩
      · obtain ⟨_, _, rfl⟩ := List.mem_map.1 (List.mem_of_mem_take hv); rfl
      · simp only [Builtin.firstCells, Sem.run_pure]
        congr 1
        apply Array.ext'
        simp
    · cases e
  · cases e

theorem copyA_sound (hE : EnvOK P E) {t e : Nat} {i : TI} (ht : P.underlying t = some (.slice e)) (hi : E.tys.get e = some i) {d s : Value} {n : Int} {h' : H} (e1 : copyA i.size h d s = some (n, h'))
    {β : Beta} {S : Sc} {w : World} (r : RH E β h S w) {d' s' : Value} (hd : VR β d d') (hs : VR β s s') :
    ∃ w', RH E β h' S w' ∧ Fr S w w' ∧ ∀ (ts : Array TypeId) ty, ts[0]? = some t → (Builtin.copy_ ts ty #[d', s']).run P w = .ok (.int .i64 n) w' := by
  obtain ⟨f, hf, hfs, hfb, hz⟩ := (hE.tys e i hi).inf
  unfold copyA at e1
  obtain ⟨dn, hdn, e2⟩ := Option.bind_eq_some_iff.1 e1
  obtain ⟨⟨m, l⟩, hsrc, e3⟩ := Option.bind_eq_some_iff.1 e2
  clear e1 e2
  simp only at e3
  obtain ⟨l', hvl, hlen, hfirst⟩ := srcC_first (P := P) hsrc r hs (n := Nat.min m dn) (Nat.min_le_left _ _)
  rw [← hfs] at hfirst
  split at e3
  · cases e3
    cases hdn
    rw [hd.snil_inv]
    refine ⟨w, r, Fr.refl S w, fun ts ty hts => ?_⟩
    have hm0 : m.min 0 = 0 := Nat.min_zero m
    rw [hm0] at hfirst
    simp [Builtin.copy_, hts, run_underlying ht, hlen, runI hf, hfirst, goInt]
  · rename_i b q k c
    cases hdn
    split at e3
    · rename_i hn0
      cases e3
      rw [hn0] at hfirst hvl
      have hl0 : l' = [] := by
        rw [Nat.zero_mul, List.take_zero] at hvl
        exact hvl.cases_nil
      subst hl0
      have hm : ∃ a' c', d' = .slice (some a') dn c' := by
        rcases hd.slice_any with ⟨x, c', hx, rfl, _, _⟩ | ⟨rfl, rfl, a', rfl⟩
        · exact ⟨_, _, rfl⟩
        · exact ⟨_, _, rfl⟩
      obtain ⟨a', c', rfl⟩ := hm
      refine ⟨w, r, Fr.refl S w, fun ts ty hts => ?_⟩
      have hn0' : m.min dn = 0 := hn0
      simp [Builtin.copy_, hts, run_underlying ht, hlen, runI hf, hn0', hfirst, goInt, storeCells]
    · rename_i hn0
      obtain ⟨h2, hst, he⟩ := Option.map_eq_some_iff.1 e3
      cases he
      rcases hd.slice_any with ⟨x, c', hx, rfl, _, _⟩ | ⟨rfl, rfl, a', rfl⟩
      · obtain ⟨hc, hfz, h1, hS, r'⟩ := r.stC hst hvl hx
        have hrun := run_storeCells_cells (P := P) x.blk (x.off + q) l' 0 w (by simpa using hc) (by simpa using hfz) h1
        refine ⟨_, r', Fr.setCells w _ hS _ _, fun ts ty hts => ?_⟩
        simp [Builtin.copy_, hts, run_underlying ht, hlen, runI hf, hfirst, goInt]
        rw [show (storeCells ⟨x.blk, x.off + q, none⟩ l').run P w = _ from hrun]
        rfl
      · simp at hn0
  · cases e3

theorem run_builtin {c : Call} {b : Builtin} (ho : o.op = .call c) (hb : c.callee = .builtin b) (ρ : Operand → Value) (w : World) :
    ∃ cs, (execOp ρ o).run P w = (builtin b c.argTypes o.type cs (c.args.map ρ)).run P w := by
  refine ⟨c.args.map (fun | .const _ => true | _ => false), ?_⟩
  simp only [execOp, ho, resolve, hb, invoke, Sem.run_bind, Sem.run_pure, Result.andThen_ok]
  rfl

theorem arr2 {α : Type} {a : Array α} {x y : α} (h : a.toList = [x, y]) : a = #[x, y] := by
  apply Array.ext'; simpa using h
theorem arr1 {α : Type} {a : Array α} {x : α} (h : a.toList = [x]) : a = #[x] := by
  apply Array.ext'; simpa using h

theorem lenV_rel {β : Beta} {v v' : Value} {n : Nat} (hv : VR β v v') (e : lenV v = some n) : ∃ a c, v' = .slice a n c := by
  unfold lenV at e
  split at e
  · rename_i b n' c
    cases e
    cases hv with
    | clit _ h => simp [lit] at h
    | snil => exact ⟨_, _, rfl⟩
    | slice _ _ _ _ c' x _ _ _ => exact ⟨_, _, rfl⟩
    | sempty _ _ _ => exact ⟨_, _, rfl⟩
  · cases e

theorem mapOf_rel {β : Beta} {S : Sc} {w : World} (r : RH E β h S w) {m m' : Value} (hm : VR β m m') {q : Nat} {es : List MapEntry} {clock : Nat} (e : mapOf h m = some (q, es, clock)) :
    m = .map (some q) ∧ h.get q = some (.map es clock) ∧ ∃ x es', β q = some x ∧ m' = .map (some x.blk) ∧ w.heap[x.blk]? = some (.map es' clock) ∧ EL β es es'.toList ∧ S x.blk := by
  unfold mapOf at e
  split at e
  · rename_i q'
    split at e
    · rename_i es' clock' hg
      cases e
      obtain ⟨x, hx, hS, es2, hw, hel⟩ := r.blk q _ hg (by simp)
      cases hm with
      | clit _ h => simp [lit] at h
      | map _ y hy => rw [hx] at hy; cases hy; exact ⟨rfl, hg, x, es2, hx, rfl, hw, hel, hS⟩
    · cases e
  · cases e

/-- the map of a block is turned -/
theorem RH.setMap {β : Beta} {S : Sc} {w : World} (r : RH E β h S w) {q : Nat} {es : List MapEntry} {clock : Nat} (hg : h.get q = some (.map es clock)) {x : BE} (hx : β q = some x)
    {es2 : List MapEntry} {es2' : Array MapEntry} {clock2 : Nat} (hel : EL β es2 es2'.toList) (w' : World) (hw : ∀ k, w'.heap[k]? = if k = x.blk then some (.map es2' clock2) else w.heap[k]?)
    (hos : w'.os = w.os) (htape : w'.tape = w.tape) (hout : w'.output = w.output) (hsize : w'.heap.size = w.heap.size) :
    RH E β (h.put q (some (.map es2 clock2))) S w' ∧ Fr S w w' := by
  obtain ⟨y, hy, hk⟩ := r.blk q _ hg (by simp)
  rw [hx] at hy; cases hy
  have hS : S x.blk := hk.1
  have hfr : Fr S w w' := ⟨hos, htape, hout, by omega, fun k hk => by rw [hw, if_neg (fun e => hk (by rw [e]; exact hS))]⟩
  refine ⟨⟨r.glob, by rw [hsize]; exact r.up, r.fresh, by rw [hsize]; exact r.lt, fun c k hc hh => ?_, fun c d k l y z hc hd hne hown hy hz => ?_, fun c hc => ?_, fun c hc => ?_⟩, hfr⟩
  · by_cases hcq : c = q
    · subst hcq
      rw [H.get_put_same _ _ _ (H.get_lt hg)] at hc
      cases hc
      exact ⟨x, hx, hS, es2', by rw [hw, if_pos rfl], hel⟩
    · rw [H.get_put_ne _ _ _ _ hcq] at hc
      obtain ⟨y, hy, hk⟩ := r.blk c k hc hh
      exact ⟨y, hy, hk.keep (Beta.le_refl β) (fun s => s) (by rw [hw, if_neg (r.disj q c _ k x y hg hc (Ne.symm hcq) rfl hx hy).symm])⟩
  · by_cases hcq : c = q
    · subst hcq
      rw [H.get_put_ne _ _ _ _ (Ne.symm hne)] at hd
      exact r.disj c d _ l y z hg hd hne rfl hy hz
    · rw [H.get_put_ne _ _ _ _ hcq] at hc
      by_cases hdq : d = q
      · subst hdq; exact r.disj c d k _ y z hc hg hne hown hy hz
      · rw [H.get_put_ne _ _ _ _ hdq] at hd
        exact r.disj c d k l y z hc hd hne hown hy hz
  · have h1 := r.hol c hc
    have hcq : c ≠ q := fun e => by subst e; rw [hg] at h1; cases h1.1
    exact ⟨by rw [H.get_put_ne _ _ _ _ hcq]; exact h1.1, h1.2⟩
  · have h1 := r.held c hc
    have hcq : c ≠ q := fun e => by subst e; rw [hg] at h1; cases h1
    rw [H.get_put_ne _ _ _ _ hcq]; exact h1

end Go.Arm
namespace Go.Arm
variable {R : Type} {E : Env} {P : Program} {C : CF} {L : LF} {o : Oper} {tm : List Value} {h : H} {K : Value → H → Option R} {res : R}

theorem veq1_eq {x y : Value} (e : veq1 x y = true) (hl : lit x = true) : y = x := by
  unfold veq1 at e
  split at e <;> simp_all [lit]

theorem veqL_eq : ∀ {l l' : List Value}, veqL l l' = true → (∀ v ∈ l, lit v = true) → l' = l
  | [], [], _, _ => rfl
  | [], _ :: _, e, _ => by simp [veqL] at e
  | _ :: _, [], e, _ => by simp [veqL] at e
  | x :: xs, y :: ys, e, hl => by
    simp only [veqL, Bool.and_eq_true] at e
    rw [veq1_eq e.1 (hl x (by simp)), veqL_eq e.2 (fun v hv => hl v (by simp [hv]))]

theorem litK_eq {k k2 : Value} (hl : litK k = true) (e : veq k k2 = true) : k2 = k := by
  unfold litK at hl
  split at hl
  · rename_i cs
    unfold veq at e
    split at e
    · rename_i a b h1
      have : a = cs := by cases h1; rfl
      subst this
      have := veqL_eq e (List.all_eq_true.1 hl)
      congr 1
      exact Array.ext' this
    · rename_i h1; cases h1
    · rename_i h1 h2 _
      unfold veq1 at e
      split at e <;> simp_all
  · rename_i h0
    have : veq k k2 = veq1 k k2 := by
      unfold veq
      split
      · exact absurd rfl (h0 _)
      · simp [lit] at hl
      · rfl
    rw [this] at e
    exact veq1_eq e hl

theorem VR.litK_inv {β : Beta} {k k' : Value} (h : VR β k k') (hl : Arm.litK k = true) : k' = k := by
  unfold Arm.litK at hl
  split at hl
  · rename_i cs
    obtain ⟨a', rfl, hvl⟩ := h.agg_inv
    have := hvl.lits (List.all_eq_true.1 hl)
    congr 1
    exact Array.ext' this
  · exact h.lit_inv hl

theorem bytes_refl (s : ByteArray) : (s == s) = true := (Go.MapKept.bytes_beq s s).2 rfl

theorem sameBits_lit {v : Value} (hl : lit v = true) (n : Nat) : Instr.sameBits n v v = true := by
  cases v <;> simp_all [lit, Instr.sameBits, bytes_refl]

theorem sameBits_litK {v : Value} (hl : litK v = true) (n : Nat) : Instr.sameBits (n + 1) v v = true := by
  unfold litK at hl
  split at hl
  · rename_i cs
    simp only [Instr.sameBits, beq_self_eq_true, Bool.true_and, List.all_eq_true]
    intro p hp
    rw [List.all_eq_true] at hl
    obtain ⟨x, y⟩ := p
    have h1 := List.of_mem_zip hp
    have : x = y := by
      obtain ⟨i, hi⟩ := List.getElem?_of_mem hp
      rw [List.getElem?_zip_eq_some] at hi
      simp only at hi
      exact Option.some.inj (hi.1.symm.trans hi.2)
    subst this
    exact sameBits_lit (hl x h1.1) n
  · exact sameBits_lit hl _

theorem run_forIn_list {α : Type} (l : List α) (f : α → PUnit → Sem (ForInStep PUnit)) (w : World) (hf : ∀ x ∈ l, (f x ⟨⟩).run P w = .ok (.yield ⟨⟩) w) : (forIn l PUnit.unit f).run P w = .ok ⟨⟩ w := by
  induction l with
  | nil => simp
  | cons x l ih =>
    simp only [List.forIn_cons, Sem.run_bind, hf x (by simp), Result.andThen_ok]
    exact ih (fun y hy => hf y (by simp [hy]))

/-- a value that may be compared is one that may be hashed -/
theorem run_checkKey (hE : EnvOK P E) (em : Bool) : ∀ (f t : Nat) (x y : Value) (b : Bool), eqT E f t x y = some b → ∀ (β : Beta) (x' : Value), VR β x x' → ∀ d, f ≤ d → ∀ w, (Instr.checkKey em d t x').run P w = .ok () w := by
  intro f
  induction f with
  | zero => intro t x y b e; simp [eqT] at e
  | succ f ih =>
    intro t x y b e β x' hx d hd w
    obtain ⟨d, rfl⟩ : ∃ d', d = d' + 1 := ⟨d - 1, by omega⟩
    simp only [eqT] at e
    split at e
    case h_2 => cases e
    rename_i i hi
    have hok := hE.tys t i hi
    have hu := hok.und
    split at e
    · rename_i a c hty
      rw [hty] at hu; simp [Instr.checkKey, run_underlying (show P.underlying t = some _ from hu)]
    · rename_i k0 k a k' c hty
      rw [hty] at hu; simp [Instr.checkKey, run_underlying (show P.underlying t = some _ from hu)]
    · rename_i k a k' c hty
      rw [hty] at hu; simp [Instr.checkKey, run_underlying (show P.underlying t = some _ from hu)]
    · rename_i k a a2 k' c c2 hty
      rw [hty] at hu; simp [Instr.checkKey, run_underlying (show P.underlying t = some _ from hu)]
    · rename_i a c hty
      rw [hty] at hu; simp [Instr.checkKey, run_underlying (show P.underlying t = some _ from hu)]
    · rename_i fs xs ys hty
      rw [hty] at hu
      obtain ⟨fl, hfu, hfl⟩ := hu
      split at e
      case isFalse => cases e
      obtain ⟨xs', rfl, hxv⟩ := hx.agg_inv
      simp only [Instr.checkKey, Sem.run_bind, run_underlying hfu, Result.andThen_ok]
      rw [← Array.forIn_toList]
      have hgo : ∀ (gs : List Field) (b : Bool), (gs.map fun f => (f.offset, f.type)).foldr (fun p acc => ((partT E p.2 p.1 (.agg xs)).bind fun u => (partT E p.2 p.1 (.agg ys)).bind fun v => eqT E f p.2 u v).bind fun b => acc.map fun c => b && c) (some true) = some b →
          ∀ g ∈ gs, ∃ u', (part g.type xs' g.offset).run P w = .ok u' w ∧ (Instr.checkKey em d g.type u').run P w = .ok () w := by
        intro gs
        induction gs with
        | nil => intro b _ g hg; cases hg
        | cons g0 gs ihg =>
          intro b e g hg
          obtain ⟨b1, b2, h1, h2, rfl⟩ := foldr_and (g := fun (p : Nat × Nat) => ((partT E p.2 p.1 (.agg xs)).bind fun u => (partT E p.2 p.1 (.agg ys)).bind fun v => eqT E f p.2 u v)) e
          rcases List.mem_cons.1 hg with rfl | hg
          · obtain ⟨u, hu1, h1⟩ := Option.bind_eq_some_iff.1 h1
            obtain ⟨v, hv1, h1⟩ := Option.bind_eq_some_iff.1 h1
            obtain ⟨u', hur, hup⟩ := run_partT hE hxv hu1
            have hq := ih _ u v b1 h1 β u' hur d (by omega) w
            exact ⟨u', hup w, hq⟩
          · exact ihg b2 h2 g hg
      subst hfl
      have hall := hgo fl.toList b e
      rw [run_forIn_list fl.toList _ w fun g hg => ?_]
      · rfl
      obtain ⟨u', h1, h2⟩ := hall g hg
      split
      · simp only [Sem.run_bind, h1, Result.andThen_ok, h2, Sem.run_pure]
      · simp
    · rename_i n et xs ys hty
      rw [hty] at hu
      split at e
      case isFalse => cases e
      split at e
      case h_2 => cases e
      rename_i heq j hj
      obtain ⟨xs', rfl, hxv⟩ := hx.agg_inv
      obtain ⟨g, hg, hgs, _⟩ := (hE.tys et j hj).inf
      simp only [Instr.checkKey, Sem.run_bind, run_underlying (show P.underlying t = some (.array n et) from hu), Result.andThen_ok]
      have hgo : ∀ (is : List Nat) (b : Bool), is.foldr (fun k acc => ((partT E et (k * j.size) (.agg xs)).bind fun u => (partT E et (k * j.size) (.agg ys)).bind fun v => eqT E f et u v).bind fun b => acc.map fun c => b && c) (some true) = some b →
          ∀ k ∈ is, ∃ u', (part et xs' (k * j.size)).run P w = .ok u' w ∧ (Instr.checkKey em d et u').run P w = .ok () w := by
        intro is
        induction is with
        | nil => intro b _ k hk; cases hk
        | cons k0 is ihk =>
          intro b e k hk
          obtain ⟨b1, b2, h1, h2, rfl⟩ := foldr_and (g := fun k => ((partT E et (k * j.size) (.agg xs)).bind fun u => (partT E et (k * j.size) (.agg ys)).bind fun v => eqT E f et u v)) e
          rcases List.mem_cons.1 hk with rfl | hk
          · obtain ⟨u, hu1, h1⟩ := Option.bind_eq_some_iff.1 h1
            obtain ⟨v, hv1, h1⟩ := Option.bind_eq_some_iff.1 h1
            obtain ⟨u', hur, hup⟩ := run_partT hE hxv hu1
            exact ⟨u', hup w, ih _ u v b1 h1 β u' hur d (by omega) w⟩
          · exact ihk b2 h2 k hk
      have hall := hgo (List.range n) b e
      rw [Std.Legacy.Range.forIn_eq_forIn_range']
      rw [run_forIn_list _ _ w fun k hk => ?_]
      · rfl
      obtain ⟨u', h1, h2⟩ := hall k (by simpa [List.mem_range, List.mem_range'] using hk)
      simp only [Sem.run_bind, runI hg, hgs, h1, Result.andThen_ok, h2, Sem.run_pure]
    · cases e

theorem toList_beq (a b : ByteArray) : (a == b) = (a.toList == b.toList) := by
  have h1 := Go.MapKept.bytes_beq a b
  have h2 := Go.Lib.bytes_beq_iff a b
  rw [Bool.eq_iff_iff, h1, h2]

theorem sameNow_run {kt : Nat} {d : TypeDesc} (hd : P.underlying kt = some d) {k e : Value} {b : Bool} (h : Instr.sameNow d k e = some b) (w : World) : (Op.equal kt k e).run P w = .ok b w := by
  unfold Instr.sameNow at h
  split at h
  · split at h
    · rename_i hk; subst hk; cases h
      exact run_equalIn_int w 9999 kt _ _ _ _ hd
    · cases h
  · cases h
    rw [toList_beq]
    exact run_equalIn_string w 9999 kt _ _ hd
  · cases h
    exact run_equalIn_bool' w 9999 kt _ _ hd
  · cases h

theorem findNow_run {kt : Nat} {d : TypeDesc} (hd : P.underlying kt = some d) {k : Value} (w : World) : ∀ (es : List MapEntry) (i : Nat) (q : Option (Nat × Value)), Instr.findNow d k es i = some q → (Instr.findAsking kt k es i).run P w = .ok q w := by
  intro es
  induction es with
  | nil => intro i q h; simp only [Instr.findNow] at h; cases h; rfl
  | cons e es ih =>
    intro i q h
    simp only [Instr.findNow] at h
    split at h
    · rename_i hs
      cases h
      simp [Instr.findAsking, sameNow_run hd hs w]
    · rename_i hs
      simp only [Instr.findAsking, Sem.run_bind, sameNow_run hd hs w, Result.andThen_ok, Bool.false_eq_true, if_false]
      exact ih _ _ h
    · cases h

theorem findKey_run {kt : Nat} {d : TypeDesc} (hd : P.underlying kt = some d) {k : Value} {es : List MapEntry} {q : Option (Nat × Value)} (w : World) (h : (Instr.findAsking kt k es).run P w = .ok q w) : (Instr.findKey kt k es).run P w = .ok q w := by
  simp only [Instr.findKey, Sem.run_bind, run_underlying hd, Result.andThen_ok]
  split
  · rename_i r hr
    have := findNow_run hd w es 0 r hr
    rw [h] at this
    cases this
    rfl
  · exact h

theorem EL.tail {β : Beta} {e e' : MapEntry} {l l' : List MapEntry} (h : EL β (e :: l) (e' :: l')) : EL β l l' :=
  ⟨by simpa using h.1, fun i a b ha hb => h.2 (i + 1) a b (by simpa using ha) (by simpa using hb)⟩

theorem findE_run (hE : EnvOK P E) {kt : Nat} {k k' : Value} {β : Beta} (hk : VR β k k') (w : World) : ∀ (es es' : List MapEntry) (i : Nat) (r : Option (Nat × MapEntry)), findE E kt k es i = some r → EL β es es' →
    (r = none ∧ (Instr.findAsking kt k' es' i).run P w = .ok none w) ∨
    (∃ n e e', r = some (i + n, e) ∧ es[n]? = some e ∧ es'[n]? = some e' ∧ (Instr.findAsking kt k' es' i).run P w = .ok (some (i + n, e'.val)) w ∧ eqT E 8 kt k e.key = some true) := by
  intro es
  induction es with
  | nil =>
    intro es' i r h hel
    cases h
    have : es' = [] := List.length_eq_zero_iff.1 (by simpa using hel.1.symm)
    subst this
    exact .inl ⟨rfl, rfl⟩
  | cons e es ih =>
    intro es' i r h hel
    cases es' with
    | nil => simp [EL] at hel
    | cons e' es' =>
      obtain ⟨hk1, hk2, hk3⟩ := hel.2 0 e e' rfl rfl
      simp only [findE] at h
      obtain ⟨b, hb, h⟩ := Option.bind_eq_some_iff.1 h
      have hq := eqT_equal hE hb hk hk1 w
      cases b with
      | true =>
        simp only [if_true] at h
        cases h
        exact .inr ⟨0, e, e', rfl, rfl, rfl, by simp [Instr.findAsking, hq], hb⟩
      | false =>
        simp only [Bool.false_eq_true, if_false] at h
        rcases ih es' (i + 1) r h hel.tail with ⟨rfl, hr⟩ | ⟨n, a, a', rfl, h1, h2, h3, h4⟩
        · exact .inl ⟨rfl, by simp [Instr.findAsking, hq, hr]⟩
        · refine .inr ⟨n + 1, a, a', by rw [show i + (n + 1) = i + 1 + n by omega], by simpa using h1, by simpa using h2, ?_, h4⟩
          simp only [Instr.findAsking, Sem.run_bind, hq, Result.andThen_ok, Bool.false_eq_true, if_false, h3]
          rw [show i + (n + 1) = i + 1 + n by omega]

theorem keyV_some {kt : Nat} {k : Value} (hk : keyV E kt k = true) : litK k = true ∧ ∃ b, eqT E 8 kt k k = some b := by
  unfold keyV at hk
  rw [Bool.and_eq_true] at hk
  exact ⟨hk.1, Option.isSome_iff_exists.1 hk.2⟩

theorem und_some {t : Nat} {y : Ty} (hu : UndOK P t y) : ∃ d, P.underlying t = some d := by
  cases y with
  | other => exact hu.elim
  | struct fs => obtain ⟨a, h1, _⟩ := hu; exact ⟨_, h1⟩
  | ptr => obtain ⟨a, h1⟩ := hu; exact ⟨_, h1⟩
  | func => obtain ⟨a, b, c, h1⟩ := hu; exact ⟨_, h1⟩
  | iface => obtain ⟨a, h1⟩ := hu; exact ⟨_, h1⟩
  | _ => exact ⟨_, hu⟩

theorem eqT_und (hE : EnvOK P E) {f t : Nat} {x y : Value} {b : Bool} (e : eqT E f t x y = some b) : ∃ d, P.underlying t = some d := by
  cases f with
  | zero => simp [eqT] at e
  | succ f =>
    simp only [eqT] at e
    split at e
    · rename_i i hi; exact und_some (hE.tys t i hi).und
    · cases e

theorem zeroV_rel (hE : EnvOK P E) {e : Nat} {i : TI} (hi : E.tys.get e = some i) (β : Beta) (hc : cellT i.ty = true ∨ aggT i.ty = true) (w : World) : ∃ z, (zeroValue e).run P w = .ok z w ∧ VR β (zeroV i) z := by
  have hok := hE.tys e i hi
  obtain ⟨f, hf, _⟩ := hok.inf
  obtain ⟨z, hz, hzz⟩ := hok.zv hc f hf
  refine ⟨z, by simp [zeroValue, typeInfo, hf, hz], ?_⟩
  rcases hzz with h | h
  · rw [h]; exact .junk _
  · rw [h]
    unfold zeroV
    split
    · exact (VL.refl_closed β hok.cl).agg
    · exact (VL.refl_closed β hok.cl).agg
    · rename_i v hzl _ _
      exact .closed β (hok.cl _ (by rw [hzl]; simp))
    · exact .junk _

end Go.Arm
namespace Go.Arm
variable {R : Type} {E : Env} {P : Program} {C : CF} {L : LF} {o : Oper} {tm : List Value} {h : H} {K : Value → H → Option R} {res : R}

theorem mnil_inv {β : Beta} {v' : Value} (hv : VR β (.map none) v') : v' = .map none := by
  cases hv with
  | clit _ h => simp [Arm.lit] at h
  | mnil => rfl

/-- how a type's kind tells its zero value -/
theorem src1_ty {e : Nat} {v : Value} {J : Value → Option R} (hk : src1 E e v J = some res) : ∃ i, E.tys.get e = some i := by
  unfold src1 at hk
  split at hk
  · rename_i i hi; exact ⟨i, hi⟩
  · cases hk

theorem lookM_run (hE : EnvOK P E) {t kt e : Nat} {i : TI} (hu : P.underlying t = some (.map kt e)) (hi : E.tys.get e = some i) {m k : Value} {q : Option Value} (hl : lookM E kt h m k = some q) (hc : cellT i.ty = true ∨ aggT i.ty = true)
    {β : Beta} {S : Sc} {w : World} (r : RH E β h S w) {m' k' : Value} (hm : VR β m m') (hk : VR β k k') :
    ∃ v', VR β (q.getD (zeroV i)) v' ∧ ∀ ok, (Instr.lookup t m' k' ok).run P w = .ok (if ok then .tuple #[v', .bool q.isSome] else v') w := by
  unfold lookM at hl
  split at hl
  case isFalse => cases hl
  rename_i hkv
  obtain ⟨hlit, b, hb⟩ := keyV_some hkv
  obtain ⟨d, hd⟩ := eqT_und hE hb
  have hck := fun em => run_checkKey hE em 8 kt k k b hb β k' hk 10000 (by decide) w
  split at hl
  · cases hl
    obtain ⟨z, hz, hzr⟩ := zeroV_rel hE hi β hc w
    refine ⟨z, hzr, fun ok => ?_⟩
    rw [mnil_inv hm]
    have hf := findKey_run (P := P) hd (k := k') (es := []) (q := none) w rfl
    cases ok <;> simp [Instr.lookup, run_underlying hu, hck, hf, hz]
  · obtain ⟨⟨p, es, clock⟩, hp, hl⟩ := Option.bind_eq_some_iff.1 hl
    obtain ⟨rr, hr, hq⟩ := Option.map_eq_some_iff.1 hl
    subst hq
    obtain ⟨rfl, hg, x, es', hx, rfl, hw, hel, hS⟩ := mapOf_rel r hm hp
    rcases findE_run hE hk w es es'.toList 0 rr hr hel with ⟨rfl, hrun⟩ | ⟨n, a, a', rfl, h1, h2, h3, _⟩
    · obtain ⟨z, hz, hzr⟩ := zeroV_rel hE hi β hc w
      refine ⟨z, hzr, fun ok => ?_⟩
      have hf := findKey_run hd w hrun
      cases ok <;> simp [Instr.lookup, run_underlying hu, MapKept.run_getObj_map hw, hck, hf, hz]
    · refine ⟨a'.val, (hel.2 n a a' h1 h2).2.1, fun ok => ?_⟩
      have hf := findKey_run hd w h3
      cases ok <;> simp [Instr.lookup, run_underlying hu, MapKept.run_getObj_map hw, hck, hf]

theorem run_stays {old k : Value} (h : old = k) (hl : litK k = true) (w : World) : (Instr.keyThatStays old k).run P w = .ok k w := by
  subst h
  simp [Instr.keyThatStays, sameBits_litK hl 9999]

theorem EL.push {β : Beta} {es es' : List MapEntry} (h : EL β es es') {e e' : MapEntry} (hk : VR β e.key e'.key) (hv : VR β e.val e'.val) (hb : e.born = e'.born) : EL β (es ++ [e]) (es' ++ [e']) := by
  refine ⟨by simp [h.1], fun i a a' ha ha' => ?_⟩
  by_cases hi : i < es.length
  · rw [List.getElem?_append_left hi] at ha
    rw [List.getElem?_append_left (by rw [← h.1]; exact hi)] at ha'
    exact h.2 i a a' ha ha'
  · rw [List.getElem?_append_right (by omega)] at ha
    rw [List.getElem?_append_right (by rw [← h.1]; omega)] at ha'
    rw [← h.1] at ha'
    have : i - es.length = 0 := by
      have := (List.getElem?_eq_some_iff.1 ha).1
      simp at this
      omega
    rw [this] at ha ha'
    simp at ha ha'
    subst ha ha'
    exact ⟨hk, hv, hb⟩

theorem EL.modify {β : Beta} {es es' : List MapEntry} (h : EL β es es') (n : Nat) {f f' : MapEntry → MapEntry}
    (hf : ∀ e e', VR β e.key e'.key → VR β e.val e'.val → e.born = e'.born → VR β (f e).key (f' e').key ∧ VR β (f e).val (f' e').val ∧ (f e).born = (f' e').born) : EL β (es.modify n f) (es'.modify n f') := by
  refine ⟨by simp [h.1], fun i a a' ha ha' => ?_⟩
  rw [List.getElem?_modify] at ha ha'
  cases h1 : es[i]? with
  | none => simp [h1] at ha
  | some e =>
    cases h2 : es'[i]? with
    | none => simp [h2] at ha'
    | some e' =>
      rw [h1] at ha
      rw [h2] at ha'
      obtain ⟨q1, q2, q3⟩ := h.2 i e e' h1 h2
      by_cases hn : n = i
      · simp only [hn, if_true, Option.map_some] at ha ha'
        cases ha; cases ha'
        exact hf e e' q1 q2 q3
      · simp only [hn, if_false, Option.map_some, id] at ha ha'
        cases ha; cases ha'
        exact ⟨q1, q2, q3⟩

theorem heap_put {w : World} {b : Nat} {o o' : Obj} (hb : w.heap[b]? = some o) (k : Nat) : ({ w with heap := w.heap.setIfInBounds b o' } : World).heap[k]? = if k = b then some o' else w.heap[k]? := by
  have hlt : b < w.heap.size := (Array.getElem?_eq_some_iff.1 hb).1
  show (w.heap.setIfInBounds b o')[k]? = _
  by_cases hk : k = b
  · subst hk; simp [hlt]
  · simp [hk, Ne.symm hk]

theorem setM_run (hE : EnvOK P E) {t kt e : Nat} (hu : P.underlying t = some (.map kt e)) {m k v : Value} {h' : H} (hl : setM E kt h m k v = some h')
    {β : Beta} {S : Sc} {w : World} (r : RH E β h S w) {m' k' v' : Value} (hm : VR β m m') (hk : VR β k k') (hv : VR β v v') :
    ∃ w', RH E β h' S w' ∧ Fr S w w' ∧ (Instr.mapUpdate t m' k' v').run P w = .ok () w' := by
  unfold setM at hl
  split at hl
  case isFalse => cases hl
  rename_i hkv
  obtain ⟨hlit, b, hb⟩ := keyV_some hkv
  obtain ⟨d, hd⟩ := eqT_und hE hb
  have hck := fun em => run_checkKey hE em 8 kt k k b hb β k' hk 10000 (by decide) w
  have hkk := hk.litK_inv hlit
  obtain ⟨⟨p, es, clock⟩, hp, hl⟩ := Option.bind_eq_some_iff.1 hl
  obtain ⟨rr, hr, hl⟩ := Option.bind_eq_some_iff.1 hl
  obtain ⟨rfl, hg, x, es', hx, rfl, hw, hel, hS⟩ := mapOf_rel r hm hp
  rcases findE_run hE hk w es es'.toList 0 rr hr hel with ⟨rfl, hrun⟩ | ⟨n, a, a', rfl, h1, h2, h3, _⟩
  · cases hl
    have hf := findKey_run hd w hrun
    obtain ⟨r', hfr⟩ := r.setMap hg hx (es2 := es ++ [{ key := k, val := v, born := clock }]) (es2' := es'.push { key := k', val := v', born := clock }) (clock2 := clock + 1)
      (by rw [Array.toList_push]; exact hel.push hk hv rfl) { w with heap := w.heap.setIfInBounds x.blk (.map (es'.push { key := k', val := v', born := clock }) (clock + 1)) } (heap_put hw) rfl rfl rfl (by simp)
    exact ⟨_, r', hfr, by simp [Instr.mapUpdate, run_underlying hu, MapKept.run_getObj_map hw, hck, hf, MapKept.run_setObj_map _ hw]⟩
  · simp only [Nat.zero_add] at hl h3
    split at hl
    case isFalse => cases hl
    rename_i hve
    cases hl
    have hke := litK_eq hlit hve
    have hf := findKey_run hd w h3
    have ha' : es'[n]? = some a' := by simpa using h2
    have hold : a'.key = k' := by
      have h4 := (hel.2 n a a' h1 h2).1
      rw [hke] at h4
      rw [h4.litK_inv hlit, hkk]
    obtain ⟨r', hfr⟩ := r.setMap hg hx (es2 := es.modify n fun e => { e with key := k, val := v }) (es2' := es'.modify n fun e => { e with key := k', val := v' }) (clock2 := clock)
      (by rw [Array.toList_modify]; exact hel.modify n fun e e' q1 q2 q3 => ⟨hk, hv, q3⟩) { w with heap := w.heap.setIfInBounds x.blk (.map (es'.modify n fun e => { e with key := k', val := v' }) clock) } (heap_put hw) rfl rfl rfl (by simp)
    have hst := run_stays (P := P) hold (by rw [hkk]; exact hlit) w
    exact ⟨_, r', hfr, by simp [Instr.mapUpdate, run_underlying hu, MapKept.run_getObj_map hw, hck, hf, ha', hst, MapKept.run_setObj_map _ hw]⟩

theorem entM_run (hE : EnvOK P E) {t kt e : Nat} {i : TI} (hu : P.underlying t = some (.map kt e)) (hi : E.tys.get e = some i) (hc : cellT i.ty = true ∨ aggT i.ty = true) {m k v : Value} {s : Int} {h' : H} (hl : entM E kt h m k (zeroV i) = some (v, s, h'))
    {β : Beta} {S : Sc} {w : World} (r : RH E β h S w) {m' k' : Value} (hm : VR β m m') (hk : VR β k k') :
    ∃ w' v', RH E β h' S w' ∧ Fr S w w' ∧ VR β v v' ∧ (Instr.mapEntry t m' k').run P w = .ok (.tuple #[v', .int .i64 s]) w' := by
  unfold entM at hl
  split at hl
  case isFalse => cases hl
  rename_i hkv
  obtain ⟨hlit, b, hb⟩ := keyV_some hkv
  obtain ⟨d, hd⟩ := eqT_und hE hb
  have hck := fun em => run_checkKey hE em 8 kt k k b hb β k' hk 10000 (by decide) w
  have hkk := hk.litK_inv hlit
  obtain ⟨⟨p, es, clock⟩, hp, hl⟩ := Option.bind_eq_some_iff.1 hl
  obtain ⟨rr, hr, hl⟩ := Option.bind_eq_some_iff.1 hl
  obtain ⟨rfl, hg, x, es', hx, rfl, hw, hel, hS⟩ := mapOf_rel r hm hp
  rcases findE_run hE hk w es es'.toList 0 rr hr hel with ⟨rfl, hrun⟩ | ⟨n, a, a', rfl, h1, h2, h3, _⟩
  · cases hl
    obtain ⟨z, hz, hzr⟩ := zeroV_rel hE hi β hc w
    have hf := findKey_run hd w hrun
    obtain ⟨r', hfr⟩ := r.setMap hg hx (es2 := es ++ [{ key := k, val := zeroV i, born := clock }]) (es2' := es'.push { key := k', val := z, born := clock }) (clock2 := clock + 1)
      (by rw [Array.toList_push]; exact hel.push hk hzr rfl) { w with heap := w.heap.setIfInBounds x.blk (.map (es'.push { key := k', val := z, born := clock }) (clock + 1)) } (heap_put hw) rfl rfl rfl (by simp)
    exact ⟨_, z, r', hfr, hzr, by simp [Instr.mapEntry, run_underlying hu, MapKept.run_getObj_map hw, hck, hf, hz, MapKept.run_setObj_map _ hw, goInt]⟩
  · simp only [Nat.zero_add] at hl h3
    split at hl
    case isFalse => cases hl
    rename_i hve
    cases hl
    have hke := litK_eq hlit hve
    have hf := findKey_run hd w h3
    have ha' : es'[n]? = some a' := by simpa using h2
    obtain ⟨q1, q2, q3⟩ := hel.2 n a a' h1 h2
    have hold : a'.key = k' := by
      rw [hke] at q1
      rw [q1.litK_inv hlit, hkk]
    obtain ⟨r', hfr⟩ := r.setMap hg hx (es2 := es.modify n fun e => { e with key := k }) (es2' := es'.modify n fun e => { e with key := k' }) (clock2 := clock)
      (by rw [Array.toList_modify]; exact hel.modify n fun e e' q1 q2 q3 => ⟨hk, q2, q3⟩) { w with heap := w.heap.setIfInBounds x.blk (.map (es'.modify n fun e => { e with key := k' }) clock) } (heap_put hw) rfl rfl rfl (by simp)
    have hst := run_stays (P := P) hold (by rw [hkk]; exact hlit) w
    exact ⟨_, a'.val, r', hfr, q2, by simp [Instr.mapEntry, run_underlying hu, MapKept.run_getObj_map hw, hck, hf, ha', hst, MapKept.run_setObj_map _ hw, goInt, q3]⟩

theorem EL.findIdx {β : Beta} {es es' : List MapEntry} (h : EL β es es') (s : Int) : es'.findIdx? (fun e => (e.born : Int) == s) = es.findIdx? (fun e => (e.born : Int) == s) := by
  induction es generalizing es' with
  | nil =>
    have : es' = [] := List.length_eq_zero_iff.1 (by simpa using h.1.symm)
    subst this; rfl
  | cons e es ih =>
    cases es' with
    | nil => simp [EL] at h
    | cons e' es' =>
      have hb := (h.2 0 e e' rfl rfl).2.2
      simp only [List.findIdx?_cons, ← hb, ih h.tail]

theorem entSt_run {m v : Value} {s : Int} {h' : H} {t : Nat} (hl : entSt h m s v = some h')
    {β : Beta} {S : Sc} {w : World} (r : RH E β h S w) {m' v' : Value} (hm : VR β m m') (hv : VR β v v') (k : IntKind) :
    ∃ w', RH E β h' S w' ∧ Fr S w w' ∧ (Instr.entryStore t m' (.int k s) v').run P w = .ok () w' := by
  unfold entSt at hl
  obtain ⟨⟨p, es, clock⟩, hp, hl⟩ := Option.bind_eq_some_iff.1 hl
  obtain ⟨n, hn, rfl⟩ := Option.map_eq_some_iff.1 hl
  obtain ⟨rfl, hg, x, es', hx, rfl, hw, hel, hS⟩ := mapOf_rel r hm hp
  have hn' : es'.findIdx? (fun e => (e.born : Int) == s) = some n := by
    have h0 : es'.findIdx? (fun e => (e.born : Int) == s) = es'.toList.findIdx? (fun e => (e.born : Int) == s) := by
      cases es'; simp
    rw [h0, hel.findIdx]; exact hn
  obtain ⟨r', hfr⟩ := r.setMap hg hx (es2 := es.modify n fun e => { e with val := v }) (es2' := es'.modify n fun e => { e with val := v' }) (clock2 := clock)
    (by rw [Array.toList_modify]; exact hel.modify n fun e e' q1 q2 q3 => ⟨q1, hv, q3⟩) { w with heap := w.heap.setIfInBounds x.blk (.map (es'.modify n fun e => { e with val := v' }) clock) } (heap_put hw) rfl rfl rfl (by simp)
  exact ⟨_, r', hfr, by simp [Instr.entryStore, MapKept.run_getObj_map hw, asInt, run_asIntOf, hn', MapKept.run_setObj_map _ hw]⟩

theorem EL.erase {β : Beta} {es es' : List MapEntry} (h : EL β es es') (n : Nat) : EL β (es.eraseIdx n) (es'.eraseIdx n) := by
  refine ⟨by simp [List.length_eraseIdx, h.1], fun i a a' ha ha' => ?_⟩
  rw [List.getElem?_eraseIdx] at ha ha'
  split at ha
  · rename_i hi; rw [if_pos hi] at ha'; exact h.2 i a a' ha ha'
  · rename_i hi; rw [if_neg hi] at ha'; exact h.2 _ a a' ha ha'

theorem delM_run (hE : EnvOK P E) {t kt e : Nat} (hu : P.underlying t = some (.map kt e)) {m k : Value} {h' : H} (hl : delM E kt h m k = some h')
    {β : Beta} {S : Sc} {w : World} (r : RH E β h S w) {m' k' : Value} (hm : VR β m m') (hk : VR β k k') :
    ∃ w', RH E β h' S w' ∧ Fr S w w' ∧ ∀ (ts : Array TypeId) ty, ts[0]? = some t → (Builtin.delete_ ts ty #[m', k']).run P w = .ok (.tuple #[]) w' := by
  unfold delM at hl
  split at hl
  case isFalse => cases hl
  rename_i hkv
  obtain ⟨hlit, b, hb⟩ := keyV_some hkv
  obtain ⟨d, hd⟩ := eqT_und hE hb
  have hck := fun em => run_checkKey hE em 8 kt k k b hb β k' hk 10000 (by decide) w
  split at hl
  · cases hl
    rw [mnil_inv hm]
    exact ⟨w, r, Fr.refl S w, fun ts ty hts => by simp [Builtin.delete_, hts, run_underlying hu, hck]⟩
  · obtain ⟨⟨p, es, clock⟩, hp, hl⟩ := Option.bind_eq_some_iff.1 hl
    obtain ⟨rr, hr, hq⟩ := Option.map_eq_some_iff.1 hl
    obtain ⟨rfl, hg, x, es', hx, rfl, hw, hel, hS⟩ := mapOf_rel r hm hp
    rcases findE_run hE hk w es es'.toList 0 rr hr hel with ⟨rfl, hrun⟩ | ⟨n, a, a', rfl, h1, h2, h3, _⟩
    · subst hq
      have hf := findKey_run hd w hrun
      obtain ⟨r', hfr⟩ := r.setMap hg hx (es2 := es) (es2' := es') (clock2 := clock) hel { w with heap := w.heap.setIfInBounds x.blk (.map es' clock) } (heap_put hw) rfl rfl rfl (by simp)
      exact ⟨_, r', hfr, fun ts ty hts => by simp [Builtin.delete_, hts, run_underlying hu, MapKept.run_getObj_map hw, hck, hf, MapKept.run_setObj_map _ hw]⟩
    · simp only [Nat.zero_add] at hq h3
      subst hq
      have hf := findKey_run hd w h3
      have hlt : n < es'.size := by simpa using (List.getElem?_eq_some_iff.1 h2).1
      have her : (es'.eraseIdxIfInBounds n).toList = es'.toList.eraseIdx n := by
        unfold Array.eraseIdxIfInBounds
        rw [dif_pos hlt]
        simp
      obtain ⟨r', hfr⟩ := r.setMap hg hx (es2 := es.eraseIdx n) (es2' := es'.eraseIdxIfInBounds n) (clock2 := clock)
        (by rw [her]; exact hel.erase n) { w with heap := w.heap.setIfInBounds x.blk (.map (es'.eraseIdxIfInBounds n) clock) } (heap_put hw) rfl rfl rfl (by simp)
      exact ⟨_, r', hfr, fun ts ty hts => by simp [Builtin.delete_, hts, run_underlying hu, MapKept.run_getObj_map hw, hck, hf, MapKept.run_setObj_map _ hw]⟩

theorem clrM_run {t kt e : Nat} (hu : P.underlying t = some (.map kt e)) {m : Value} {h' : H} (hl : clrM h m = some h')
    {β : Beta} {S : Sc} {w : World} (r : RH E β h S w) {m' : Value} (hm : VR β m m') :
    ∃ w', RH E β h' S w' ∧ Fr S w w' ∧ ∀ (ts : Array TypeId) ty, ts[0]? = some t → (Builtin.clear_ ts ty #[m']).run P w = .ok (.tuple #[]) w' := by
  unfold clrM at hl
  split at hl
  · cases hl
    rw [mnil_inv hm]
    exact ⟨w, r, Fr.refl S w, fun ts ty hts => by simp [Builtin.clear_, hts, run_underlying hu]⟩
  · obtain ⟨⟨p, es, clock⟩, hp, hq⟩ := Option.map_eq_some_iff.1 hl
    subst hq
    obtain ⟨rfl, hg, x, es', hx, rfl, hw, hel, hS⟩ := mapOf_rel r hm hp
    obtain ⟨r', hfr⟩ := r.setMap hg hx (es2 := []) (es2' := #[]) (clock2 := clock) ⟨rfl, by simp⟩ { w with heap := w.heap.setIfInBounds x.blk (.map #[] clock) } (heap_put hw) rfl rfl rfl (by simp)
    exact ⟨_, r', hfr, fun ts ty hts => by simp [Builtin.clear_, hts, run_underlying hu, MapKept.run_getObj_map hw, MapKept.run_setObj_map _ hw]⟩

theorem lenM_run {m : Value} {n : Nat} (hl : lenM h m = some n) {β : Beta} {S : Sc} {w : World} (r : RH E β h S w) {m' : Value} (hm : VR β m m') {t kt e : Nat} (hu : P.underlying t = some (.map kt e)) :
    ∀ (ts : Array TypeId) ty, ts[0]? = some t → (Builtin.len_ ts ty #[m']).run P w = .ok (.int .i64 n) w := by
  intro ts ty hts
  unfold lenM at hl
  split at hl
  · cases hl
    rw [mnil_inv hm]
    simp [Builtin.len_, hts, run_underlying hu, goInt]
  · obtain ⟨⟨p, es, clock⟩, hp, hq⟩ := Option.map_eq_some_iff.1 hl
    subst hq
    obtain ⟨rfl, hg, x, es', hx, rfl, hw, hel, hS⟩ := mapOf_rel r hm hp
    have := hel.1
    simp at this
    simp [Builtin.len_, hts, run_underlying hu, goInt, MapKept.run_getObj_map hw, this]

end Go.Arm
