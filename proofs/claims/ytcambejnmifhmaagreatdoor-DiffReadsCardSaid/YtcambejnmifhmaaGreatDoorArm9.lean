/- Specs: what cells may be, when they are equal, on.
   Specs: columns.
   Specs: a table of one column is checked.
   Specs: the reader and the writer, for use.
   Specs: columns as bytes.
   Specs: columns of bytes.
   Specs: nulls.
   Specs: bits as bytes, and back. -/
import Derived.Test.YtcambejnmifhmaaGreatDoorArm8
namespace Go.Arm
open Go.Proofs

theorem order_self {b c : Nat} (h : Ieee.double.order b c ≠ none) : (Ieee.double.order b b == some .eq) = true := by
  unfold Ieee.Format.order at *
  cases hd : Ieee.double.read b with
  | nan s t => rw [hd] at h; exact absurd rfl h
  | infinity s => cases s <;> simp [Ieee.Datum.order]
  | number s m i => simp [Ieee.Datum.order]
theorem whole_of {f : Nat} {b : Nat} {h : H} {fn : Func} (hs : E.sums.get f = none) (hf : E.fns.get f = some fn)
    (he : ∀ C L, fnK E C L f fn [.float .f64 b] h = schema_whole C L [.float .f64 b] h) : Ret E f [.float .f64 b] h fun v h' => v = .bool (wholeB b) ∧ h' = h := by
  refine .of_fn hs hf he ?_
  simp only [schema_whole]
  simp only [rd, fop_geq, fop_leq]
  unfold wholeB
  cases h1 : (Ieee.double.order b cLo == some .gt || Ieee.double.order b cLo == some .eq) with
  | false =>
    simp only [rd, Bool.false_and]
    exact .ret ⟨rfl, rfl⟩
  | true =>
    cases h2 : (Ieee.double.order b cHi == some .lt || Ieee.double.order b cHi == some .eq) with
    | false =>
      simp only [rd, Bool.true_and, Bool.false_and]
      exact .ret ⟨rfl, rfl⟩
    | true =>
      have a1 : (Ieee.double.order b cLo == some .lt) = false := by
        revert h1; cases Ieee.double.order b cLo with
        | none => simp
        | some x => cases x <;> simp
      have a2 : (Ieee.double.order b cHi == some .gt) = false := by
        revert h2; cases Ieee.double.order b cHi with
        | none => simp
        | some x => cases x <;> simp
      have a3 : (Ieee.double.order b b == some .eq) = true := order_self (c := cLo) (by intro h0; rw [h0] at h1; simp at h1)
      obtain ⟨n, hn, _, _⟩ := f2i_reach a1 a2 a3
      simp only [rd, Bool.true_and, hn, fop_eql]
      exact .ret ⟨rfl, rfl⟩
theorem sWhole_spec (b : Nat) (h : H) : Ret E 82 [.float .f64 b] h fun v h' => v = .bool (wholeB b) ∧ h' = h := whole_of rfl rfl fun C L => schema_whole_eq C L _ h
theorem rWhole_spec (b : Nat) (h : H) : Ret E 70 [.float .f64 b] h fun v h' => v = .bool (wholeB b) ∧ h' = h := whole_of rfl rfl fun C L => armariumref06_whole_eq C L _ h
theorem dWhole_spec (b : Nat) (h : H) : Ret E 126 [.float .f64 b] h fun v h' => v = .bool (wholeB b) ∧ h' = h := whole_of rfl rfl fun C L => delta_whole_eq C L _ h

theorem k8_spec (c : Cel) (h : H) : Ret E 81 [celA c] h fun v h' => v = .bool (wholeB c.re && wholeB c.im) ∧ Kp None' h h' := by
  refine .of_fn rfl rfl (fun C L => schema_kinds_8_eq C L _ h) ?_
  simp only [schema_kinds_8]
  have g : ldV (h.new (.cells (celV c) 47 true false)) h.next (0 + 5) = some (.complex .f64 c.re c.im) := ldV_of (get_new_self _ _) rfl rfl
  simp only [rd, oneL_cel, g, realV]
  refine .seq (sWhole_spec _ _) fun q ⟨q1, q2⟩ => ?_
  simp only [rd, q1, q2, g, imagV]
  cases h1 : wholeB c.re with
  | false =>
    simp only [rd, Bool.false_and]
    exact .ret ⟨rfl, .new _ _⟩
  | true =>
    simp only [rd]
    refine .seq (Q1 := fun z => z = (wholeB c.im, h.new (.cells (celV c) 47 true false))) (.seq (sWhole_spec _ _) fun q ⟨q1, q2⟩ => ?_) fun z hz => ?_
    · simp only [rd, q1, q2]
      exact .ret rfl
    · rw [hz]
      exact .ret ⟨by simp, .new _ _⟩

/-! ## may a cell be of a column -/
structure Col where
  name : ByteArray
  kind : Int
  null : Bool
def colV (c : Col) : List Value := [.string c.name, .int .i64 c.kind, .bool c.null]
def colA (c : Col) : Value := .agg ⟨colV c⟩
theorem colV_len (c : Col) : (colV c).length = 3 := rfl
theorem colV_one (c : Col) : (colV c).all one = true := by simp [colV, one]
theorem oneL_col (c : Col) : oneL (colA c).cells.toList = some (colV c) := by rfl

def celEq (a b : Cel) : Bool := (a.null == b.null) && ((a.b == b.b) && ((a.i == b.i) && ((a.u == b.u) && ((seq a.s b.s) && ((feq .f64 a.re b.re && feq .f64 a.im b.im) && true)))))
theorem eqT_cel (a b : Cel) : eqT E 8 47 (celA a) (celA b) = some (celEq a b) := by kernel_rfl
/-- of its kind -/
def mayC (k : Int) (c : Cel) : Bool := if k = 5 then Lib.validD c.s.data.toList else if k = 6 then wholeB c.re && wholeB c.im else true
def mayD (col : Col) (x : Cel) : Bool := if x.null then col.null && celEq { x with null := false } zCel else mayC col.kind x && celEq (bareC col.kind x) zCel

def kfn (k : Int) (i : Nat) : Value := kindL.getD (k.toNat * 3 + i) .nilFunc

theorem callV_fn (C : CF) (L : LF) (n : Nat) (args : List Value) (h : H) : callV C L (fn n) args h = C n args h := by
  simp [callV]

theorem kmay_spec {k : Int} {c : Cel} {h : H} (hk : 1 ≤ k ∧ k ≤ 6) (ht : Tabs h) (hc : CelOK c) : W E (fun C L => callV C L (kfn k 0) [celA c] h) fun q => q.1 = .bool (mayC k c) ∧ Kp None' h q.2 := by
  have h2 : 2 ≤ h.next := by
    obtain ⟨t, t', _, h1⟩ := ht
    have := H.get_lt h1; omega
  have : k = 1 ∨ k = 2 ∨ k = 3 ∨ k = 4 ∨ k = 5 ∨ k = 6 := by omega
  rcases this with rfl | rfl | rfl | rfl | rfl | rfl
  · exact .congr (fun C L => callV_fn C L 71 _ h) (every_spec c h)
  · exact .congr (fun C L => callV_fn C L 71 _ h) (every_spec c h)
  · exact .congr (fun C L => callV_fn C L 71 _ h) (every_spec c h)
  · exact .congr (fun C L => callV_fn C L 71 _ h) (every_spec c h)
  · exact .congr (fun C L => callV_fn C L 80 _ h) (k7_spec c ht h2 hc)
  · exact .congr (fun C L => callV_fn C L 81 _ h) (k8_spec c h)
theorem kbare_spec {k : Int} {c : Cel} {h : H} (hk : 1 ≤ k ∧ k ≤ 6) : W E (fun C L => callV C L (kfn k 1) [celA c] h) fun q => q.1 = celA (bareC k c) ∧ Kp None' h q.2 := by
  have : k = 1 ∨ k = 2 ∨ k = 3 ∨ k = 4 ∨ k = 5 ∨ k = 6 := by omega
  rcases this with rfl | rfl | rfl | rfl | rfl | rfl
  · exact .congr (fun C L => callV_fn C L 72 _ h) (bare1 c h)
  · exact .congr (fun C L => callV_fn C L 74 _ h) (bare2 c h)
  · exact .congr (fun C L => callV_fn C L 76 _ h) (bare3 c h)
  · exact .congr (fun C L => callV_fn C L 78 _ h) (bare4 c h)
  · exact .congr (fun C L => callV_fn C L 78 _ h) (bare4 c h)
  · exact .congr (fun C L => callV_fn C L 83 _ h) (bare6 c h)
theorem kequ_spec {k : Int} {a b : Cel} {h : H} (hk : 1 ≤ k ∧ k ≤ 6) : W E (fun C L => callV C L (kfn k 2) [celA a, celA b] h) fun q => q.1 = .bool (equC k a b) ∧ Kp None' h q.2 := by
  have : k = 1 ∨ k = 2 ∨ k = 3 ∨ k = 4 ∨ k = 5 ∨ k = 6 := by omega
  rcases this with rfl | rfl | rfl | rfl | rfl | rfl
  · exact .congr (fun C L => callV_fn C L 73 _ h) (equ1 a b h)
  · exact .congr (fun C L => callV_fn C L 75 _ h) (equ2 a b h)
  · exact .congr (fun C L => callV_fn C L 77 _ h) (equ3 a b h)
  · exact .congr (fun C L => callV_fn C L 79 _ h) (equ4 a b h)
  · exact .congr (fun C L => callV_fn C L 79 _ h) (equ4 a b h)
  · exact .congr (fun C L => callV_fn C L 84 _ h) (equ6 a b h)

theorem kL_one : kindL.all one = true := by rfl
abbrev k3 (k : Int) : List Value := [kfn k 0, kfn k 1, kfn k 2]
theorem k3_one {k : Int} (hk : 1 ≤ k ∧ k ≤ 6) : oneL (Value.agg ⟨k3 k⟩).cells.toList = some (k3 k) := by
  have : k = 1 ∨ k = 2 ∨ k = 3 ∨ k = 4 ∨ k = 5 ∨ k = 6 := by omega
  rcases this with rfl | rfl | rfl | rfl | rfl | rfl <;> rfl
theorem kfn_one {k : Int} (hk : 1 ≤ k ∧ k ≤ 6) (i : Nat) (hi : i < 3) : one (kfn k i) = true := by
  have : k = 1 ∨ k = 2 ∨ k = 3 ∨ k = 4 ∨ k = 5 ∨ k = 6 := by omega
  have : i = 0 ∨ i = 1 ∨ i = 2 := by omega
  rcases this with rfl | rfl | rfl <;> rcases ‹k = 1 ∨ _› with rfl | rfl | rfl | rfl | rfl | rfl <;> rfl

theorem may_spec {col : Col} {c : Cel} {h : H} (hk : 1 ≤ col.kind ∧ col.kind ≤ 6) (ht : Tabs h) (hc : CelOK c) :
    Ret E 51 [colA col, .agg ⟨k3 col.kind⟩, celA c] h fun v h' => v = .bool (mayD col c) ∧ Kp None' h h' := by
  refine .of_fn rfl rfl (fun C L => schema_may_eq C L _ h) ?_
  obtain ⟨h1, hh1⟩ : ∃ h1, h1 = h.new (.cells (colV col) 55 true false) := ⟨_, rfl⟩
  obtain ⟨h2, hh2⟩ : ∃ h2, h2 = h1.new (.cells (k3 col.kind) 110 true false) := ⟨_, rfl⟩
  obtain ⟨h3, hh3⟩ : ∃ h3, h3 = h2.new (.cells (celV c) 47 true false) := ⟨_, rfl⟩
  have n1 : h1.next = h.next + 1 := by rw [hh1]; rfl
  have n2 : h2.next = h.next + 2 := by rw [hh2, H.next_new, n1]
  have kk : Kp None' h h3 := by rw [hh3, hh2, hh1]; exact ((Kp.new _ _).thenNew _).thenNew _
  have g0 : h3.get h.next = some (.cells (colV col) 55 true false) := by rw [hh3, hh2]; exact H.get_new_old (H.get_new_old (by rw [hh1]; exact get_new_self _ _))
  have g1 : h3.get (h.next + 1) = some (.cells (k3 col.kind) 110 true false) := by rw [hh3]; exact H.get_new_old (by rw [hh2, ← n1]; exact get_new_self _ _)
  have g2 : h3.get (h.next + 2) = some (.cells (celV c) 47 true false) := by rw [hh3, ← n2]; exact get_new_self _ _
  have ht3 : Tabs h3 := ht.kp kk (fun h => h) (fun h => h)
  have l0 : ldB h3 (h.next + 2) (0 + 0) = some c.null := ldB_of g2 rfl
  simp only [schema_may]
  simp only [rd, oneL_col, k3_one hk, oneL_cel, ← hh1, ← hh2, ← hh3, n1, n2, l0]
  unfold mayD
  cases hn : c.null with
  | true =>
    have e1 : stV 1 h3 (h.next + 2) (0 + 0) (.bool false) = some (h3.put (h.next + 2) (some (.cells (celV { c with null := false }) 47 true false))) := stV1_of g2 (by rw [celV_len]; omega) rfl
    have hlt := H.get_lt g2
    obtain ⟨h4, hh4⟩ : ∃ h4, h4 = h3.put (h.next + 2) (some (.cells (celV { c with null := false }) 47 true false)) := ⟨_, rfl⟩
    have q0 : h4.get h.next = some (.cells (colV col) 55 true false) := by rw [hh4, H.get_put_ne _ _ _ _ (by omega)]; exact g0
    have q2 : h4.get (h.next + 2) = some (.cells (celV { c with null := false }) 47 true false) := by rw [hh4]; exact H.get_put_same _ _ _ hlt
    have l2 : ldB h4 h.next (0 + 2) = some col.null := ldB_of q0 rfl
    have k4 : Kp None' h h4 := by rw [hh4]; exact kk.putNew _ (by omega)
    simp only [rd, e1, ← hh4, l2, cel_ld q2, bldT_47, eqT_cel, if_true]
    cases col.null with
    | true => simp only [rd]; exact .ret ⟨by rw [Bool.true_and], k4⟩
    | false => simp only [rd]; exact .ret ⟨by rw [Bool.false_and], k4⟩
  | false =>
    have l1 : ldV h3 (h.next + 1) (0 + 0) = some (kfn col.kind 0) := ldV_of g1 rfl (kfn_one hk 0 (by omega))
    simp only [rd, l1, cel_ld g2, Bool.false_eq_true, if_false]
    refine .seq (kmay_spec hk ht3 hc) fun q ⟨q1, kq⟩ => ?_
    simp only [rd, q1]
    have p2 : q.2.get (h.next + 2) = some (.cells (celV c) 47 true false) := kq.get g2 (fun h => h)
    have l2 : ldV q.2 (h.next + 1) (0 + 1) = some (kfn col.kind 1) := ldV_of (kq.get g1 (fun h => h)) rfl (kfn_one hk 1 (by omega))
    simp only [rd, l2, cel_ld p2, bldT_47]
    cases mayC col.kind c with
    | false => simp only [rd]; exact .ret ⟨by rw [Bool.false_and], kk.then kq⟩
    | true =>
      simp only [rd]
      refine .seq (Q1 := fun z => z.1 = celEq (bareC col.kind c) zCel ∧ Kp None' h z.2) (.seq (kbare_spec hk) fun q' ⟨r1, kr⟩ => ?_) fun z ⟨z1, z2⟩ => ?_
      · simp only [rd, r1, eqT_cel]
        exact .ret ⟨rfl, (kk.then kq).then kr⟩
      · exact .ret ⟨by rw [z1, Bool.true_and], z2⟩

theorem size_spec (c : Cel) (h : H) (hc : CelOK c) : Ret E 52 [celA c] h fun v h' => v = .int .i64 ((20 + c.s.size : Nat) : Int) ∧ Kp None' h h' := by
  refine .of_fn rfl rfl (fun C L => schema_Size_eq C L _ h) ?_
  simp only [schema_Size]
  have hs := hc.s
  have e1 : IntKind.wrap .i64 ((20 : Int) + (c.s.size : Nat)) = ((20 + c.s.size : Nat) : Int) := wrap_i64 (by omega) (by omega)
  simp only [rd, oneL_cel, ldS_of (get_new_self h (.cells (celV c) 47 true false)) (show (celV c)[0 + 4]? = some (.string c.s) from rfl), e1]
  exact .ret ⟨rfl, .new _ _⟩

/-! ## equal cells -/
def equD (k : Int) (a b : Cel) : Bool := if a.null || b.null then a.null && b.null else equC k a b
theorem sIs_spec (k : Int) (h : H) : Ret E 63 [.int .i64 k] h fun v h' => v = .bool (decide (1 ≤ k ∧ k ≤ 6)) ∧ h' = h := by
  refine .of_fn rfl rfl (fun C L => schema_is_eq C L _ h) ?_
  simp only [schema_is, lget, asI_int, Option.bind_some]
  by_cases h1 : 1 ≤ k
  · have : decide (k ≥ 1) = true := by simpa using h1
    simp only [this, cond_true, Option.bind_some, h1, true_and]
    exact .ret ⟨rfl, rfl⟩
  · have : decide (k ≥ 1) = false := by simpa using h1
    simp only [this, cond_false, Option.bind_some, h1, false_and, decide_false]
    exact .ret ⟨rfl, rfl⟩
theorem part3 {k : Int} (hk : 1 ≤ k ∧ k ≤ 6) : partV true ((Int.toNat k) * 3) 3 (.agg ⟨kindL⟩) = some (.agg ⟨k3 k⟩) := by
  have : k = 1 ∨ k = 2 ∨ k = 3 ∨ k = 4 ∨ k = 5 ∨ k = 6 := by omega
  rcases this with rfl | rfl | rfl | rfl | rfl | rfl <;> rfl
theorem equal_spec {k : Int} {a b : Cel} {h : H} (hk : 1 ≤ k ∧ k ≤ 6) : Ret E 85 [.int .i64 k, celA a, celA b] h fun v h' => v = .bool (equD k a b) ∧ Kp None' h h' := by
  refine .of_fn rfl rfl (fun C L => schema_Equal_eq C L _ h) ?_
  obtain ⟨h1, hh1⟩ : ∃ h1, h1 = h.new (.cells (celV a) 47 true false) := ⟨_, rfl⟩
  obtain ⟨h2, hh2⟩ : ∃ h2, h2 = h1.new (.cells (celV b) 47 true false) := ⟨_, rfl⟩
  have n1 : h1.next = h.next + 1 := by rw [hh1]; rfl
  have kk : Kp None' h h2 := by rw [hh2, hh1]; exact (Kp.new _ _).thenNew _
  have g0 : h2.get h.next = some (.cells (celV a) 47 true false) := by rw [hh2]; exact H.get_new_old (by rw [hh1]; exact get_new_self _ _)
  have g1 : h2.get (h.next + 1) = some (.cells (celV b) 47 true false) := by rw [hh2, ← n1]; exact get_new_self _ _
  have la : ldB h2 h.next (0 + 0) = some a.null := ldB_of g0 rfl
  have lb : ldB h2 (h.next + 1) (0 + 0) = some b.null := ldB_of g1 rfl
  simp only [schema_Equal]
  simp only [rd, oneL_cel, ← hh1, ← hh2, n1, la, lb]
  unfold equD
  cases ha : a.null with
  | true =>
    simp only [rd, la, lb, ha, Bool.true_or, if_true, Bool.true_and]
    exact .ret ⟨rfl, kk⟩
  | false =>
    cases hb : b.null with
    | true =>
      simp only [rd, la, lb, ha, Bool.false_or, if_true, Bool.false_and]
      exact .ret ⟨rfl, kk⟩
    | false =>
      simp only [rd, Bool.or_self, Bool.false_eq_true, if_false]
      refine .seq (sIs_spec k h2) fun q ⟨q1, q2⟩ => ?_
      simp only [rd, q1, q2, hk, and_self, decide_true, Bool.not_true]
      refine .seq (kinds_spec h2) fun q ⟨q1, kq⟩ => ?_
      have c1 : (decide (0 ≤ k) && decide (k < ((7 : Nat) : Int))) = true := by simp; omega
      have c2 : partV false 2 1 (.agg ⟨k3 k⟩) = some (kfn k 2) := by rfl
      simp only [rd, q1, c1, part3 hk, c2, cel_ld (kq.get g0 (fun h => h)), cel_ld g0, cel_ld (kq.get g1 (fun h => h)), cel_ld g1, veq_celA]
      refine .seq (kequ_spec hk) fun q' ⟨r1, kr⟩ => ?_
      simp only [rd, r1]
      exact .ret ⟨rfl, (kk.then kq).then kr⟩

end Go.Arm
namespace Go.Arm
open Go.Proofs

theorem seq_iff {a b : ByteArray} : seq a b = true ↔ a = b := by
  unfold seq
  rw [beq_iff_eq]
  constructor
  · intro h
    have : a.data.toList = b.data.toList := by
      have e : ∀ x : ByteArray, x.toList = x.data.toList := fun x => ByteArray.toList_eq x
      rwa [e, e] at h
    cases a; cases b; simp_all [Array.toList_inj]
  · rintro rfl; rfl

/-! ## maps -/
theorem findE_none {α : Type} {kt : Nat} {kv : α → Value} {eqk : α → α → Bool} (heq : ∀ a b, eqT E 8 kt (kv a) (kv b) = some (eqk a b)) {a : α} : ∀ {l : List α} {es : List MapEntry} (i : Nat), es.map (·.key) = l.map kv → l.any (eqk a) = false → findE E kt (kv a) es i = some none
  | [], es, i, h, _ => by
    have : es = [] := by simpa using h
    subst this; rfl
  | x :: l, [], i, h, _ => by simp at h
  | x :: l, e :: es, i, h, hn => by
    simp only [List.map_cons, List.cons.injEq] at h
    simp only [List.any_cons, Bool.or_eq_false_iff] at hn
    unfold findE
    rw [h.1, heq, Option.bind_some, hn.1]
    exact findE_none heq (i + 1) h.2 hn.2
theorem findE_some {α : Type} {kt : Nat} {kv : α → Value} {eqk : α → α → Bool} (heq : ∀ a b, eqT E 8 kt (kv a) (kv b) = some (eqk a b)) {a : α} : ∀ {l : List α} {es : List MapEntry} (i : Nat), es.map (·.key) = l.map kv → l.any (eqk a) = true → ∃ e x, findE E kt (kv a) es i = some (some (i + l.findIdx (eqk a), e)) ∧ es[l.findIdx (eqk a)]? = some e ∧ l[l.findIdx (eqk a)]? = some x ∧ eqk a x = true ∧ e.key = kv x
  | [], es, i, h, hy => by simp at hy
  | x :: l, [], i, h, _ => by simp at h
  | x :: l, e :: es, i, h, hy => by
    simp only [List.map_cons, List.cons.injEq] at h
    unfold findE
    rw [h.1, heq, Option.bind_some, List.findIdx_cons]
    cases hx : eqk a x with
    | true => exact ⟨e, x, by simp, rfl, rfl, hx, h.1⟩
    | false =>
      obtain ⟨e', x', h1, h2, h3, h4, h5⟩ := findE_some heq (i + 1) h.2 (by simpa [hx] using hy)
      exact ⟨e', x', by rw [if_neg (by simp), h1, cond_false]; congr 3; omega, by rw [cond_false]; exact h2, by rw [cond_false]; exact h3, h4, h5⟩
theorem eqT_str (a b : ByteArray) : eqT E 8 9 (.string a) (.string b) = some (seq a b) := by kernel_rfl
theorem keyV_str (a : ByteArray) : keyV E 9 (.string a) = true := by
  unfold keyV
  rw [eqT_str]; rfl

/-! ## columns -/
def colOk1 (c : Col) : Bool := !(seq c.name (bs [])) && (decide (c.name.size ≤ 64) && (Lib.validD c.name.data.toList && decide (1 ≤ c.kind ∧ c.kind ≤ 6)))
def colsGo : List Col → List Col → Bool
  | _, [] => true
  | pre, c :: l => !(pre.any fun d => seq c.name d.name) && colOk1 c && colsGo (pre ++ [c]) l
def colsD (l : List Col) : Bool := decide (1 ≤ l.length ∧ l.length ≤ 32) && colsGo [] l

/-- each name was seen once -/
def Seen (h : H) (m : Nat) (pre : List Col) : Prop := ∃ es c, h.get m = some (.map es c) ∧ es.map (·.key) = pre.map (fun d => .string d.name) ∧ ∀ e ∈ es, e.val = .int .i64 1

theorem ldA3 {h : H} {b : Nat} {c : Col} {e : TypeId} {o l : Bool} (hg : h.get b = some (.cells (colV c) e o l)) : ldA 3 h b 0 = some (colA c) := ldA_full hg (colV_len c)
theorem bs0_valid : True := trivial

/-- what a column's checks come to -/
theorem colTail_spec {R : Type} {Q : R → Prop} {c : Col} {h : H} {b : Nat} {dup : Bool} {K : CF → LF → H → Option (Bool × H)} {T : CF → LF → Bool × H → Option R} (g : h.get b = some (.cells (colV c) 55 true false)) (ht : Tabs h)
    (hK : ∀ C L, K C L h = some (dup, h)) (hT : W E (fun C L => T C L (!(!dup && colOk1 c), h)) Q) :
    W E (fun C L => ((cond (seq c.name (bs [])) (some (true, h)) (some ((decide (((c.name.size : Nat) : Int) > (64 : Int))), h))) : Option (Bool × H)).bind fun p13 =>
      ((cond p13.1 (some (true, p13.2)) ((ldS p13.2 b (0 + 0)).bind fun s14 => (C 47 [(.string s14)] p13.2).bind fun p15 => (asB p15.1).bind fun b16 => some ((!b16), p15.2))) : Option (Bool × H)).bind fun p17 =>
      ((cond p17.1 (some (true, p17.2)) ((ldI .i64 p17.2 b (0 + 1)).bind fun x18 => (C 63 [(.int .i64 x18)] p17.2).bind fun p19 => (asB p19.1).bind fun b20 => some ((!b20), p19.2))) : Option (Bool × H)).bind fun p21 =>
      ((cond p21.1 (some (true, p21.2)) (K C L p21.2)) : Option (Bool × H)).bind fun p25 => T C L p25) Q := by
  have lS : ldS h b (0 + 0) = some c.name := ldS_of g rfl
  have lI : ldI .i64 h b (0 + 1) = some c.kind := ldI_of g rfl
  unfold colOk1 at hT
  cases h1 : seq c.name (bs []) with
  | true =>
    rw [h1] at hT
    simp only [rd]
    simpa using hT
  | false =>
    rw [h1] at hT
    simp only [rd]
    by_cases h2 : c.name.size ≤ 64
    · have e2 : decide (((c.name.size : Nat) : Int) > 64) = false := by simp; omega
      rw [decide_eq_true h2] at hT
      simp only [rd, e2, lS]
      refine .seq (Q1 := fun z => z = (!(Lib.validD c.name.data.toList), h)) (.seq (valid_spec ht (by unfold roomy; omega)) fun q ⟨q1, q2⟩ => by simp only [rd, q1, q2]; exact .ret rfl) fun z hz => ?_
      rw [hz]
      cases h3 : Lib.validD c.name.data.toList with
      | false =>
        rw [h3] at hT
        simp only [rd, Bool.not_false]
        simpa using hT
      | true =>
        rw [h3] at hT
        simp only [rd, Bool.not_true, lI]
        refine .seq (Q1 := fun z => z = (!(decide (1 ≤ c.kind ∧ c.kind ≤ 6)), h)) (.seq (sIs_spec _ _) fun q ⟨q1, q2⟩ => by simp only [rd, q1, q2]; exact .ret rfl) fun z hz => ?_
        rw [hz]
        cases h4 : decide (1 ≤ c.kind ∧ c.kind ≤ 6) with
        | false =>
          rw [h4] at hT
          simp only [rd, Bool.not_false]
          simpa using hT
        | true =>
          rw [h4] at hT
          simp only [rd, Bool.not_true, hK]
          simpa using hT
    · have e2 : decide (((c.name.size : Nat) : Int) > 64) = true := by simp; omega
      rw [decide_eq_false h2] at hT
      simp only [rd, e2]
      simpa using hT

theorem cols_loop {h0 : H} {v : Value} {m0 m : Nat} (h0t : Tabs h0) (hm : h0.next ≤ m) : ∀ (post pre : List Col) {h : H}, Sl 3 55 m0 h0 v (pre ++ post).length ((pre ++ post).flatMap colV) → (pre ++ post).length < 2 ^ 40 → Kp None' h0 h → Seen h m pre →
    RetL E 35 5 [.map (some m), v, .int .i64 ((pre ++ post).length : Nat), .int .i64 (pre.length : Nat)] h fun b vals h' => Kp None' h0 h' ∧ if colsGo pre post then b = 0 else b = 1 ∧ vals = [.int .i64 30]
  | [], pre, h, hs, hl, k, sn => by
    refine .of_lp rfl (fun C L => schema_Columns_L5_eq C L _ h) ?_
    simp only [schema_Columns_L5]
    simp only [rd, List.append_nil, Int.lt_irrefl, decide_false]
    exact .ret ⟨k, by simp [colsGo]⟩
  | c :: post, pre, h, hs, hl, k, sn => by
    refine .of_lp rfl (fun C L => schema_Columns_L5_eq C L _ h) ?_
    have hi : pre.length < (pre ++ c :: post).length := by simp
    obtain ⟨b, _, hix, hce⟩ := (hs.kpN k).get colV_len hi
    have hget : (pre ++ c :: post)[pre.length] = c := by simp
    rw [hget] at hce
    have hd : decide (((pre.length : Nat) : Int) < (((pre ++ c :: post).length : Nat) : Int)) = true := by simp; omega
    obtain ⟨h1, hh1⟩ : ∃ h1, h1 = h.new (.cells [(.string (bs [])), (.int .i64 (0)), (.bool false)] 55 true false) := ⟨_, rfl⟩
    have g1 : h1.get h.next = some (.cells [(.string (bs [])), (.int .i64 (0)), (.bool false)] 55 true false) := by rw [hh1]; exact get_new_self _ _
    have s1 : stV 3 h1 h.next 0 (.agg ⟨colV c⟩) = some (h1.put h.next (some (.cells (colV c) 55 true false))) := stV_full (n := 3) g1 rfl rfl (colV_one c)
    have hlt1 := H.get_lt g1
    obtain ⟨h2, hh2⟩ : ∃ h2, h2 = h1.put h.next (some (.cells (colV c) 55 true false)) := ⟨_, rfl⟩
    have g2 : h2.get h.next = some (.cells (colV c) 55 true false) := by rw [hh2]; exact H.get_put_same _ _ _ hlt1
    have k2 : Kp None' h h2 := by rw [hh2, hh1]; exact (Kp.new _ _).putNew _ (Nat.le_refl _)
    obtain ⟨es, cl, sg, skeys, svals⟩ := sn
    have sg2 : h2.get m = some (.map es cl) := k2.get sg (fun h => h)
    have hmn : m ≠ h.next := by have := H.get_lt sg; omega
    have hm2 := H.get_lt sg2
    have lS : ldS h2 h.next (0 + 0) = some c.name := ldS_of g2 rfl
    have mo : ∀ {h' : H} {es : List MapEntry} {cl : Nat}, h'.get m = some (.map es cl) → mapOf h' (.map (some m)) = some (m, es, cl) := fun hg => by simp only [mapOf, hg]
    simp only [schema_Columns_L5]
    simp only [rd, hd, hix, ldA_cells hce, ← hh1, s1, ← hh2, lS]
    have skeys' : es.map (·.key) = (pre.map (·.name)).map Value.string := by rw [skeys, List.map_map]; rfl
    have hany : (pre.map (·.name)).any (seq c.name) = pre.any fun d => seq c.name d.name := by rw [List.any_map]; rfl
    unfold colsGo
    cases hdup : pre.any fun d => seq c.name d.name with
    | true =>
      obtain ⟨e, x, f1, f2, f3, f4, f5⟩ := findE_some eqT_str 0 skeys' (hany.trans hdup)
      have hx : c.name = x := seq_iff.1 f4
      have l1 : lookM E 9 h2 (.map (some m)) (.string c.name) = some (some e.val) := by
        simp only [lookM, keyV_str, if_true, mo sg2, Option.bind_some, f1, Option.map_some]
      have hev : e.val = .int .i64 1 := svals e (List.mem_of_getElem? f2)
      have w1 : IntKind.wrap .i64 ((1 : Int) + 1) = 2 := by decide
      obtain ⟨es', hes'⟩ : ∃ es', es' = es.modify (0 + (pre.map (·.name)).findIdx (seq c.name)) fun e => { e with key := .string c.name, val := .int .i64 2 } := ⟨_, rfl⟩
      have s2 : setM E 9 h2 (.map (some m)) (.string c.name) (.int .i64 2) = some (h2.put m (some (.map es' cl))) := by
        simp only [setM, keyV_str, if_true, mo sg2, Option.bind_some, f1, f5, ← hx]
        rw [if_pos (by simp [veq, veq1]), hes']
      have keys2 : es'.map (·.key) = (pre.map (·.name)).map Value.string := by
        rw [← skeys', hes', Nat.zero_add]
        apply List.ext_getElem?
        intro i
        rw [List.getElem?_map, List.getElem?_map, List.getElem?_modify, Option.map_eq_map, Option.map_map]
        by_cases hi : (pre.map (·.name)).findIdx (seq c.name) = i
        · subst hi; rw [f2]; simp only [Option.map_some, Function.comp, if_true, f5, hx]
        · cases es[i]? with
          | none => rfl
          | some x => simp only [Option.map_some, Function.comp, if_neg hi]
      obtain ⟨e2, x2, f1', f2', _, _, _⟩ := findE_some eqT_str 0 keys2 (hany.trans hdup)
      have he2 : e2.val = .int .i64 2 := by
        rw [hes', Nat.zero_add, List.getElem?_modify, f2] at f2'
        simp at f2'
        rw [← f2']
      obtain ⟨h3, hh3⟩ : ∃ h3, h3 = h2.put m (some (.map es' cl)) := ⟨_, rfl⟩
      have g3m : h3.get m = some (.map es' cl) := by rw [hh3]; exact H.get_put_same _ _ _ hm2
      have g3 : h3.get h.next = some (.cells (colV c) 55 true false) := by rw [hh3, H.get_put_ne _ _ _ _ (Ne.symm hmn)]; exact g2
      have k3 : Kp None' h0 h3 := by rw [hh3]; exact (k.then k2).putNew _ hm
      have l2 : lookM E 9 h3 (.map (some m)) (.string c.name) = some (some e2.val) := by
        simp only [lookM, keyV_str, if_true, mo g3m, Option.bind_some, f1', Option.map_some]
      have lS3 : ldS h3 h.next (0 + 0) = some c.name := ldS_of g3 rfl
      simp only [rd, l1, Option.getD_some, hev, w1, s2, ← hh3, lS3]
      refine colTail_spec (dup := true) (K := fun _ _ h' => (ldS h' h.next (0 + 0)).bind fun s22 => (lookM E 9 h' (.map (some m)) (.string s22)).bind fun r23 => (asI .i64 (r23.getD (.int .i64 (0)))).bind fun x24 => some (decide (x24 > (1 : Int)), h')) g3 (h0t.kp k3 (fun h => h) (fun h => h)) (fun C L => by simp only [rd, lS3, l2, Option.getD_some, he2]; rfl) ?_
      simp only [rd, Bool.not_true, Bool.false_and, Bool.not_false]
      exact .ret ⟨k3, by simp⟩
    | false =>
      have f1 := findE_none eqT_str 0 skeys' (hany.trans hdup)
      have l1 : lookM E 9 h2 (.map (some m)) (.string c.name) = some none := by
        simp only [lookM, keyV_str, if_true, mo sg2, Option.bind_some, f1, Option.map_some, Option.map_none]
      have w1 : IntKind.wrap .i64 ((0 : Int) + 1) = 1 := by decide
      obtain ⟨es', hes'⟩ : ∃ es', es' = es ++ [{ key := .string c.name, val := .int .i64 1, born := cl }] := ⟨_, rfl⟩
      have s2 : setM E 9 h2 (.map (some m)) (.string c.name) (.int .i64 1) = some (h2.put m (some (.map es' (cl + 1)))) := by
        simp only [setM, keyV_str, if_true, mo sg2, Option.bind_some, f1, hes']
      have keys2 : es'.map (·.key) = ((pre ++ [c]).map (·.name)).map Value.string := by
        rw [hes', List.map_append, skeys']; simp
      have hany2 : ((pre ++ [c]).map (·.name)).any (seq c.name) = true := by simp [seq_iff.2 rfl]
      have vals2 : ∀ e ∈ es', e.val = .int .i64 1 := by
        intro e he
        rw [hes'] at he
        simp only [List.mem_append, List.mem_singleton] at he
        rcases he with he | rfl
        · exact svals e he
        · rfl
      obtain ⟨e2, x2, f1', f2', _, _, _⟩ := findE_some eqT_str 0 keys2 hany2
      have he2 : e2.val = .int .i64 1 := vals2 e2 (List.mem_of_getElem? f2')
      obtain ⟨h3, hh3⟩ : ∃ h3, h3 = h2.put m (some (.map es' (cl + 1))) := ⟨_, rfl⟩
      have g3m : h3.get m = some (.map es' (cl + 1)) := by rw [hh3]; exact H.get_put_same _ _ _ hm2
      have g3 : h3.get h.next = some (.cells (colV c) 55 true false) := by rw [hh3, H.get_put_ne _ _ _ _ (Ne.symm hmn)]; exact g2
      have k3 : Kp None' h0 h3 := by rw [hh3]; exact (k.then k2).putNew _ hm
      have l2 : lookM E 9 h3 (.map (some m)) (.string c.name) = some (some e2.val) := by
        simp only [lookM, keyV_str, if_true, mo g3m, Option.bind_some, f1', Option.map_some]
      have lS3 : ldS h3 h.next (0 + 0) = some c.name := ldS_of g3 rfl
      simp only [rd, l1, Option.getD_none, w1, s2, ← hh3, lS3]
      refine colTail_spec (dup := false) (K := fun _ _ h' => (ldS h' h.next (0 + 0)).bind fun s22 => (lookM E 9 h' (.map (some m)) (.string s22)).bind fun r23 => (asI .i64 (r23.getD (.int .i64 (0)))).bind fun x24 => some (decide (x24 > (1 : Int)), h')) g3 (h0t.kp k3 (fun h => h) (fun h => h)) (fun C L => by simp only [rd, lS3, l2, Option.getD_some, he2]; rfl) ?_
      cases hok : colOk1 c with
      | false =>
        simp only [rd, Bool.not_false, Bool.true_and]
        exact .ret ⟨k3, by simp⟩
      | true =>
        have hw : IntKind.wrap .i64 (((pre.length : Nat) : Int) + 1) = (((pre ++ [c]).length : Nat) : Int) := by
          rw [wrap_succ (by omega)]; simp
        have happ : pre ++ c :: post = (pre ++ [c]) ++ post := by simp
        simp only [rd, Bool.not_true, Bool.not_false, Bool.true_and, hw]
        rw [happ] at hs hl ⊢
        exact cols_loop h0t hm post (pre ++ [c]) hs hl k3 ⟨es', cl + 1, g3m, by rw [keys2, List.map_map]; rfl, vals2⟩

theorem columns_spec {h : H} {v : Value} {m0 : Nat} {l : List Col} (ht : Tabs h) (hs : Sl 3 55 m0 h v l.length (l.flatMap colV)) (hl : l.length < 2 ^ 40) :
    Ret E 35 [v] h fun r h' => Kp None' h h' ∧ r = .int .i64 (if colsD l then 0 else 30) := by
  refine .of_fn rfl rfl (fun C L => schema_Columns_eq C L _ h) ?_
  simp only [schema_Columns]
  simp only [rd, hs.len]
  unfold colsD
  by_cases h1 : l.length < 1
  · have e1 : decide (((l.length : Nat) : Int) < 1) = true := by simp; omega
    simp only [rd, e1]
    exact .ret ⟨.refl _ _, by rw [decide_eq_false (by omega)]; rfl⟩
  · have e1 : decide (((l.length : Nat) : Int) < 1) = false := by simp; omega
    simp only [rd, e1]
    by_cases h2 : l.length > 32
    · have e2 : decide (((l.length : Nat) : Int) > 32) = true := by simp; omega
      simp only [rd, e2]
      exact .ret ⟨.refl _ _, by rw [decide_eq_false (by omega)]; rfl⟩
    · have e2 : decide (((l.length : Nat) : Int) > 32) = false := by simp; omega
      simp only [rd, e2]
      refine .seq (cols_loop (pre := []) ht (Nat.le_refl _) l hs hl (.new _ _) ⟨[], 0, get_new_self _ _, rfl, by simp⟩) fun q ⟨k, hq⟩ => ?_
      rw [decide_eq_true (by omega), Bool.true_and]
      cases hg : colsGo [] l with
      | true =>
        rw [hg, if_pos rfl] at hq
        simp only [rd, hq, show ((0 : Nat) == 0) = true from rfl, if_true]
        exact .ret ⟨k, by trivial⟩
      | false =>
        rw [hg, if_neg (by simp)] at hq
        simp only [rd, hq.1, hq.2, show ((1 : Nat) == 0) = false from rfl]
        exact .ret ⟨k, rfl⟩

end Go.Arm
namespace Go.Arm
open Go.Proofs

theorem asP_ptr (b o : Nat) : asP (ptr b o) = some (b, o) := rfl
def sizeD : List Cel → Nat
  | [] => 0
  | c :: l => 20 + c.s.size + sizeD l
theorem sizeD_le : ∀ l : List Cel, (∀ c ∈ l, CelOK c) → sizeD l ≤ l.length * 2 ^ 29
  | [], _ => Nat.zero_le _
  | c :: l, h => by
    have h1 := (h c (by simp)).s
    have h2 := sizeD_le l fun c hc => h c (by simp [hc])
    simp only [sizeD, List.length_cons, Nat.add_mul]
    omega
theorem sizeD_append (a b : List Cel) : sizeD (a ++ b) = sizeD a + sizeD b := by
  induction a with
  | nil => simp [sizeD]
  | cons c l ih => simp [sizeD, ih]; omega

theorem cells_loop {h0 : H} {lv : Value} {m0 tb kb : Nat} {col : Col} {cv xv : Value} {x2 : Int} {b3 : Bool} (h0t : Tabs h0) (hk : 1 ≤ col.kind ∧ col.kind ≤ 6)
    (hcv : Sl 3 55 m0 h0 cv 1 (colV col)) (ho : one xv = true) : ∀ (post pre : List Cel) {h : H},
    Sl 6 47 m0 h0 lv (pre ++ post).length ((pre ++ post).flatMap celV) → (pre ++ post).length < 2 ^ 33 → (∀ c ∈ pre ++ post, CelOK c) → Kp None' h0 h → h.get tb = some (.cells [cv, xv] 37 true false) → h.get kb = some (.cells kindL 111 true false) →
    RetL E 24 11 [ptr tb 0, .int .i64 x2, .bool b3, ptr kb 0, .int .i64 0, .int .i64 (sizeD pre : Nat), xv, .int .i64 1, .int .i64 0, lv, .int .i64 ((pre ++ post).length : Nat), .int .i64 (pre.length : Nat)] h fun b vals h' => Kp None' h h' ∧
      if post.all (mayD col) then b = 0 ∧ vals = [ptr tb 0, .int .i64 x2, .bool b3, ptr kb 0, .int .i64 (sizeD (pre ++ post) : Nat), xv, .int .i64 1, .int .i64 0] else b = 1 ∧ vals = [.int .i64 30]
  | [], pre, h, hs, hl, hok, k, gt, gk => by
    refine .of_lp rfl (fun C L => schema_Check_L11_eq C L _ h) ?_
    simp only [schema_Check_L11]
    simp only [rd, asP_ptr, List.append_nil, Int.lt_irrefl, decide_false]
    exact .ret ⟨.refl _ _, by simp⟩
  | c :: post, pre, h, hs, hl, hok, k, gt, gk => by
    refine .of_lp rfl (fun C L => schema_Check_L11_eq C L _ h) ?_
    have hi : pre.length < (pre ++ c :: post).length := by simp
    obtain ⟨b, _, hix, hce⟩ := (hs.kpN k).get celV_len hi
    have hget : (pre ++ c :: post)[pre.length] = c := by simp
    have hc : CelOK c := hok c (by simp)
    rw [hget] at hce
    have hd : decide (((pre.length : Nat) : Int) < (((pre ++ c :: post).length : Nat) : Int)) = true := by simp; omega
    obtain ⟨h1, hh1⟩ : ∃ h1, h1 = h.new (.cells cz 47 true false) := ⟨_, rfl⟩
    have g1 : h1.get h.next = some (.cells cz 47 true false) := by rw [hh1]; exact get_new_self _ _
    have s1 : stV 6 h1 h.next 0 (.agg ⟨celV c⟩) = some (h1.put h.next (some (.cells (celV c) 47 true false))) := cel_st g1 rfl c
    have hlt1 := H.get_lt g1
    obtain ⟨h2, hh2⟩ : ∃ h2, h2 = h1.put h.next (some (.cells (celV c) 47 true false)) := ⟨_, rfl⟩
    have g2 : h2.get h.next = some (.cells (celV c) 47 true false) := by rw [hh2]; exact H.get_put_same _ _ _ hlt1
    have k2 : Kp None' h h2 := by rw [hh2, hh1]; exact (Kp.new _ _).putNew _ (Nat.le_refl _)
    have gt2 : h2.get tb = some (.cells [cv, xv] 37 true false) := k2.get gt (fun h => h)
    have gk2 : h2.get kb = some (.cells kindL 111 true false) := k2.get gk (fun h => h)
    have lT : ldV h2 tb (0 + 0) = some cv := ldV_of gt2 rfl hcv.one
    obtain ⟨cb, lo, _, hcvE, hcg, _⟩ := (hcv.kpN (k.then k2)).blk (by omega)
    have ix3 : idx 3 cv 0 = some (cb, 0) := by rw [hcvE]; exact idx_at (w := 3) (i := 0) (by omega)
    have ld3 : ldA 3 h2 cb 0 = some (colA col) := ldA3 hcg
    have lI : ldI .i64 h2 cb (0 + 1) = some col.kind := ldI_of hcg rfl
    have ck : (decide (0 ≤ col.kind) && decide (col.kind < ((7 : Nat) : Int))) = true := by simp; omega
    have lk : ldA 3 h2 kb (0 + (Int.toNat col.kind) * 3) = some (.agg ⟨k3 col.kind⟩) := by
      apply ldA_cells
      rw [cellsAt_of gk2 (by show _ ≤ 21; omega)]
      have : col.kind = 1 ∨ col.kind = 2 ∨ col.kind = 3 ∨ col.kind = 4 ∨ col.kind = 5 ∨ col.kind = 6 := by omega
      rcases this with h | h | h | h | h | h <;> rw [h] <;> rfl
    simp only [schema_Check_L11]
    simp only [rd, asP_ptr, hd, hix, ldA_cells hce, ← hh1, s1, ← hh2, lT, ix3, ld3, lI, ck, lk, cel_ld g2]
    refine .seq (may_spec hk (h0t.kp (k.then k2) (fun h => h) (fun h => h)) hc) fun q ⟨q1, kq⟩ => ?_
    simp only [rd, q1]
    cases hm : mayD col c with
    | false =>
      simp only [rd, Bool.not_false]
      exact .ret ⟨k2.then kq, by simp [hm]⟩
    | true =>
      simp only [rd, Bool.not_true, cel_ld (kq.get g2 (fun h => h))]
      refine .seq (size_spec c q.2 hc) fun q' ⟨r1, kr⟩ => ?_
      have hsz : IntKind.wrap .i64 (((sizeD pre : Nat) : Int) + ((20 + c.s.size : Nat) : Int)) = ((sizeD (pre ++ [c]) : Nat) : Int) := by
        have := sizeD_le (pre ++ [c]) fun x hx => hok x (by simp at hx ⊢; rcases hx with h | h <;> simp [h])
        have hl2 : (pre ++ [c]).length < 2 ^ 33 := by simp at hl ⊢; omega
        have e : sizeD (pre ++ [c]) = sizeD pre + (20 + c.s.size) := by rw [sizeD_append]; simp [sizeD]
        rw [wrap_i64 (by omega) (by omega), e]
        omega
      have hw : IntKind.wrap .i64 (((pre.length : Nat) : Int) + 1) = (((pre ++ [c]).length : Nat) : Int) := by
        rw [wrap_succ (by omega)]; simp
      have happ : pre ++ c :: post = (pre ++ [c]) ++ post := by simp
      simp only [rd, r1, hsz, hw]
      have kk := (k2.then kq).then kr
      rw [happ] at hs hl hok ⊢
      refine (cells_loop h0t hk hcv ho post (pre ++ [c]) hs hl hok (k.then kk) (kk.get gt (fun h => h)) (kk.get gk (fun h => h))).mono fun r ⟨hr1, hr2⟩ => ⟨kk.then hr1, ?_⟩
      rw [List.all_cons, hm, Bool.true_and]
      exact hr2

/-- what is wrong with a column's cells -/
def checkD (col : Col) (l : List Cel) : Int :=
  if colsD [col] = false then 30 else if l.all (mayD col) = false then 30 else if sizeD l > 1048576 ∨ l.length > 10000 then 31 else 0
theorem colsD_kind {col : Col} (h : colsD [col] = true) : 1 ≤ col.kind ∧ col.kind ≤ 6 := by
  simp [colsD, colsGo, colOk1] at h
  exact h.2.2.2

theorem check_spec {h : H} {cv xv lv : Value} {m0 : Nat} {e : TypeId} {col : Col} {l : List Cel} (ht : Tabs h) (hcv : Sl 3 55 m0 h cv 1 (colV col)) (hxv : Sl 1 e m0 h xv 1 [lv]) (hlv : Sl 6 47 m0 h lv l.length (l.flatMap celV))
    (hl : l.length < 2 ^ 33) (hok : ∀ c ∈ l, CelOK c) : Ret E 24 [.agg ⟨[cv, xv]⟩] h fun v h' => Kp None' h h' ∧ v = .int .i64 (checkD col l) := by
  refine .of_fn rfl rfl (fun C L => schema_Check_eq C L _ h) ?_
  obtain ⟨h1, hh1⟩ : ∃ h1, h1 = h.new (.cells [cv, xv] 37 true false) := ⟨_, rfl⟩
  have g1 : h1.get h.next = some (.cells [cv, xv] 37 true false) := by rw [hh1]; exact get_new_self _ _
  have k1 : Kp None' h h1 := by rw [hh1]; exact .new _ _
  have hone : oneL (Value.agg ⟨[cv, xv]⟩).cells.toList = some [cv, xv] := by
    show oneL [cv, xv] = _
    simp [oneL, hcv.one, hxv.one]
  have l0 : ldV h1 h.next (0 + 0) = some cv := ldV_of g1 rfl hcv.one
  simp only [schema_Check]
  simp only [rd, hone, ← hh1, l0]
  have hcv1 : Sl 3 55 m0 h1 cv [col].length ([col].flatMap colV) := by simpa using hcv.kpN k1
  refine .seq (columns_spec (ht.kp k1 (fun h => h) (fun h => h)) hcv1 (by show 1 < _; omega)) fun q ⟨kq, hq⟩ => ?_
  have gq := kq.get g1 (fun h => h)
  simp only [rd, hq]
  unfold checkD
  cases hcd : colsD [col] with
  | false =>
    simp only [rd, Bool.false_eq_true, if_false, show ((30 : Int) != 0) = true from rfl, if_true]
    exact .ret ⟨k1.then kq, rfl⟩
  | true =>
    have hk := colsD_kind hcd
    have lq0 : ldV q.2 h.next (0 + 0) = some cv := ldV_of gq rfl hcv.one
    have lq1 : ldV q.2 h.next (0 + 1) = some xv := ldV_of gq rfl hxv.one
    have lqA : ldA 2 q.2 h.next 0 = some (.agg ⟨[cv, xv]⟩) := ldA_full gq rfl
    simp only [rd, if_true, show ((0 : Int) != 0) = false from rfl, lq0, lq1, hcv.len, hxv.len, show ((((1 : Nat) : Int)) != ((1 : Nat) : Int)) = false from rfl, lqA, Bool.true_eq_false, if_false]
    -- the rows
    refine .seq (Q1 := fun z => z.1 = .int .i64 (l.length : Nat) ∧ Kp None' q.2 z.2) ?_ fun z ⟨z1, kzz⟩ => ?_
    · refine Ret.of_fn (Q := fun v h' => v = .int .i64 (l.length : Nat) ∧ Kp None' q.2 h') rfl rfl (fun C L => schema_Rows_eq C L _ q.2) ?_
      simp only [schema_Rows]
      have gn : (q.2.new (.cells [cv, xv] 37 true false)).get q.2.next = some (.cells [cv, xv] 37 true false) := get_new_self _ _
      have ln : ldV (q.2.new (.cells [cv, xv] 37 true false)) q.2.next (0 + 1) = some xv := ldV_of gn rfl hxv.one
      have hxn := hxv.kpN ((k1.then kq).thenNew (.cells [cv, xv] 37 true false))
      obtain ⟨xb, lo, _, hxE, hxg, _⟩ := hxn.blk (by omega)
      have ix : idx 1 xv 0 = some (xb, 0) := by rw [hxE]; exact idx_at (w := 1) (i := 0) (by omega)
      have lx : ldV (q.2.new (.cells [cv, xv] 37 true false)) xb 0 = some lv := ldV_of hxg rfl hlv.one
      simp only [rd, hone, ln, hxv.len, show ((((1 : Nat) : Int)) == (0 : Int)) = false from rfl, ix, lx, hlv.len]
      exact .ret ⟨rfl, .new _ _⟩
    simp only [rd, z1]
    refine .seq (kinds_spec z.2) fun y ⟨y1, ky⟩ => ?_
    obtain ⟨h5, hh5⟩ : ∃ h5, h5 = (y.2.new (.cells kz 111 true false)).put y.2.next (some (.cells kindL 111 true false)) := ⟨_, rfl⟩
    have s5 : stV 21 (y.2.new (.cells kz 111 true false)) y.2.next 0 (.agg ⟨kindL⟩) = some h5 := by rw [hh5]; exact stV_full (n := 21) (get_new_self _ _) rfl rfl rfl
    have k5 : Kp None' y.2 h5 := by rw [hh5]; exact (Kp.new _ _).putNew _ (Nat.le_refl _)
    have kall := (((k1.then kq).then kzz).then ky).then k5
    have kqa := ((kzz.then ky).then k5)
    have g5 : h5.get y.2.next = some (.cells kindL 111 true false) := by rw [hh5]; exact H.get_put_same _ _ _ (by rw [H.next_new]; omega)
    have g5t := kqa.get gq (fun h => h)
    have l5 : ldV h5 h.next (0 + 1) = some xv := ldV_of g5t rfl hxv.one
    have s5' : stV 21 (y.2.new (.cells [.nilFunc, .nilFunc, .nilFunc, .nilFunc, .nilFunc, .nilFunc, .nilFunc, .nilFunc, .nilFunc, .nilFunc, .nilFunc, .nilFunc, .nilFunc, .nilFunc, .nilFunc, .nilFunc, .nilFunc, .nilFunc, .nilFunc, .nilFunc, .nilFunc] 111 true false)) y.2.next 0 (.agg ⟨kindL⟩) = some h5 := s5
    simp only [rd, y1, s5', l5, hxv.len]
    -- the loop over columns
    obtain ⟨xb, lo, _, hxE, hxg, _⟩ := (hxv.kpN kall).blk (by omega)
    have ix : idx 1 xv 0 = some (xb, 0) := by rw [hxE]; exact idx_at (w := 1) (i := 0) (by omega)
    have lx : ldV h5 xb 0 = some lv := ldV_of hxg rfl hlv.one
    refine .seq (Q1 := fun r => Kp None' h5 r.2.2 ∧ if l.all (mayD col) then r.1 = 0 ∧ r.2.1 = [.int .i64 (l.length : Nat), .bool (decide (sizeD l > 1048576))] else r.1 = 1 ∧ r.2.1 = [.int .i64 30]) ?_ fun r ⟨kr, hr⟩ => ?_
    · refine RetL.of_lp (Q := fun b vals h' => Kp None' h5 h' ∧ if l.all (mayD col) then b = 0 ∧ vals = [.int .i64 (l.length : Nat), .bool (decide (sizeD l > 1048576))] else b = 1 ∧ vals = [.int .i64 30]) rfl (fun C L => schema_Check_L5_eq C L _ h5) ?_
      simp only [schema_Check_L5]
      simp only [rd, asP_ptr, show decide ((0 : Int) < ((1 : Nat) : Int)) = true from rfl, ix, lx, hlv.len, show (((l.length : Nat) : Int) != ((l.length : Nat) : Int)) = false by simp]
      refine .seq (cells_loop (pre := []) (h0t := ht) hk hcv hxv.one l hlv hl hok kall g5t g5) fun r ⟨kr, hr⟩ => ?_
      cases hal : l.all (mayD col) with
      | false =>
        rw [hal, if_neg (by simp)] at hr
        simp only [rd, hr.1, hr.2, show ((1 : Nat) == 0) = false from rfl, Bool.false_eq_true, if_false]
        exact .ret ⟨kr, rfl, rfl⟩
      | true =>
        rw [hal, if_pos rfl] at hr
        have hlt : decide ((((sizeD ([] ++ l) : Nat) : Int)) > 1048576) = decide (sizeD l > 1048576) := by
          rw [List.nil_append]; congr 1; apply propext; omega
        simp only [rd, hr.1, hr.2, show ((0 : Nat) == 0) = true from rfl, asP_ptr, if_true, hlt, show IntKind.wrap .i64 ((0 : Int) + 1) = 1 by decide]
        refine W.mono (RetL.of_lp (Q := fun b vals h' => h' = r.2.2 ∧ b = 0 ∧ vals = [.int .i64 (l.length : Nat), .bool (decide (sizeD l > 1048576))]) rfl (fun C L => schema_Check_L5_eq C L _ r.2.2) ?_) fun r' ⟨a1, a2⟩ => ⟨by rw [a1]; exact kr, a2⟩
        simp only [schema_Check_L5]
        simp only [rd, asP_ptr, show decide ((1 : Int) < ((1 : Nat) : Int)) = false from rfl]
        exact .ret ⟨rfl, rfl, rfl⟩
    · cases hal : l.all (mayD col) with
      | false =>
        rw [hal, if_neg (by simp)] at hr
        simp only [rd, hr.1, hr.2, show ((1 : Nat) == 0) = false from rfl, if_true]
        exact .ret ⟨kall.then kr, rfl⟩
      | true =>
        rw [hal, if_pos rfl] at hr
        simp only [rd, hr.1, hr.2, show ((0 : Nat) == 0) = true from rfl, Bool.true_eq_false, if_false]
        by_cases h1 : sizeD l > 1048576
        · simp only [rd, decide_eq_true h1, h1, true_or, if_true]
          exact .ret ⟨kall.then kr, rfl⟩
        · by_cases h2 : l.length > 10000
          · have e2 : decide (((l.length : Nat) : Int) > 10000) = true := by simp; omega
            simp only [rd, decide_eq_false h1, e2, h2, or_true, if_true]
            exact .ret ⟨kall.then kr, rfl⟩
          · have e2 : decide (((l.length : Nat) : Int) > 10000) = false := by simp; omega
            simp only [rd, decide_eq_false h1, e2, h1, h2, or_self, if_false]
            exact .ret ⟨kall.then kr, rfl⟩

end Go.Arm
namespace Go.Arm
open Go.Proofs

theorem Kp.hi {X Y : Nat → Prop} {h0 h h' : H} (k : Kp X h0 h) (k' : Kp Y h h') (hx : ∀ b, Y b → X b ∨ h0.next ≤ b) : Kp X h0 h' := k.trans (k'.weaken hx)
theorem Kp.hiO {p : Nat} {h0 h h' : H} (k : Kp None' h0 h) (k' : Kp (Only p) h h') (hp : h0.next ≤ p) : Kp None' h0 h' := k.hi k' fun b (hb : b = p) => .inr (by omega)
theorem Rd.kpX {X : Nat → Prop} {h h' : H} {p a : Nat} {s : ByteArray} {e : Int} (r : Rd h p s a e) (k : Kp X h h') (hx : ¬ X p) : Rd h' p s a e := k.get r hx
theorem Rd.lt {h : H} {p a : Nat} {s : ByteArray} {e : Int} (r : Rd h p s a e) : p < h.next := H.get_lt r

def Bad (e : Int) : Prop := e = 10 ∨ e = 12
theorem Bad.ne {e : Int} (b : Bad e) : e ≠ 0 := by rcases b with rfl | rfl <;> decide
theorem Bad.bne {e : Int} (b : Bad e) : (e != 0) = true := by rcases b with rfl | rfl <;> decide

section
variable {h : H} {p : Nat} {s : ByteArray} {a : Nat}
theorem rUvar_ok (r : Rd h p s a 0) (ha : a ≤ s.size) (hs : s.size ≤ 2 ^ 38) :
    Ret E 31 [ptr p 0] h fun v h' => Kp (Only p) h h' ∧ ((∃ e, Bad e ∧ v = .int .u64 0 ∧ Rd h' p s a e) ∨ (∃ y n : Nat, v = .int .u64 y ∧ Rd h' p s (a + n) 0 ∧ a + n ≤ s.size ∧ y < 2 ^ 64 ∧ uvarE y = (rest s a).take n ∧ 0 < n)) := by
  refine (rUvar_spec r ha (by omega)).mono fun v h' ⟨k, hv⟩ => ⟨k, ?_⟩
  rcases hv with ⟨he, _⟩ | ⟨_, hv⟩
  · exact absurd rfl he
  cases hd : uvD 0 (rest s a) with
  | short => rw [hd] at hv; exact .inl ⟨10, .inl rfl, hv⟩
  | form => rw [hd] at hv; exact .inl ⟨12, .inr rfl, hv⟩
  | ok y n =>
    rw [hd] at hv
    obtain ⟨q1, q2, q3, _, _, q6⟩ := uvD_ok _ 0 y n (by omega) hd
    have := rest_length s a
    obtain ⟨v1, v2⟩ := hv
    exact .inr ⟨y, n, by simpa using v1, v2, by omega, q6, q3, q1⟩
theorem rSvar_ok (r : Rd h p s a 0) (ha : a ≤ s.size) (hs : s.size ≤ 2 ^ 38) :
    Ret E 98 [ptr p 0] h fun v h' => Kp (Only p) h h' ∧ ((∃ e, Bad e ∧ v = .int .i64 (unzI 0) ∧ Rd h' p s a e) ∨ (∃ y n : Nat, v = .int .i64 (unzI y) ∧ Rd h' p s (a + n) 0 ∧ a + n ≤ s.size ∧ y < 2 ^ 64 ∧ uvarE y = (rest s a).take n ∧ 0 < n)) := by
  refine (rSvar_spec r ha (by omega)).mono fun v h' ⟨k, hv⟩ => ⟨k, ?_⟩
  rcases hv with ⟨he, _⟩ | ⟨_, hv⟩
  · exact absurd rfl he
  cases hd : uvD 0 (rest s a) with
  | short => rw [hd] at hv; exact .inl ⟨10, .inl rfl, hv⟩
  | form => rw [hd] at hv; exact .inl ⟨12, .inr rfl, hv⟩
  | ok y n =>
    rw [hd] at hv
    obtain ⟨q1, q2, q3, _, _, q6⟩ := uvD_ok _ 0 y n (by omega) hd
    have := rest_length s a
    obtain ⟨v1, v2⟩ := hv
    exact .inr ⟨y, n, v1, v2, by omega, by simpa using q6, q3, q1⟩
theorem rText_ok (r : Rd h p s a 0) (ha : a ≤ s.size) (hs : s.size ≤ 2 ^ 38) (most : Nat) (hm : most < 2 ^ 40) :
    Ret E 28 [ptr p 0, .int .i64 most] h fun v h' => Kp (Only p) h h' ∧ ((∃ e, Bad e ∧ v = .string (bs []) ∧ Rd h' p s a e) ∨
      (∃ (t : ByteArray) (n : Nat), v = .string t ∧ Rd h' p s (a + n) 0 ∧ a + n ≤ s.size ∧ t.size ≤ most ∧ t.size ≤ s.size ∧ uvarE t.size ++ t.data.toList = (rest s a).take n)) := by
  refine (rText_spec r ha (by omega) most hm).mono fun v h' ⟨k, hv⟩ => ⟨k, ?_⟩
  rcases hv with ⟨he, _⟩ | ⟨_, hv⟩
  · exact absurd rfl he
  have hr := rest_length s a
  cases hd : txD most (rest s a) with
  | error e => rw [hd] at hv; exact .inl ⟨e, txD_err hd, hv⟩
  | ok tn =>
    obtain ⟨t, n⟩ := tn
    rw [hd] at hv
    obtain ⟨q1, q2, q3, q4⟩ := txD_ok hd
    have hsz : (⟨⟨t⟩⟩ : ByteArray).size = t.length := rfl
    exact .inr ⟨⟨⟨t⟩⟩, n, hv.1, hv.2, by omega, by rw [hsz]; exact q3, by rw [hsz]; omega, by rw [hsz]; exact q2⟩
theorem rU8_ok (r : Rd h p s a 0) (ha : a ≤ s.size) (hs : s.size ≤ 2 ^ 38) :
    Ret E 60 [ptr p 0] h fun v h' => Kp (Only p) h h' ∧ ((v = .int .u8 0 ∧ Rd h' p s a 10) ∨ (∃ b : UInt8, v = .int .u8 b.toNat ∧ Rd h' p s (a + 1) 0 ∧ a + 1 ≤ s.size ∧ [b] = (rest s a).take 1)) := by
  refine (rU8_spec r ha (by omega)).mono fun v h' ⟨k, hv⟩ => ⟨k, ?_⟩
  rcases hv with ⟨he, _⟩ | ⟨_, _, hv⟩ | ⟨b, l, _, hb, hv⟩
  · exact absurd rfl he
  · exact .inl hv
  · have := rest_length s a
    rw [hb] at this
    simp at this
    exact .inr ⟨b, hv.1, hv.2, by omega, by rw [hb]; rfl⟩
/-- after an error nothing is read any more -/
theorem rU8_bad {e : Int} (he : e ≠ 0) (r : Rd h p s a e) (ha : a ≤ s.size) (hs : s.size ≤ 2 ^ 38) : Ret E 60 [ptr p 0] h fun v h' => Kp (Only p) h h' ∧ v = .int .u8 0 ∧ Rd h' p s a e := by
  refine (rU8_spec r ha (by omega)).mono fun v h' ⟨k, hv⟩ => ⟨k, ?_⟩
  rcases hv with ⟨_, hv⟩ | ⟨h0, _⟩ | ⟨b, l, h0, _⟩
  · exact hv
  · exact absurd h0 he
  · exact absurd h0 he
theorem rGet_ok {k : Int} (hk : 1 ≤ k ∧ k ≤ 6) (r : Rd h p s a 0) (ha : a ≤ s.size) (hs : s.size ≤ 2 ^ 38) (ht : Tabs h) (hp : 2 ≤ p) :
    Ret E 61 [ptr p 0, .int .i64 k] h fun v h' => Kp (Only p) h h' ∧ ((∃ e a' e', Bad e ∧ v = .tuple #[celA zCel, .int .i64 e] ∧ a' ≤ s.size ∧ Rd h' p s a' e') ∨
      (∃ (c : Cel) (n : Nat), v = .tuple #[celA c, .int .i64 0] ∧ Rd h' p s (a + n) 0 ∧ a + n ≤ s.size ∧ CelOK c ∧ c.null = false ∧ putE k c = (rest s a).take n)) := by
  refine (get_spec hk r ha hs ht hp).mono fun v h' ⟨kp, hv⟩ => ⟨kp, ?_⟩
  have hr := rest_length s a
  cases hd : getD k (rest s a) with
  | error e =>
    rw [hd] at hv
    obtain ⟨h1, a', e', h2, h3⟩ := hv
    exact .inl ⟨e, a', e', getD_err hd, h1, h2, h3⟩
  | ok cn =>
    obtain ⟨c, n⟩ := cn
    rw [hd] at hv
    obtain ⟨q1, q2, q3, q4⟩ := getD_ok hk hd
    exact .inr ⟨c, n, hv.1, hv.2, by omega, q1, q2, q4⟩
end
theorem take_take_rest (s : ByteArray) (a n m : Nat) : (rest s a).take n ++ (rest s (a + n)).take m = (rest s a).take (n + m) := by
  rw [← rest_drop, ← List.take_add]

/-! ## the writer -/
structure WA (h0 h : H) (p : Nat) (l : List UInt8) : Prop where
  k : Kp None' h0 h
  w : Wr h p l
  pl : h0.next ≤ p
  b : ∀ k, Buf h p k → h0.next ≤ k
theorem KpW.low {h0 h h' : H} {p : Nat} (k : KpW p h h') (kk : Kp None' h0 h) (hp : h0.next ≤ p) (hb : ∀ k, Buf h p k → h0.next ≤ k) : Kp None' h0 h' := by
  refine ⟨Nat.le_trans kk.1 k.next, fun b hlt _ => ?_⟩
  have := kk.1
  rw [k.keep b (by omega) (by omega) (fun h => by have := hb b h; omega), kk.2 b hlt (fun h => h)]
theorem WA.step {h0 h h' : H} {p : Nat} {l l' : List UInt8} (a : WA h0 h p l) (w : Wr h' p l') (k : KpW p h h') : WA h0 h' p l' :=
  ⟨k.low a.k a.pl a.b, w, a.pl, fun b hb => (k.buf b hb).elim (a.b b) fun h => Nat.le_trans a.k.1 h⟩
theorem WA.make {h0 h : H} (k : Kp None' h0 h) : WA h0 (h.new (.cells [.slice none 0 0] 61 true false)) h.next [] := by
  refine ⟨k.thenNew _, ⟨_, get_new_self _ _, .inl ⟨rfl, rfl⟩⟩, k.1, fun b hb => ?_⟩
  obtain ⟨n, c, hv⟩ := Buf.inv (get_new_self _ _) hb
  cases hv
theorem Wr.buf {h : H} {p : Nat} {l : List UInt8} (w : Wr h p l) {b : Nat} (hb : Buf h p b) : h.get b = some (.cells (bvs l) 5 true true) ∧ b ≠ p := by
  obtain ⟨v, h1, h2⟩ := w
  obtain ⟨n, c, hv⟩ := Buf.inv h1 hb
  rcases h2 with ⟨_, h2⟩ | ⟨b', hb', h2, hg⟩
  · rw [h2] at hv; cases hv
  · rw [h2] at hv; cases hv; exact ⟨hg, hb'⟩
/-- what is done elsewhere leaves a writer as it is -/
theorem Wr.kp {X : Nat → Prop} {h h' : H} {p : Nat} {l : List UInt8} (w : Wr h p l) (k : Kp X h h') (hp : ¬ X p) (hx : ∀ b, Buf h p b → ¬ X b) : Wr h' p l ∧ ∀ b, Buf h' p b → Buf h p b := by
  obtain ⟨v, h1, h2⟩ := w
  have h1' := k.get h1 hp
  refine ⟨⟨v, h1', ?_⟩, fun b ⟨n, c, hb⟩ => ⟨n, c, ?_⟩⟩
  · rcases h2 with h2 | ⟨b, hb, hv, hg⟩
    · exact .inl h2
    · exact .inr ⟨b, hb, hv, k.get hg (hx b ⟨_, _, by rw [cellAt_of h1, hv]; rfl⟩)⟩
  · rw [cellAt_of h1'] at hb; rw [cellAt_of h1]; exact hb
theorem WA.other {h0 h h' : H} {p : Nat} {l : List UInt8} (a : WA h0 h p l) (k : Kp None' h h') : WA h0 h' p l := by
  obtain ⟨w, hb⟩ := a.w.kp k (fun h => h) (fun _ _ h => h)
  exact ⟨a.k.then k, w, a.pl, fun b h => a.b b (hb b h)⟩

end Go.Arm
namespace Go.Arm
open Go.Proofs

theorem bldT_37 (a b n c m d : Nat) : bldT E 37 [(0, .slice (some ⟨a, 0, none⟩) n c), (1, .slice (some ⟨b, 0, none⟩) m d)] = some (.agg ⟨[.slice (some ⟨a, 0, none⟩) n c, .slice (some ⟨b, 0, none⟩) m d]⟩) := by kernel_rfl
theorem bldS_23 (c : Col) : bldS E 23 1 [(0, colA c)] = some (colV c) := by kernel_rfl
theorem bldS_35s (b n c : Nat) : bldS E 35 1 [(0, .slice (some ⟨b, 0, none⟩) n c)] = some [.slice (some ⟨b, 0, none⟩) n c] := by kernel_rfl
theorem bldS_35n : bldS E 35 1 [(0, .slice none 0 0)] = some [.slice none 0 0] := by kernel_rfl
theorem bldS_35 {w m : Nat} {e : TypeId} {h : H} {v : Value} {n : Nat} {cs : List Value} (s : Sl w e m h v n cs) : bldS E 35 1 [(0, v)] = some [v] := by
  rcases s with ⟨rfl, _⟩ | ⟨b, l, _, rfl, _⟩
  · exact bldS_35n
  · exact bldS_35s _ _ _
theorem bldT_55 (s : ByteArray) (k : Int) (b : Bool) : bldT E 55 [(0, .string s), (1, .int .i64 k), (2, .bool b)] = some (colA ⟨s, k, b⟩) := by kernel_rfl

/-- the table of one column -/
theorem table1 {h h1 : H} (hh1 : Kp None' h h1) (hn : h.next ≤ h1.next) {m0 : Nat} {col : Col} {lv : Value} {l : List Cel} (hlv : Sl 6 47 m0 h lv l.length (l.flatMap celV)) :
    let h6 := h1.new (.cells (colV col) 55 true false)
    let h8 := h6.new (.cells [lv] 41 true false)
    Kp None' h h8 ∧ Sl 3 55 0 h8 (.slice (some ⟨h1.next, 0, none⟩) 1 1) 1 (colV col) ∧ Sl 1 41 0 h8 (.slice (some ⟨h6.next, 0, none⟩) 1 1) 1 [lv] ∧ Sl 6 47 0 h8 lv l.length (l.flatMap celV) := by
  intro h6 h8
  have k8 : Kp None' h h8 := (hh1.thenNew _).thenNew _
  exact ⟨k8, .inr ⟨_, false, Nat.zero_le _, rfl, H.get_new_old (get_new_self _ _), rfl⟩, .inr ⟨_, false, Nat.zero_le _, rfl, get_new_self _ _, rfl⟩, (hlv.kpN k8).low (Nat.zero_le _)⟩

/-- diff.may -/
theorem dmay_spec {h : H} {m0 : Nat} {col : Col} {lv : Value} {l : List Cel} (ht : Tabs h) (hlv : Sl 6 47 m0 h lv l.length (l.flatMap celV)) (hl : l.length < 2 ^ 33) (hok : ∀ c ∈ l, CelOK c) :
    Ret E 64 [colA col, lv] h fun v h' => Kp None' h h' ∧ v = .bool (checkD col l != 30) := by
  refine .of_fn rfl rfl (fun C L => diff_may_eq C L _ h) ?_
  obtain ⟨h1, hh1⟩ : ∃ h1, h1 = h.new (.cells (colV col) 55 true false) := ⟨_, rfl⟩
  have g1 : h1.get h.next = some (.cells (colV col) 55 true false) := by rw [hh1]; exact get_new_self _ _
  have k1 : Kp None' h h1 := by rw [hh1]; exact .new _ _
  have hlen : h.next ≤ h1.next := k1.1
  simp only [diff_may]
  simp only [rd, oneL_col, ← hh1, ldA3 g1, bldS_23, bldS_35 hlv, bldT_37]
  obtain ⟨a1, a2, a3, a4⟩ := table1 (col := col) k1 hlen hlv
  refine .seq (check_spec (ht.kp a1 (fun h => h) (fun h => h)) a2 a3 a4 hl hok) fun q ⟨kq, hq⟩ => ?_
  simp only [rd, hq]
  exact .ret ⟨a1.then kq, rfl⟩

/-- column.alone -/
theorem alone_spec {h : H} {m0 : Nat} {col : Col} {lv : Value} {l : List Cel} (hlv : Sl 6 47 m0 h lv l.length (l.flatMap celV)) :
    Ret E 42 [colA col, lv] h fun v h' => Kp None' h h' ∧ ∃ cv xv, v = .agg ⟨[cv, xv]⟩ ∧ Sl 3 55 0 h' cv 1 (colV col) ∧ Sl 1 41 0 h' xv 1 [lv] ∧ Sl 6 47 0 h' lv l.length (l.flatMap celV) := by
  refine .of_fn rfl rfl (fun C L => column_alone_eq C L _ h) ?_
  obtain ⟨h1, hh1⟩ : ∃ h1, h1 = h.new (.cells (colV col) 55 true false) := ⟨_, rfl⟩
  obtain ⟨h3, hh3⟩ : ∃ h3, h3 = h1.new (.cells [(.slice none 0 0), (.slice none 0 0)] 37 true false) := ⟨_, rfl⟩
  have n1 : h1.next = h.next + 1 := by rw [hh1]; rfl
  have g1 : h3.get h.next = some (.cells (colV col) 55 true false) := by rw [hh3]; exact H.get_new_old (by rw [hh1]; exact get_new_self _ _)
  have g3 : h3.get h1.next = some (.cells [(.slice none 0 0), (.slice none 0 0)] 37 true false) := by rw [hh3]; exact get_new_self _ _
  have k3 : Kp None' h h3 := by rw [hh3, hh1]; exact (Kp.new _ _).thenNew _
  simp only [column_alone]
  simp only [rd, oneL_col, ← hh1, ← hh3, ldA3 g1, bldS_23, bldS_35 hlv, bldT_37]
  obtain ⟨a1, a2, a3, a4⟩ := table1 (col := col) k3 k3.1 hlv
  have k8 : Kp None' h3 ((h3.new (.cells (colV col) 55 true false)).new (.cells [lv] 41 true false)) := (Kp.new _ _).thenNew _
  have g8 := k8.get g3 (fun h => h)
  generalize ((h3.new (.cells (colV col) 55 true false)).new (.cells [lv] 41 true false)) = h8 at *
  have o2 : one (.slice (some ⟨h3.next, 0, none⟩) 1 1) = true := rfl
  have s8 : stV 2 h8 h1.next 0 (.agg ⟨[.slice (some ⟨h3.next, 0, none⟩) 1 1, .slice (some ⟨(h3.new (.cells (colV col) 55 true false)).next, 0, none⟩) 1 1]⟩) = some (h8.put h1.next (some (.cells [.slice (some ⟨h3.next, 0, none⟩) 1 1, .slice (some ⟨(h3.new (.cells (colV col) 55 true false)).next, 0, none⟩) 1 1] 37 true false))) :=
    stV_full (n := 2) g8 rfl rfl rfl
  have l8 := ldA_full (n := 2) (H.get_put_same h8 h1.next (some (.cells [.slice (some ⟨h3.next, 0, none⟩) 1 1, .slice (some ⟨(h3.new (.cells (colV col) 55 true false)).next, 0, none⟩) 1 1] 37 true false)) (H.get_lt g8)) rfl
  simp only [rd, s8, l8]
  have kp : Kp (Only h1.next) h8 (h8.put h1.next (some (.cells [.slice (some ⟨h3.next, 0, none⟩) 1 1, .slice (some ⟨(h3.new (.cells (colV col) 55 true false)).next, 0, none⟩) 1 1] 37 true false))) := .put _ _ rfl
  have hx3 : h3.next = h.next + 2 := by rw [hh3, H.next_new, n1]
  have kall := a1.hiO kp (by omega)
  refine .ret ⟨kall, _, _, rfl, ?_, ?_, (hlv.kpN kall).low (Nat.zero_le _)⟩
  · rcases a2 with ⟨hc, _⟩ | ⟨b, l, _, hb, hg, hl⟩
    · cases hc
    · cases hb
      exact .inr ⟨_, l, Nat.zero_le _, rfl, kp.get hg (by simp only [Only]; omega), hl⟩
  · rcases a3 with ⟨hc, _⟩ | ⟨b, l, _, hb, hg, hl⟩
    · cases hc
    · cases hb
      exact .inr ⟨_, l, Nat.zero_le _, rfl, kp.get hg (by simp only [Only, H.next_new]; omega), hl⟩

/-! ## columns as bytes -/
def byteE (c : Col) : UInt8 := UInt8.ofNat (c.kind.toNat + if c.null then 128 else 0)
def colE (c : Col) : List UInt8 := uvarE c.name.size ++ c.name.data.toList ++ [byteE c]
def colsE (l : List Col) : List UInt8 := uvarE l.length ++ l.flatMap colE
theorem colOk_iff {c : Col} (h : colOk1 c = true) : c.name.size ≤ 64 ∧ Lib.validD c.name.data.toList = true ∧ 1 ≤ c.kind ∧ c.kind ≤ 6 := by
  simp [colOk1] at h
  exact ⟨h.2.1, h.2.2.1, h.2.2.2.1, h.2.2.2.2⟩
theorem colsGo_all : ∀ (l pre : List Col), colsGo pre l = true → ∀ c ∈ l, colOk1 c = true
  | [], _, _, c, hc => by cases hc
  | d :: l, pre, h, c, hc => by
    simp only [colsGo, Bool.and_eq_true] at h
    rcases List.mem_cons.1 hc with rfl | hc
    · exact h.1.2
    · exact colsGo_all l _ h.2 c hc
theorem colsD_iff {l : List Col} (h : colsD l = true) : 1 ≤ l.length ∧ l.length ≤ 32 ∧ ∀ c ∈ l, colOk1 c = true := by
  simp only [colsD, Bool.and_eq_true, decide_eq_true_eq] at h
  exact ⟨h.1.1, h.1.2, colsGo_all l [] h.2⟩
theorem byte_kind {k : Int} (hk : 1 ≤ k ∧ k ≤ 6) : IntKind.wrap .u8 k = ((UInt8.ofNat (k.toNat + 0)).toNat : Int) ∧ ior .u8 (IntKind.wrap .u8 k) 128 = ((UInt8.ofNat (k.toNat + 128)).toNat : Int) := by
  have : k = 1 ∨ k = 2 ∨ k = 3 ∨ k = 4 ∨ k = 5 ∨ k = 6 := by omega
  rcases this with rfl | rfl | rfl | rfl | rfl | rfl <;> decide
theorem colE_len {c : Col} (h : colOk1 c = true) : (colE c).length ≤ 75 := by
  have hn := (colOk_iff h).1
  have h1 : (uvarE c.name.size).length ≤ 10 := uvarE_len (by omega)
  have h2 : c.name.data.toList.length = c.name.size := size_toList c.name
  simp only [colE, List.length_append, List.length_singleton]
  omega

theorem put_loop {h0 : H} {v : Value} {m0 p : Nat} : ∀ (post pre : List Col) {h : H} {l : List UInt8}, Sl 3 55 m0 h0 v (pre ++ post).length ((pre ++ post).flatMap colV) → (∀ c ∈ post, colOk1 c = true) → (pre ++ post).length < 2 ^ 20 → WA h0 h p l → l.length + post.length * 200 ≤ 2 ^ 37 →
    RetL E 16 6 [ptr p 0, v, .int .i64 ((pre ++ post).length : Nat), .int .i64 (pre.length : Nat)] h fun b vals h' => b = 0 ∧ vals = [ptr p 0] ∧ WA h0 h' p (l ++ post.flatMap colE)
  | [], pre, h, l, hs, hok, hn, w, hl => by
    refine .of_lp rfl (fun C L => schema_Put_L6_eq C L _ h) ?_
    simp only [schema_Put_L6]
    simp only [rd, asP_ptr, List.append_nil, Int.lt_irrefl, decide_false]
    exact .ret ⟨rfl, rfl, by simpa using w⟩
  | c :: post, pre, h, l, hs, hok, hn, w, hl => by
    refine .of_lp rfl (fun C L => schema_Put_L6_eq C L _ h) ?_
    have hi : pre.length < (pre ++ c :: post).length := by simp
    obtain ⟨b, _, hix, hce⟩ := (hs.kpN w.k).get colV_len hi
    have hget : (pre ++ c :: post)[pre.length] = c := by simp
    rw [hget] at hce
    have hc := hok c (by simp)
    obtain ⟨c1, _, c3⟩ := colOk_iff hc
    have hd : decide (((pre.length : Nat) : Int) < (((pre ++ c :: post).length : Nat) : Int)) = true := by simp; omega
    obtain ⟨h1, hh1⟩ : ∃ h1, h1 = h.new (.cells [(.string (bs [])), (.int .i64 (0)), (.bool false)] 55 true false) := ⟨_, rfl⟩
    have g1 : h1.get h.next = some (.cells [(.string (bs [])), (.int .i64 (0)), (.bool false)] 55 true false) := by rw [hh1]; exact get_new_self _ _
    have s1 : stV 3 h1 h.next 0 (.agg ⟨colV c⟩) = some (h1.put h.next (some (.cells (colV c) 55 true false))) := stV_full (n := 3) g1 rfl rfl (colV_one c)
    have hlt1 := H.get_lt g1
    obtain ⟨h2, hh2⟩ : ∃ h2, h2 = h1.put h.next (some (.cells (colV c) 55 true false)) := ⟨_, rfl⟩
    have g2 : h2.get h.next = some (.cells (colV c) 55 true false) := by rw [hh2]; exact H.get_put_same _ _ _ hlt1
    have k2 : Kp None' h h2 := by rw [hh2, hh1]; exact (Kp.new _ _).putNew _ (Nat.le_refl _)
    have lS : ldS h2 h.next (0 + 0) = some c.name := ldS_of g2 rfl
    have lI : ldI .i64 h2 h.next (0 + 1) = some c.kind := ldI_of g2 rfl
    have lB : ldB h2 h.next (0 + 2) = some c.null := ldB_of g2 rfl
    obtain ⟨b1, b2⟩ := byte_kind c3
    have w2 := w.other k2
    have happ : pre ++ c :: post = (pre ++ [c]) ++ post := by simp
    have hce2 := colE_len hc
    simp only [List.length_cons] at hl
    -- the tail
    have tail : ∀ x : UInt8, x = byteE c → W E (fun C L => (C 15 [ptr p 0, .string c.name] h2).bind fun p20 => (C 39 [ptr p 0, .int .u8 x.toNat] p20.2).bind fun p21 =>
        L 16 6 [ptr p 0, v, .int .i64 ((pre ++ c :: post).length : Nat), .int .i64 (IntKind.wrap .i64 ((pre.length : Nat) + (1 : Int)))] p21.2) fun r => r.1 = 0 ∧ r.2.1 = [ptr p 0] ∧ WA h0 r.2.2 p (l ++ (c :: post).flatMap colE) := by
      intro x hx
      refine .seq (text_spec (s := c.name) w2.w (by omega) (by omega)) fun q1 ⟨_, q2, q3⟩ => ?_
      have w3 := w2.step q2 q3
      have hsz : (l ++ (uvarE c.name.size ++ c.name.data.toList)).length + 1 ≤ 2 ^ 38 := by
        have : (colE c).length = (uvarE c.name.size ++ c.name.data.toList).length + 1 := by simp [colE]; omega
        rw [List.length_append]; omega
      refine .seq (u8_spec x w3.w hsz) fun q4 ⟨_, q5, q6⟩ => ?_
      have w4 := w3.step q5 q6
      have e4 : l ++ (uvarE c.name.size ++ c.name.data.toList) ++ [x] = l ++ colE c := by rw [hx]; simp [colE]
      rw [e4] at w4
      have hw : IntKind.wrap .i64 (((pre.length : Nat) : Int) + 1) = (((pre ++ [c]).length : Nat) : Int) := by
        rw [wrap_succ (by omega)]; simp
      rw [hw]
      rw [happ] at hs hn ⊢
      refine W.mono (put_loop post (pre ++ [c]) hs (fun d hd => hok d (by simp [hd])) hn w4 (by simp only [List.length_append]; omega)) fun r ⟨r1, r2, r3⟩ => ⟨r1, r2, ?_⟩
      rw [List.flatMap_cons, ← List.append_assoc]
      exact r3
    simp only [schema_Put_L6]
    simp only [rd, asP_ptr, hd, hix, ldA_cells hce, ← hh1, s1, ← hh2, lI, lB, lS]
    cases hnull : c.null with
    | true =>
      simp only [rd, b2]
      exact tail _ (by unfold byteE; rw [hnull]; rfl)
    | false =>
      simp only [rd, b1]
      exact tail _ (by unfold byteE; rw [hnull]; rfl)

theorem sPut_spec {h : H} {v : Value} {m0 : Nat} {l : List Col} (ht : Tabs h) (hs : Sl 3 55 m0 h v l.length (l.flatMap colV)) (hl : colsD l = true) :
    Ret E 16 [v] h fun r h' => Kp None' h h' ∧ r = .string ⟨⟨colsE l⟩⟩ := by
  refine .of_fn rfl rfl (fun C L => schema_Put_eq C L _ h) ?_
  obtain ⟨l1, l2, l3⟩ := colsD_iff hl
  simp only [schema_Put]
  simp only [rd]
  refine .seq (columns_spec ht hs (by omega)) fun q ⟨kq, hq⟩ => ?_
  have hu : IntKind.wrap .u64 ((l.length : Nat) : Int) = ((l.length : Nat) : Int) := wrap_u64 (by omega)
  simp only [rd, hq, hl, if_true, show ((0 : Int) != 0) = false from rfl, hs.len, hu]
  have w := WA.make kq
  have hul : (uvarE l.length).length ≤ 10 := uvarE_len (by omega)
  refine .seq (uvar_spec (x := l.length) (by omega) w.w (by simp; omega)) fun q1 ⟨_, q2, q3⟩ => ?_
  have w1 := w.step q2 q3
  rw [List.nil_append] at w1
  refine .seq (put_loop (pre := []) l hs l3 (by simp; omega) w1 (by omega)) fun r ⟨r1, r2, r3⟩ => ?_
  simp only [rd, r2, asP_ptr]
  refine .seq (string_spec r3.w) fun z ⟨z1, z2⟩ => ?_
  simp only [rd, z1, z2]
  exact .ret ⟨r3.k, rfl⟩

end Go.Arm
namespace Go.Arm
open Go.Proofs

theorem byte_back : ∀ b : Fin 256, iandn .u8 ((b.val : Nat) : Int) 128 = ((b.val % 128 : Nat) : Int) ∧ b.val % 128 + (if 128 ≤ b.val then 128 else 0) = b.val := by decide +kernel
/-- the column of a name and a byte -/
def colB (t : ByteArray) (b : UInt8) : Col := ⟨t, ((b.toNat % 128 : Nat) : Int), decide (b.toNat ≥ 128)⟩
theorem byteE_colB (t : ByteArray) (b : UInt8) : byteE (colB t b) = b := by
  have hlt := b.toNat_lt
  obtain ⟨_, h2⟩ := byte_back ⟨b.toNat, hlt⟩
  simp only at h2
  unfold byteE colB
  simp only [Int.toNat_natCast, ge_iff_le, decide_eq_true_eq]
  rw [h2]
  exact UInt8.ofNat_toNat
theorem colB_eq (t : ByteArray) (b : UInt8) : IntKind.wrap .i64 (iandn .u8 ((b.toNat : Nat) : Int) 128) = (colB t b).kind ∧ decide (((b.toNat : Nat) : Int) ≥ 128) = (colB t b).null := by
  have hlt := b.toNat_lt
  obtain ⟨h1, _⟩ := byte_back ⟨b.toNat, hlt⟩
  simp only at h1
  rw [h1]
  refine ⟨wrap_i64 (by omega) (by omega), ?_⟩
  show _ = decide (b.toNat ≥ 128)
  congr 1
  apply propext; omega

def DErr (e : Int) : Prop := e = 10 ∨ e = 11 ∨ e = 12 ∨ e = 14 ∨ e = 30 ∨ e = 31
theorem Bad.derr {e : Int} (b : Bad e) : DErr e := by rcases b with rfl | rfl <;> simp [DErr]
theorem DErr.bne {e : Int} (b : DErr e) : (e != 0) = true := by rcases b with rfl | rfl | rfl | rfl | rfl | rfl <;> decide

/-- one is appended -/
theorem Sl.app1 {α : Type} {f : α → List Value} {w m bytes : Nat} {e e' : TypeId} {h : H} {v : Value} {l : List α} {k : Nat} {x : α} {o lo : Bool} (hf : ∀ x, (f x).length = w) (h1 : ∀ x, (f x).all Go.Arm.one = true)
    (s : Sl w e m h v l.length (l.flatMap f)) (hk : h.get k = some (.cells (f x) e' o lo)) (hw : w ≠ 0) (hr : (l.length + 1) * (bytes + 1) ≤ roomy) (hm : m ≤ h.next) :
    ∃ v' h', appA w bytes e h v (.slice (some ⟨k, 0, none⟩) 1 1) = some (v', h') ∧ Sl w e m h' v' (l ++ [x]).length ((l ++ [x]).flatMap f) ∧ Kp (fun b => m ≤ b) h h' := by
  obtain ⟨v', h', a1, a2, a3⟩ := s.app (x := .slice (some ⟨k, 0, none⟩) 1 1) (bytes := bytes) (srcC_blk hk (by rw [hf, Nat.one_mul]) 1) (by rw [hf, Nat.one_mul]) (h1 x) hw (by omega) (flat_one h1 l) hr hm
  exact ⟨v', h', a1, by simpa using a2, s.appKp a3⟩

theorem getcols_stop {h : H} {p : Nat} {s : ByteArray} {a : Nat} {e : Int} {v : Value} {n i : Nat} (r : Rd h p s a e) (hx : e ≠ 0 ∨ i = n) (hin : i ≤ n) : RetL E 30 5 [ptr p 0, .int .u64 n, v, .int .u64 i] h fun b vals h' => h' = h ∧ b = 0 ∧ vals = [ptr p 0, v] := by
  refine .of_lp rfl (fun C L => schema_Get_L5_eq C L _ h) ?_
  simp only [schema_Get_L5]
  by_cases hd : i = n
  · subst hd
    simp only [rd, Int.lt_irrefl, decide_false]
    exact .ret ⟨rfl, rfl, rfl⟩
  · have hd' : decide (((i : Nat) : Int) < ((n : Nat) : Int)) = true := by simp; omega
    have he : e ≠ 0 := hx.resolve_right hd
    simp only [rd, hd']
    refine .seq (Q1 := fun z => z = (false, h)) (.seq (err_spec r) fun q ⟨q1, q2⟩ => ?_) fun z hz => ?_
    · simp only [rd, q1, q2, show (e == 0) = false by simpa using he]
      exact .ret rfl
    · simp only [rd, hz]
      exact .ret ⟨rfl, rfl, rfl⟩

theorem wrap_u64s {n : Nat} (h : n + 1 < 2 ^ 64) : IntKind.wrap .u64 ((n : Int) + 1) = ((n + 1 : Nat) : Int) := by
  have := wrap_u64 (x := n + 1) h
  simpa using this
theorem uvarE_pos (x : Nat) : 0 < (uvarE x).length := by rw [uvarE]; split <;> simp

/-- a column is read, and the list goes on -/
theorem getcols_step {h0 : H} {p : Nat} {s : ByteArray} {n : Nat} (hs : s.size ≤ 2 ^ 30) (hp : h0.next ≤ p) {pre : List Col} {h : H} {v : Value} {a e : _} (t : ByteArray) (b : UInt8) (r : Rd h p s a e) (kk : Kp None' h0 h)
    (sl : Sl 3 55 (p + 1) h v pre.length (pre.flatMap colV)) (hpl : pre.length ≤ s.size) (hpn : pre.length < n) (hn : n < 2 ^ 64) {Q : Nat × List Value × H → Prop}
    (hT : ∀ h' v', Kp None' h0 h' → Rd h' p s a e → Sl 3 55 (p + 1) h' v' (pre ++ [colB t b]).length ((pre ++ [colB t b]).flatMap colV) → W E (fun _ L => L 30 5 [ptr p 0, .int .u64 n, v', .int .u64 ((pre ++ [colB t b]).length : Nat)] h') Q) :
    W E (fun _ L => (bldT E 55 [(0, (.string t)), (1, (.int .i64 (IntKind.wrap .i64 (iandn .u8 ((b.toNat : Nat) : Int) (128 : Int))))), (2, (.bool (decide (((b.toNat : Nat) : Int) ≥ (128 : Int)))))]).bind fun v10 => (bldS E 23 1 [(0, v10)]).bind fun l11 =>
      (appA 3 32 55 (h.new (.cells l11 55 true false)) v (.slice (some ⟨h.next, 0, none⟩) 1 1)).bind fun p13 => L 30 5 [ptr p 0, .int .u64 n, p13.1, (.int .u64 (IntKind.wrap .u64 ((pre.length : Nat) + (1 : Int))))] p13.2) Q := by
  obtain ⟨c1, c2⟩ := colB_eq t b
  have hcb : colA ⟨t, (colB t b).kind, (colB t b).null⟩ = colA (colB t b) := rfl
  simp only [rd, c1, c2, bldT_55, hcb, bldS_23]
  have kn : Kp None' h (h.new (.cells (colV (colB t b)) 55 true false)) := .new _ _
  have sln := sl.kpN kn
  have hlt := r.lt
  obtain ⟨v', h', a1, a2, a3⟩ := sln.app1 (bytes := 32) (x := colB t b) colV_len colV_one (get_new_self _ _) (by omega) (by unfold roomy; omega) (by rw [H.next_new]; omega)
  have hw : IntKind.wrap .u64 (((pre.length : Nat) : Int) + 1) = ((pre ++ [colB t b]).length : Nat) := by rw [wrap_u64s (by omega)]; simp
  simp only [rd, a1, hw]
  have hk2 := kn.1
  refine hT h' v' ((kk.then kn).hi a3 fun b hb => .inr (by omega)) ((r.new _).kpX a3 (by omega)) a2

theorem getcols_loop {h0 : H} {p : Nat} {s : ByteArray} {n : Nat} (hs : s.size ≤ 2 ^ 30) (hn : n < 2 ^ 64) (hp : h0.next ≤ p) : ∀ (k : Nat) (pre : List Col) {a : Nat} {h : H} {v : Value}, s.size - a < k → a ≤ s.size → Rd h p s a 0 → Kp None' h0 h →
    Sl 3 55 (p + 1) h v pre.length (pre.flatMap colV) → pre.length ≤ a → pre.length ≤ n →
    RetL E 30 5 [ptr p 0, .int .u64 n, v, .int .u64 (pre.length : Nat)] h fun b vals h' => Kp None' h0 h' ∧ ∃ v' a' e' post, b = 0 ∧ vals = [ptr p 0, v'] ∧ a' ≤ s.size ∧ Rd h' p s a' e' ∧
      Sl 3 55 (p + 1) h' v' (pre ++ post).length ((pre ++ post).flatMap colV) ∧ ((pre ++ post).length < 2 ^ 40) ∧ (Bad e' ∨ (e' = 0 ∧ (pre ++ post).length = n ∧ a ≤ a' ∧ post.flatMap colE = (rest s a).take (a' - a))) := by
  intro k
  induction k with
  | zero => intro pre a h v hk; omega
  | succ k ih =>
    intro pre a h v hk ha r kk sl hpa hpn
    by_cases hd : pre.length = n
    · refine (getcols_stop r (.inr hd) hpn).mono fun q ⟨q1, q2, q3⟩ => ?_
      rw [q1]
      exact ⟨kk, v, a, 0, [], q2, q3, ha, r, by simpa using sl, by simp; omega, .inr ⟨rfl, by simpa using hd, Nat.le_refl _, by simp⟩⟩
    · refine .of_lp rfl (fun C L => schema_Get_L5_eq C L _ h) ?_
      have hd' : decide (((pre.length : Nat) : Int) < ((n : Nat) : Int)) = true := by simp; omega
      simp only [schema_Get_L5]
      simp only [rd, hd']
      refine .seq (Q1 := fun z => z = (true, h)) (.seq (err_spec r) fun q ⟨q1, q2⟩ => by simp only [rd, q1, q2]; exact .ret rfl) fun z hz => ?_
      simp only [rd, hz]
      refine .seq (rText_ok r ha (by omega) 1048576 (by omega)) fun q ⟨kq, hq⟩ => ?_
      have kk1 := kk.hiO kq hp
      have sl1 := sl.kpO kq (by omega)
      -- what stops here
      have bad : ∀ {a1 : Nat} {e : Int} (t : ByteArray) (b : UInt8) {h1 : H}, Bad e → a1 ≤ s.size → Rd h1 p s a1 e → Kp (Only p) q.2 h1 →
          W E (fun _ L => (bldT E 55 [(0, (.string t)), (1, (.int .i64 (IntKind.wrap .i64 (iandn .u8 ((b.toNat : Nat) : Int) (128 : Int))))), (2, (.bool (decide (((b.toNat : Nat) : Int) ≥ (128 : Int)))))]).bind fun v10 => (bldS E 23 1 [(0, v10)]).bind fun l11 =>
      (appA 3 32 55 (h1.new (.cells l11 55 true false)) v (.slice (some ⟨h1.next, 0, none⟩) 1 1)).bind fun p13 => L 30 5 [ptr p 0, .int .u64 n, p13.1, (.int .u64 (IntKind.wrap .u64 ((pre.length : Nat) + (1 : Int))))] p13.2)
          (fun z => Kp None' h0 z.2.2 ∧ ∃ v' a' e' post, z.1 = 0 ∧ z.2.1 = [ptr p 0, v'] ∧ a' ≤ s.size ∧ Rd z.2.2 p s a' e' ∧
      Sl 3 55 (p + 1) z.2.2 v' (pre ++ post).length ((pre ++ post).flatMap colV) ∧ ((pre ++ post).length < 2 ^ 40) ∧ (Bad e' ∨ (e' = 0 ∧ (pre ++ post).length = n ∧ a ≤ a' ∧ post.flatMap colE = (rest s a).take (a' - a)))) := by
        intro a1 e t b h1 he ha1 hr hk1
        refine getcols_step hs hp t b hr (kk1.hiO hk1 hp) (sl1.kpO hk1 (by omega)) (by omega) (by omega) hn fun h' v' k' r' s' => ?_
        refine W.mono (getcols_stop r' (.inl he.ne) (by simp; omega)) fun q ⟨q1, q2, q3⟩ => ?_
        rw [q1]
        exact ⟨k', v', a1, e, [colB t b], q2, q3, ha1, r', s', by simp; omega, .inl he⟩
      rcases hq with ⟨e, he, hv, hr⟩ | ⟨t, m, hv, hr, hm, _, _, hby⟩
      · simp only [rd, hv]
        refine .seq (rU8_bad he.ne hr ha (by omega)) fun q2 ⟨kq2, hv2, hr2⟩ => ?_
        simp only [rd, hv2]
        exact bad (bs []) 0 he ha hr2 kq2
      · simp only [rd, hv]
        refine .seq (rU8_ok hr hm (by omega)) fun q2 ⟨kq2, hq2⟩ => ?_
        rcases hq2 with ⟨hv2, hr2⟩ | ⟨b, hv2, hr2, hm2, hb2⟩
        · simp only [rd, hv2]
          exact bad t 0 (.inl rfl) hm hr2 kq2
        · simp only [rd, hv2]
          have hmp : 0 < m := by
            have := congrArg List.length hby
            have h1 := uvarE_pos t.size
            rw [List.length_take, List.length_append] at this
            omega
          refine getcols_step hs hp t b hr2 (kk1.hiO kq2 hp) (sl1.kpO kq2 (by omega)) (by omega) (by omega) hn fun h' v' k' r' s' => ?_
          refine W.mono (ih (pre ++ [colB t b]) (a := a + m + 1) (by omega) hm2 r' k' s' (by simp; omega) (by simp; omega)) fun z ⟨z1, v2, a2, e2, post, z2, z3, z4, z5, z6, z7, z8⟩ => ?_
          refine ⟨z1, v2, a2, e2, colB t b :: post, z2, z3, z4, z5, by simpa using z6, by simpa using z7, ?_⟩
          rcases z8 with z8 | ⟨y1, y2, y3, y4⟩
          · exact .inl z8
          · refine .inr ⟨y1, by simpa using y2, by omega, ?_⟩
            have hcE : colE (colB t b) = (rest s a).take (m + 1) := by
              unfold colE
              rw [byteE_colB, hb2]
              show uvarE t.size ++ t.data.toList ++ _ = _
              rw [hby, take_take_rest]
            rw [List.flatMap_cons, y4, hcE]
            have : a + m + 1 = a + (m + 1) := by omega
            rw [this, take_take_rest]
            congr 1
            omega

theorem rest0 (s : ByteArray) : rest s 0 = s.data.toList := by simp [rest]
theorem take_all {s : ByteArray} {n : Nat} (h : s.size ≤ n) : (rest s 0).take n = s.data.toList := by
  rw [List.take_of_length_le (by rw [rest_length]; omega), rest0]

theorem sGet_spec {h : H} {s : ByteArray} (ht : Tabs h) (hs : s.size ≤ 2 ^ 30) :
    Ret E 30 [.string s] h fun v h' => Kp None' h h' ∧ ((∃ e, DErr e ∧ v = .tuple #[.slice none 0 0, .int .i64 e]) ∨
      (∃ l sv, v = .tuple #[sv, .int .i64 0] ∧ Sl 3 55 h.next h' sv l.length (l.flatMap colV) ∧ colsD l = true ∧ s.data.toList = colsE l)) := by
  refine .of_fn rfl rfl (fun C L => schema_Get_eq C L _ h) ?_
  simp only [schema_Get]
  simp only [rd]
  refine .seq (read_spec s h) fun q1 ⟨hv1, r1, k1⟩ => ?_
  simp only [rd, hv1]
  refine .seq (rUvar_ok r1 (Nat.zero_le _) (by omega)) fun q2 ⟨k2, hq2⟩ => ?_
  have kk2 := k1.hiO k2 (Nat.le_refl _)
  -- after the loop
  have fin : ∀ {h3 : H} {v' : Value} {a' : Nat} {e' : Int} {l : List Col}, Kp None' h h3 → a' ≤ s.size → Rd h3 h.next s a' e' → Sl 3 55 (h.next + 1) h3 v' l.length (l.flatMap colV) → l.length < 2 ^ 40 → (Bad e' ∨ (e' = 0 ∧ (a' = s.size → s.data.toList = colsE l))) →
      W E (fun C _ => (C 14 [ptr h.next 0] h3).bind fun p6 => (asI .i64 p6.1).bind fun x7 => cond (x7 != (0 : Int)) (some (Value.tuple #[(.slice none 0 0), (.int .i64 x7)], p6.2)) (
        (C 35 [v'] p6.2).bind fun p8 => (asI .i64 p8.1).bind fun x9 => cond (x9 != (0 : Int)) (some (.tuple #[(.slice none 0 0), (.int .i64 x9)], p8.2)) (some (.tuple #[v', (.int .i64 (0 : Int))], p8.2)))) fun z => Kp None' h z.2 ∧ ((∃ e, DErr e ∧ z.1 = .tuple #[.slice none 0 0, .int .i64 e]) ∨
      (∃ l sv, z.1 = .tuple #[sv, .int .i64 0] ∧ Sl 3 55 h.next z.2 sv l.length (l.flatMap colV) ∧ colsD l = true ∧ s.data.toList = colsE l)) := by
    intro h3 v' a' e' l k3 ha' r3 sl hll hE
    refine .seq (done_spec r3 ha' (by omega)) fun q3 ⟨hh3, hq3⟩ => ?_
    rcases hq3 with ⟨he, hv3⟩ | ⟨he, hlt, hv3⟩ | ⟨he, heq, hv3⟩
    · have hb : Bad e' := hE.resolve_right fun h => he h.1
      simp only [rd, hv3, hh3, hb.bne]
      exact .ret ⟨k3, .inl ⟨e', hb.derr, rfl⟩⟩
    · simp only [rd, hv3, hh3, show ((11 : Int) != 0) = true from rfl]
      exact .ret ⟨k3, .inl ⟨11, .inr (.inl rfl), rfl⟩⟩
    · simp only [rd, hv3, hh3, show ((0 : Int) != 0) = false from rfl]
      have hby := (hE.resolve_left fun h => h.ne he).2 heq
      refine .seq (columns_spec (ht.kp k3 (fun h => h) (fun h => h)) sl hll) fun q4 ⟨k4, hq4⟩ => ?_
      cases hc : colsD l with
      | false =>
        simp only [rd, hq4, hc, Bool.false_eq_true, if_false, show ((30 : Int) != 0) = true from rfl]
        exact .ret ⟨k3.then k4, .inl ⟨30, by simp [DErr], rfl⟩⟩
      | true =>
        simp only [rd, hq4, hc, if_true, show ((0 : Int) != 0) = false from rfl]
        exact .ret ⟨k3.then k4, .inr ⟨l, v', rfl, (sl.kpN k4).low (by omega), hc, hby⟩⟩
  rcases hq2 with ⟨e, he, hv2, r2⟩ | ⟨n, m, hv2, r2, hm, hn, hby, _⟩
  · simp only [rd, hv2]
    refine .seq (getcols_stop (n := 0) (i := 0) r2 (.inr rfl) (Nat.le_refl _)) fun q3 ⟨z1, z2, z3⟩ => ?_
    simp only [rd, z1, z3]
    exact fin (l := []) kk2 (Nat.zero_le _) r2 .nil (by show 0 < _; omega) (.inl he)
  · rw [Nat.zero_add] at r2 hm
    simp only [rd, hv2]
    refine .seq (getcols_loop (h0 := h) hs hn (Nat.le_refl _) (s.size + 1) [] (a := m) (by omega) hm r2 kk2 .nil (Nat.zero_le _) (Nat.zero_le _)) fun z ⟨z1, v', a', e', post, z2, z3, z4, z5, z6, z7, z8⟩ => ?_
    simp only [rd, z3]
    refine fin (l := post) z1 z4 z5 z6 z7 ?_
    rcases z8 with z8 | ⟨y1, y2, y3, y4⟩
    · exact .inl z8
    · refine .inr ⟨y1, fun ha => ?_⟩
      rw [List.nil_append] at y2
      have e0 : rest s m = rest s (0 + m) := by rw [Nat.zero_add]
      unfold colsE
      rw [y2, y4, hby, e0, take_take_rest, take_all (by omega)]

/-- diff.columns -/
theorem columnsR_spec {h : H} {p : Nat} {s : ByteArray} {a : Nat} (r : Rd h p s a 0) (ha : a ≤ s.size) (hs : s.size ≤ 2 ^ 30) (ht : Tabs h) (hp : 2 ≤ p) :
    Ret E 11 [ptr p 0] h fun v h' => Kp (Only p) h h' ∧ ((∃ e, DErr e ∧ v = .tuple #[.slice none 0 0, .int .i64 0, .int .i64 e]) ∨
      (∃ l sv rows n c, v = .tuple #[sv, .int .i64 (rows : Nat), .int .i64 0] ∧ Sl 3 55 h.next h' sv l.length (l.flatMap colV) ∧ colsD l = true ∧ rows ≤ 10000 ∧ Rd h' p s (a + n) 0 ∧ a + n ≤ s.size ∧
        c = colsE l ∧ uvarE c.length ++ c ++ uvarE rows = (rest s a).take n)) := by
  refine .of_fn rfl rfl (fun C L => diff_columns_eq C L _ h) ?_
  have hpl := r.lt
  simp only [diff_columns]
  simp only [rd]
  refine .seq (rText_ok r ha (by omega) 1048576 (by omega)) fun q1 ⟨k1, hq1⟩ => ?_
  rcases hq1 with ⟨e, he, hv1, r1⟩ | ⟨t, m, hv1, r1, hm, ht1, ht2, hby⟩
  · simp only [rd, hv1]
    refine .seq (err_spec r1) fun q2 ⟨hv2, hh2⟩ => ?_
    simp only [rd, hv2, hh2, he.bne]
    exact .ret ⟨k1, .inl ⟨e, he.derr, rfl⟩⟩
  · simp only [rd, hv1]
    refine .seq (err_spec r1) fun q2 ⟨hv2, hh2⟩ => ?_
    simp only [rd, hv2, hh2, show ((0 : Int) != 0) = false from rfl]
    refine .seq (sGet_spec (ht.kp k1 (by simp only [Only]; omega) (by simp only [Only]; omega)) (by omega)) fun q3 ⟨k3, hq3⟩ => ?_
    have kk3 := k1.hi k3 fun _ h => h.elim
    rcases hq3 with ⟨e, he, hv3⟩ | ⟨l, sv, hv3, sl, hcd, hbt⟩
    · simp only [rd, hv3, he.bne]
      exact .ret ⟨kk3, .inl ⟨e, he, rfl⟩⟩
    · simp only [rd, hv3, show ((0 : Int) != 0) = false from rfl]
      have r3 := r1.kpX k3 (fun h => h)
      refine .seq (rUvar_ok r3 hm (by omega)) fun q4 ⟨k4, hq4⟩ => ?_
      have kk4 := kk3.then k4
      have hk1 := k1.1
      have sl4 := (sl.kpO k4 (by omega)).low (m' := h.next) (by omega)
      rcases hq4 with ⟨e, he, hv4, r4⟩ | ⟨n, m2, hv4, r4, hm2, hn, hby2, _⟩
      · simp only [rd, hv4]
        refine .seq (err_spec r4) fun q5 ⟨hv5, hh5⟩ => ?_
        simp only [rd, hv5, hh5, he.bne]
        refine .seq (err_spec r4) fun q6 ⟨hv6, hh6⟩ => ?_
        simp only [rd, hv6, hh6]
        exact .ret ⟨kk4, .inl ⟨e, he.derr, rfl⟩⟩
      · simp only [rd, hv4]
        refine .seq (err_spec r4) fun q5 ⟨hv5, hh5⟩ => ?_
        simp only [rd, hv5, hh5, show ((0 : Int) != 0) = false from rfl]
        by_cases hbig : n > 10000
        · have : decide (((n : Nat) : Int) > 10000) = true := by simp; omega
          simp only [rd, this]
          exact .ret ⟨kk4, .inl ⟨12, by simp [DErr], rfl⟩⟩
        · have hd : decide (((n : Nat) : Int) > 10000) = false := by simp; omega
          have hw : IntKind.wrap .i64 ((n : Nat) : Int) = (n : Nat) := wrap_i64n (by omega)
          simp only [rd, hd, hw]
          refine .ret ⟨kk4, .inr ⟨l, sv, n, m + m2, colsE l, rfl, sl4, hcd, by omega, by rw [← Nat.add_assoc]; exact r4, by omega, rfl, ?_⟩⟩
          have hcl : (colsE l).length = t.size := by rw [← hbt]; exact size_toList t
          rw [hcl, ← hbt, hby, hby2, take_take_rest]

end Go.Arm
namespace Go.Arm
open Go.Proofs

/-! ## lists that are written in place -/
theorem Sl.set1 {m : Nat} {e : TypeId} {h : H} {v : Value} {n : Nat} {cs : List Value} (s : Sl 1 e m h v n cs) {i : Nat} (hi : i < n) (x : Value) (h1 : Go.Arm.one x = true) :
    ∃ b h', idx 1 v (i : Int) = some (b, i) ∧ stV 1 h b i x = some h' ∧ Sl 1 e m h' v n (cs.set i x) ∧ Kp (fun b => m ≤ b) h h' := by
  obtain ⟨b, l, hm, rfl, hg, hl⟩ := s.blk (by omega)
  refine ⟨b, _, by have := idx_at (w := 1) (b := b) (c := n) hi; rwa [Nat.mul_one] at this, stV1_of hg (by omega) h1, .inr ⟨b, l, hm, rfl, H.get_put_same _ _ _ (H.get_lt hg), by simpa using hl⟩, .put _ _ hm⟩
theorem Sl.get1 {m : Nat} {e : TypeId} {h : H} {v : Value} {n : Nat} {cs : List Value} (s : Sl 1 e m h v n cs) {i : Nat} (hi : i < n) : ∃ b, m ≤ b ∧ idx 1 v (i : Int) = some (b, i) ∧ cellAt h b i = cs[i]? := by
  obtain ⟨b, l, hm, rfl, hg, hl⟩ := s.blk (by omega)
  exact ⟨b, hm, by have := idx_at (w := 1) (b := b) (c := n) hi; rwa [Nat.mul_one] at this, cellAt_of hg⟩
theorem Sl.setF {α : Type} {f : α → List Value} {w m : Nat} {e : TypeId} {h : H} {v : Value} {l : List α} (hf : ∀ x, (f x).length = w) (h1 : ∀ x, (f x).all Go.Arm.one = true) (s : Sl w e m h v l.length (l.flatMap f)) {i : Nat} (hi : i < l.length) (x : α) :
    ∃ b h', idx w v (i : Int) = some (b, i * w) ∧ stV w h b (i * w) (.agg ⟨f x⟩) = some h' ∧ Sl w e m h' v (l.set i x).length ((l.set i x).flatMap f) ∧ Kp (fun b => m ≤ b) h h' := by
  obtain ⟨b, lo, hm, rfl, hg, hl⟩ := s.blk (by omega)
  have hm' : i * w + w ≤ l.length * w := by rw [← Nat.succ_mul]; exact Nat.mul_le_mul_right _ hi
  refine ⟨b, _, idx_at hi, st_at hg (hf x) (by omega) (h1 x), .inr ⟨b, lo, hm, by simp, ?_, ?_⟩, .put _ _ hm⟩
  · rw [flat_set hf x l i hi]; exact H.get_put_same _ _ _ (H.get_lt hg)
  · rw [flat_len hf]
theorem rep_flat {α : Type} (f : α → List Value) (z : α) : ∀ n, rep n (f z) = (List.replicate n z).flatMap f := by
  intro n
  unfold rep
  induction n with
  | zero => rfl
  | succ n ih => rw [List.range_succ, List.flatMap_append, ih, List.replicate_succ', List.flatMap_append]; simp
theorem rep_one (z : Value) : ∀ n, rep n [z] = List.replicate n z := by
  intro n
  unfold rep
  induction n with
  | zero => rfl
  | succ n ih => rw [List.range_succ, List.flatMap_append, ih, List.replicate_succ']; simp
theorem mkS_of {bytes n : Nat} {e : TypeId} {zero : List Value} {h : H} (hr : n * (bytes + 1) ≤ roomy) (h1 : zero.all one = true) : mkS bytes e zero h (n : Int) (n : Int) = some (.slice (some ⟨h.next, 0, none⟩) n n, h.new (.cells (rep n zero) e true false)) := by
  unfold mkS
  rw [if_pos ⟨by omega, by omega, by exact_mod_cast hr⟩, if_pos h1]
  rfl
theorem Sl.mk1 {n : Nat} {e : TypeId} {h : H} {z : Value} : Sl 1 e h.next (h.new (.cells (rep n [z]) e true false)) (.slice (some ⟨h.next, 0, none⟩) n n) n (List.replicate n z) :=
  .inr ⟨h.next, false, Nat.le_refl _, rfl, by rw [← rep_one]; exact get_new_self _ _, by simp⟩
theorem Sl.mkF {α : Type} {f : α → List Value} {w n : Nat} {e : TypeId} {h : H} {z : α} (hf : ∀ x, (f x).length = w) : Sl w e h.next (h.new (.cells (rep n (f z)) e true false)) (.slice (some ⟨h.next, 0, none⟩) n n) (List.replicate n z).length ((List.replicate n z).flatMap f) :=
  .inr ⟨h.next, false, Nat.le_refl _, by simp, by rw [← rep_flat]; exact get_new_self _ _, flat_len hf _⟩

abbrev bV (l : List Bool) : List Value := l.map .bool
theorem bV_at {l : List Bool} {i : Nat} (hi : i < l.length) : (bV l)[i]? = some (.bool l[i]) := by simp [hi]
theorem ldB_cell {h : H} {b o : Nat} {x : Bool} (e : cellAt h b o = some (.bool x)) : ldB h b o = some x := by unfold ldB; rw [e]; rfl
theorem ldI_cell {k : IntKind} {h : H} {b o : Nat} {x : Int} (e : cellAt h b o = some (.int k x)) : ldI k h b o = some x := by unfold ldI; rw [e]; exact asI_int k x

/-- how many are set -/
def cntT (l : List Bool) : Nat := l.count true
theorem cntT_le (l : List Bool) : cntT l ≤ l.length := List.count_le_length

theorem count_loop {h : H} {v : Value} {m0 : Nat} : ∀ (post pre : List Bool), Sl 1 4 m0 h v (pre ++ post).length (bV (pre ++ post)) → (pre ++ post).length < 2 ^ 60 →
    RetL E 92 3 [.int .i64 (cntT pre : Nat), v, .int .i64 ((pre ++ post).length : Nat), .int .i64 (pre.length : Nat)] h fun b vals h' => h' = h ∧ b = 0 ∧ vals = [.int .i64 (cntT (pre ++ post) : Nat)]
  | [], pre, hs, hl => by
    refine .of_lp rfl (fun C L => nulls_Count_L3_eq C L _ h) ?_
    simp only [nulls_Count_L3]
    simp only [rd, List.append_nil, Int.lt_irrefl, decide_false]
    exact .ret ⟨rfl, rfl, rfl⟩
  | x :: post, pre, hs, hl => by
    refine .of_lp rfl (fun C L => nulls_Count_L3_eq C L _ h) ?_
    have hi : pre.length < (pre ++ x :: post).length := by simp
    obtain ⟨b, _, hix, hce⟩ := hs.get1 hi
    have hget : (pre ++ x :: post)[pre.length] = x := by simp
    rw [bV_at hi, hget] at hce
    have hd : decide (((pre.length : Nat) : Int) < (((pre ++ x :: post).length : Nat) : Int)) = true := by simp; omega
    have hc := cntT_le pre
    have w1 : IntKind.wrap .i64 (((cntT pre : Nat) : Int) + 1) = ((cntT pre + 1 : Nat) : Int) := wrap_succ (by simp at hl; omega)
    have w2 : IntKind.wrap .i64 (((pre.length : Nat) : Int) + 1) = (((pre ++ [x]).length : Nat) : Int) := by rw [wrap_succ (by omega)]; simp
    have happ : pre ++ x :: post = (pre ++ [x]) ++ post := by simp
    simp only [nulls_Count_L3]
    simp only [rd, hd, hix, ldB_cell hce, w1, w2]
    cases x with
    | true =>
      simp only [rd]
      have : cntT pre + 1 = cntT (pre ++ [true]) := by simp [cntT]
      rw [this]
      rw [happ] at hs hl ⊢
      exact count_loop post (pre ++ [true]) hs hl
    | false =>
      simp only [rd]
      have : cntT pre = cntT (pre ++ [false]) := by simp [cntT]
      rw [this]
      rw [happ] at hs hl ⊢
      exact count_loop post (pre ++ [false]) hs hl
theorem count_spec {h : H} {v : Value} {m0 : Nat} {l : List Bool} (hs : Sl 1 4 m0 h v l.length (bV l)) (hl : l.length < 2 ^ 60) : Ret E 92 [v] h fun r h' => h' = h ∧ r = .int .i64 (cntT l : Nat) := by
  refine .of_fn rfl rfl (fun C L => nulls_Count_eq C L _ h) ?_
  simp only [nulls_Count]
  simp only [rd, hs.len]
  refine .seq (count_loop (pre := []) l hs hl) fun q ⟨q1, _, q3⟩ => ?_
  simp only [rd, q1, q3]
  exact .ret ⟨rfl, rfl⟩

def sizeN (n : Nat) : Nat := (n + 7) / 8
theorem nsize_spec {n : Nat} (h : H) (hn : n < 2 ^ 60) : Ret E 67 [.int .i64 (n : Nat)] h fun v h' => h' = h ∧ v = .int .i64 (sizeN n : Nat) := by
  refine .of_fn rfl rfl (fun C L => nulls_size_eq C L _ h) ?_
  have w1 : IntKind.wrap .i64 ((n : Int) + 8) = ((n + 8 : Nat) : Int) := wrap_i64 (by omega) (by omega)
  have w2 : IntKind.wrap .i64 (((n + 8 : Nat) : Int) - 1) = ((n + 7 : Nat) : Int) := by rw [wrap_i64 (by omega) (by omega)]; omega
  have w3 : Int.tdiv ((n + 7 : Nat) : Int) 8 = (((n + 7) / 8 : Nat) : Int) := rfl
  have w4 : IntKind.wrap .i64 (((n + 7) / 8 : Nat) : Int) = (((n + 7) / 8 : Nat) : Int) := wrap_i64n (by omega)
  simp only [nulls_size]
  simp only [rd, w1, w2, w3, w4]
  exact .ret ⟨rfl, rfl⟩

/-! ## Nulls, Dense -/
theorem nulls_loop {h0 : H} {v o : Value} {m0 : Nat} : ∀ (post pre : List Cel) (l : List Bool) {h : H}, Sl 6 47 m0 h0 v (pre ++ post).length ((pre ++ post).flatMap celV) → (pre ++ post).length < 2 ^ 60 → Kp None' h0 h → Sl 1 4 h0.next h o (pre ++ post).length (bV l) →
    l.length = (pre ++ post).length → l.take pre.length = pre.map (·.null) →
    RetL E 44 3 [o, v, .int .i64 ((pre ++ post).length : Nat), .int .i64 (pre.length : Nat)] h fun b vals h' => Kp None' h0 h' ∧ b = 0 ∧ vals = [o] ∧ Sl 1 4 h0.next h' o (pre ++ post).length (bV ((pre ++ post).map (·.null)))
  | [], pre, l, h, hs, hn, k, so, hl, ht => by
    refine .of_lp rfl (fun C L => nulls_Nulls_L3_eq C L _ h) ?_
    simp only [nulls_Nulls_L3]
    simp only [rd, List.append_nil, Int.lt_irrefl, decide_false]
    rw [List.append_nil] at so hl
    rw [← hl, List.take_length] at ht
    exact .ret ⟨k, rfl, rfl, by rw [← ht]; exact so⟩
  | c :: post, pre, l, h, hs, hn, k, so, hl, ht => by
    refine .of_lp rfl (fun C L => nulls_Nulls_L3_eq C L _ h) ?_
    have hi : pre.length < (pre ++ c :: post).length := by simp
    obtain ⟨b, _, hix, hce⟩ := (hs.kpN k).get celV_len hi
    have hget : (pre ++ c :: post)[pre.length] = c := by simp
    rw [hget] at hce
    have hd : decide (((pre.length : Nat) : Int) < (((pre ++ c :: post).length : Nat) : Int)) = true := by simp; omega
    obtain ⟨h1, hh1⟩ : ∃ h1, h1 = h.new (.cells cz 47 true false) := ⟨_, rfl⟩
    have g1 : h1.get h.next = some (.cells cz 47 true false) := by rw [hh1]; exact get_new_self _ _
    have s1 : stV 6 h1 h.next 0 (.agg ⟨celV c⟩) = some (h1.put h.next (some (.cells (celV c) 47 true false))) := cel_st g1 rfl c
    have hlt1 := H.get_lt g1
    obtain ⟨h2, hh2⟩ : ∃ h2, h2 = h1.put h.next (some (.cells (celV c) 47 true false)) := ⟨_, rfl⟩
    have g2 : h2.get h.next = some (.cells (celV c) 47 true false) := by rw [hh2]; exact H.get_put_same _ _ _ hlt1
    have k2 : Kp None' h h2 := by rw [hh2, hh1]; exact (Kp.new _ _).putNew _ (Nat.le_refl _)
    have lB : ldB h2 h.next (0 + 0) = some c.null := ldB_of g2 rfl
    obtain ⟨ob, h3, ho1, ho2, ho3, ho4⟩ := (so.kpN k2).set1 hi (.bool c.null) rfl
    have w2 : IntKind.wrap .i64 (((pre.length : Nat) : Int) + 1) = (((pre ++ [c]).length : Nat) : Int) := by rw [wrap_succ (by omega)]; simp
    have happ : pre ++ c :: post = (pre ++ [c]) ++ post := by simp
    simp only [nulls_Nulls_L3]
    simp only [rd, hd, hix, ldA_cells hce, ← hh1, s1, ← hh2, lB, ho1, ho2, w2]
    have e1 : (bV l).set pre.length (.bool c.null) = bV (l.set pre.length c.null) := by simp [bV, List.map_set]
    rw [e1] at ho3
    rw [happ] at hs hn ho3 hl ⊢
    refine nulls_loop post (pre ++ [c]) (l.set pre.length c.null) hs hn ((k.then k2).hi ho4 fun b hb => .inr hb) ho3 (by simpa using hl) ?_
    have hlt : pre.length < l.length := by rw [hl]; simp
    simp only [List.length_append, List.length_singleton, List.map_append, List.map_cons, List.map_nil]
    rw [List.take_add_one, List.take_set_of_le (Nat.le_refl _), ht, List.getElem?_set_self hlt]
    rfl
theorem nNulls_spec {h : H} {v : Value} {m0 : Nat} {l : List Cel} (hs : Sl 6 47 m0 h v l.length (l.flatMap celV)) (hl : l.length < 2 ^ 38) :
    Ret E 44 [v] h fun r h' => Kp None' h h' ∧ Sl 1 4 h.next h' r (l.map (·.null)).length (bV (l.map (·.null))) := by
  refine .of_fn rfl rfl (fun C L => nulls_Nulls_eq C L _ h) ?_
  simp only [nulls_Nulls]
  simp only [rd, hs.len, mkS_of (bytes := 1) (n := l.length) (e := 4) (zero := [.bool false]) (h := h) (by unfold roomy; omega) rfl]
  have hmk : Sl 1 4 h.next _ _ l.length (List.replicate l.length (.bool false)) := Sl.mk1 (h := h)
  have e1 : List.replicate l.length (Value.bool false) = bV (List.replicate l.length false) := by simp [bV]
  rw [e1] at hmk
  refine .seq (nulls_loop (h0 := h) (pre := []) l (List.replicate l.length false) hs (by simp; omega) (.new _ _) hmk (by simp) (by simp)) fun q ⟨q1, _, q3, q4⟩ => ?_
  simp only [rd, q3]
  exact .ret ⟨q1, by simpa using q4⟩

theorem bldS_41 (c : Cel) : bldS E 41 1 [(0, celA c)] = some (celV c) := by kernel_rfl
def denseD (l : List Cel) : List Cel := l.filter fun c => !c.null
theorem dense_loop {h0 : H} {v : Value} {m0 : Nat} : ∀ (post pre : List Cel) {h : H} {o : Value}, Sl 6 47 m0 h0 v (pre ++ post).length ((pre ++ post).flatMap celV) → (pre ++ post).length < 2 ^ 30 → Kp None' h0 h →
    Sl 6 47 h0.next h o (denseD pre).length ((denseD pre).flatMap celV) →
    RetL E 46 3 [o, v, .int .i64 ((pre ++ post).length : Nat), .int .i64 (pre.length : Nat)] h fun b vals h' => Kp None' h0 h' ∧ b = 0 ∧ ∃ o', vals = [o'] ∧ Sl 6 47 h0.next h' o' (denseD (pre ++ post)).length ((denseD (pre ++ post)).flatMap celV)
  | [], pre, h, o, hs, hn, k, so => by
    refine .of_lp rfl (fun C L => nulls_Dense_L3_eq C L _ h) ?_
    simp only [nulls_Dense_L3]
    simp only [rd, List.append_nil, Int.lt_irrefl, decide_false]
    exact .ret ⟨k, rfl, o, rfl, so⟩
  | c :: post, pre, h, o, hs, hn, k, so => by
    refine .of_lp rfl (fun C L => nulls_Dense_L3_eq C L _ h) ?_
    have hi : pre.length < (pre ++ c :: post).length := by simp
    obtain ⟨b, _, hix, hce⟩ := (hs.kpN k).get celV_len hi
    have hget : (pre ++ c :: post)[pre.length] = c := by simp
    rw [hget] at hce
    have hd : decide (((pre.length : Nat) : Int) < (((pre ++ c :: post).length : Nat) : Int)) = true := by simp; omega
    obtain ⟨h1, hh1⟩ : ∃ h1, h1 = h.new (.cells cz 47 true false) := ⟨_, rfl⟩
    have g1 : h1.get h.next = some (.cells cz 47 true false) := by rw [hh1]; exact get_new_self _ _
    have s1 : stV 6 h1 h.next 0 (.agg ⟨celV c⟩) = some (h1.put h.next (some (.cells (celV c) 47 true false))) := cel_st g1 rfl c
    have hlt1 := H.get_lt g1
    obtain ⟨h2, hh2⟩ : ∃ h2, h2 = h1.put h.next (some (.cells (celV c) 47 true false)) := ⟨_, rfl⟩
    have g2 : h2.get h.next = some (.cells (celV c) 47 true false) := by rw [hh2]; exact H.get_put_same _ _ _ hlt1
    have k2 : Kp None' h h2 := by rw [hh2, hh1]; exact (Kp.new _ _).putNew _ (Nat.le_refl _)
    have lB : ldB h2 h.next (0 + 0) = some c.null := ldB_of g2 rfl
    have w2 : IntKind.wrap .i64 (((pre.length : Nat) : Int) + 1) = (((pre ++ [c]).length : Nat) : Int) := by rw [wrap_succ (by omega)]; simp
    have happ : pre ++ c :: post = (pre ++ [c]) ++ post := by simp
    simp only [nulls_Dense_L3]
    simp only [rd, hd, hix, ldA_cells hce, ← hh1, s1, ← hh2, lB, cel_ld g2, w2]
    cases hnull : c.null with
    | true =>
      simp only [rd, Bool.not_true]
      have e1 : denseD (pre ++ [c]) = denseD pre := by simp [denseD, hnull]
      rw [happ] at hs hn ⊢
      exact dense_loop post (pre ++ [c]) hs hn (k.then k2) (by rw [e1]; exact so.kpN k2)
    | false =>
      have kn : Kp None' h2 (h2.new (.cells (celV c) 47 true false)) := .new _ _
      have hdl : (denseD pre).length ≤ pre.length := List.length_filter_le _ _
      have hk0 := (k.then k2).1
      obtain ⟨v', h', a1, a2, a3⟩ := ((so.kpN k2).kpN kn).app1 (bytes := 56) (x := c) celV_len celV_one (get_new_self _ _) (by omega) (by unfold roomy; simp at hn; omega) (by rw [H.next_new]; omega)
      simp only [rd, Bool.not_false, bldS_41, a1]
      have e1 : denseD (pre ++ [c]) = denseD pre ++ [c] := by simp [denseD, hnull]
      rw [happ] at hs hn ⊢
      exact dense_loop post (pre ++ [c]) hs hn (((k.then k2).then kn).hi a3 fun b hb => .inr hb) (by rw [e1]; exact a2)
theorem dense_spec {h : H} {v : Value} {m0 : Nat} {l : List Cel} (hs : Sl 6 47 m0 h v l.length (l.flatMap celV)) (hl : l.length < 2 ^ 30) :
    Ret E 46 [v] h fun r h' => Kp None' h h' ∧ Sl 6 47 h.next h' r (denseD l).length ((denseD l).flatMap celV) := by
  refine .of_fn rfl rfl (fun C L => nulls_Dense_eq C L _ h) ?_
  simp only [nulls_Dense]
  simp only [rd, hs.len]
  refine .seq (dense_loop (h0 := h) (pre := []) l hs (by simpa using hl) (.refl _ _) .nil) fun q ⟨q1, _, o', q3, q4⟩ => ?_
  simp only [rd, q3]
  exact .ret ⟨q1, by simpa using q4⟩

end Go.Arm
namespace Go.Arm
open Go.Proofs

abbrev iV (l : List Int) : List Value := l.map (.int .u8)
theorem iV_at {l : List Int} {i : Nat} (hi : i < l.length) : (iV l)[i]? = some (.int .u8 l[i]) := by simp [hi]
def packGo : List Bool → Nat → List Int → List Int
  | [], _, B => B
  | b :: l, i, B => packGo l (i + 1) (if b then B.set (i / 8) (ior .u8 (B.getD (i / 8) 0) (ishl .u8 1 ((i % 8 : Nat) : Int))) else B)
theorem packGo_length : ∀ (l : List Bool) (i : Nat) (B : List Int), (packGo l i B).length = B.length
  | [], _, _ => rfl
  | b :: l, i, B => by
    rw [packGo, packGo_length l]
    split <;> simp
def packE (l : List Bool) : List UInt8 := (packGo l 0 (List.replicate (sizeN l.length) 0)).map fun n => UInt8.ofNat n.toNat
theorem packE_length (l : List Bool) : (packE l).length = sizeN l.length := by simp [packE, packGo_length]
theorem bytesOfCells_iV : ∀ l : List Int, bytesOfCells (iV l) = some (l.map fun n => UInt8.ofNat n.toNat)
  | [] => rfl
  | x :: l => by
    simp only [iV, List.map_cons, bytesOfCells]
    rw [show (l.map (Value.int .u8)) = iV l from rfl, bytesOfCells_iV l]
    rfl
theorem strOf_iV {m n : Nat} {e : TypeId} {h : H} {v : Value} {l : List Int} (s : Sl 1 e m h v n (iV l)) : strOf h v = some ⟨⟨l.map fun n => UInt8.ofNat n.toNat⟩⟩ := by
  rcases s with ⟨rfl, rfl, h0⟩ | ⟨b, lo, _, rfl, hg, hl⟩
  · have : l = [] := by simpa using h0
    subst this; rfl
  · have : cellsAt h b 0 n = some (iV l) := by rw [cellsAt_of hg (by omega), List.drop_zero, List.take_of_length_le (by omega)]
    unfold strOf
    simp only [this, Option.bind_some, bytesOfCells_iV, Option.map_some]

theorem tdiv8 (n : Nat) : Int.tdiv (n : Int) 8 = ((n / 8 : Nat) : Int) := rfl
theorem tmod8 (n : Nat) : Int.tmod (n : Int) 8 = ((n % 8 : Nat) : Int) := rfl
theorem wu8 (n : Nat) : IntKind.wrap .u64 ((n % 8 : Nat) : Int) = ((n % 8 : Nat) : Int) := wrap_u64 (by omega)

theorem pack_loop {h0 : H} {v o : Value} {m0 N : Nat} : ∀ (post pre : List Bool) (B : List Int) {h : H}, Sl 1 4 m0 h0 v (pre ++ post).length (bV (pre ++ post)) → (pre ++ post).length < 2 ^ 60 → Kp None' h0 h → Sl 1 5 h0.next h o N (iV B) → (pre ++ post).length ≤ 8 * N →
    RetL E 43 3 [o, v, .int .i64 ((pre ++ post).length : Nat), .int .i64 (pre.length : Nat)] h fun b vals h' => Kp None' h0 h' ∧ b = 0 ∧ vals = [o] ∧ Sl 1 5 h0.next h' o N (iV (packGo post pre.length B))
  | [], pre, B, h, hs, hn, k, so, hN => by
    refine .of_lp rfl (fun C L => nulls_Pack_L3_eq C L _ h) ?_
    simp only [nulls_Pack_L3]
    simp only [rd, List.append_nil, Int.lt_irrefl, decide_false]
    exact .ret ⟨k, rfl, rfl, so⟩
  | c :: post, pre, B, h, hs, hn, k, so, hN => by
    refine .of_lp rfl (fun C L => nulls_Pack_L3_eq C L _ h) ?_
    have hi : pre.length < (pre ++ c :: post).length := by simp
    obtain ⟨b, _, hix, hce⟩ := (hs.kpN k).get1 hi
    have hget : (pre ++ c :: post)[pre.length] = c := by simp
    rw [bV_at hi, hget] at hce
    have hd : decide (((pre.length : Nat) : Int) < (((pre ++ c :: post).length : Nat) : Int)) = true := by simp; omega
    have w2 : IntKind.wrap .i64 (((pre.length : Nat) : Int) + 1) = (((pre ++ [c]).length : Nat) : Int) := by rw [wrap_succ (by omega)]; simp
    have happ : pre ++ c :: post = (pre ++ [c]) ++ post := by simp
    have hB : B.length = N := by have := so.length; simpa using this
    have hj : pre.length / 8 < N := by simp at hN; omega
    have w3 : IntKind.wrap .i64 ((pre.length / 8 : Nat) : Int) = ((pre.length / 8 : Nat) : Int) := wrap_i64n (by omega)
    have hpl : (pre ++ [c]).length = pre.length + 1 := by simp
    simp only [nulls_Pack_L3]
    cases c with
    | false =>
      simp only [rd, hd, hix, ldB_cell hce, w2]
      rw [happ] at hs hn hN ⊢
      refine (pack_loop post (pre ++ [false]) B hs hn k so hN).mono fun r hr => ?_
      rw [hpl] at hr
      exact hr
    | true =>
      obtain ⟨ob, _, ho1, ho2⟩ := so.get1 hj
      rw [iV_at (by omega)] at ho2
      have hneg : decide ((((pre.length % 8 : Nat) : Int)) < 0) = false := by simp; omega
      obtain ⟨ob', h3, q1, q2, q3, q4⟩ := so.set1 hj (.int .u8 (ior .u8 B[pre.length / 8] (ishl .u8 1 ((pre.length % 8 : Nat) : Int)))) rfl
      have hob : ob' = ob := by rw [ho1] at q1; simp at q1; exact q1.symm
      subst hob
      simp only [rd, hd, hix, ldB_cell hce, tdiv8, tmod8, w3, wu8, ho1, ldI_cell ho2, hneg, q2, w2]
      have e1 : (iV B).set (pre.length / 8) (.int .u8 (ior .u8 B[pre.length / 8] (ishl .u8 1 ((pre.length % 8 : Nat) : Int)))) = iV (B.set (pre.length / 8) (ior .u8 B[pre.length / 8] (ishl .u8 1 ((pre.length % 8 : Nat) : Int)))) := by simp [iV, List.map_set]
      rw [e1] at q3
      rw [happ] at hs hn hN ⊢
      refine (pack_loop post (pre ++ [true]) _ hs hn (k.hi q4 fun b hb => .inr hb) q3 hN).mono fun r hr => ?_
      rw [hpl] at hr
      have e2 : B.getD (pre.length / 8) 0 = B[pre.length / 8] := by rw [List.getD_eq_getElem?_getD, List.getElem?_eq_getElem (by omega)]; rfl
      simp only [packGo, if_true, e2]
      exact hr
theorem pack_spec {h : H} {v : Value} {m0 : Nat} {l : List Bool} (hs : Sl 1 4 m0 h v l.length (bV l)) (hl : l.length < 2 ^ 38) : Ret E 43 [v] h fun r h' => Kp None' h h' ∧ r = .string ⟨⟨packE l⟩⟩ := by
  refine .of_fn rfl rfl (fun C L => nulls_Pack_eq C L _ h) ?_
  simp only [nulls_Pack]
  simp only [rd, hs.len]
  refine .seq (nsize_spec h (by omega)) fun q ⟨q1, q2⟩ => ?_
  have hsz : sizeN l.length ≤ l.length + 1 := by unfold sizeN; omega
  simp only [rd, q1, q2, mkS_of (bytes := 1) (n := sizeN l.length) (e := 5) (zero := [.int .u8 0]) (h := h) (by unfold roomy; omega) rfl]
  have hmk : Sl 1 5 h.next _ _ (sizeN l.length) (List.replicate (sizeN l.length) (.int .u8 0)) := Sl.mk1 (h := h)
  have e1 : List.replicate (sizeN l.length) (Value.int .u8 0) = iV (List.replicate (sizeN l.length) 0) := by simp [iV]
  rw [e1] at hmk
  refine .seq (pack_loop (h0 := h) (pre := []) l _ hs (by simp; omega) (.new _ _) hmk (by simp [sizeN]; omega)) fun q ⟨q1, _, q3, q4⟩ => ?_
  simp only [rd, q3, strOf_iV q4]
  exact .ret ⟨q1, rfl⟩

/-! ## Unpack -/
theorem byteAt_of {s : ByteArray} {i : Nat} (hi : i < s.size) : ∃ b : UInt8, byteAt s (i : Int) = some ((b.toNat : Nat) : Int) := by
  unfold byteAt
  rw [if_pos (by omega), Int.toNat_natCast]
  have : s[i]? = some s[i] := by
    show (if h : i < s.size then some s[i] else none) = _
    rw [dif_pos hi]
  rw [this]
  exact ⟨_, rfl⟩

theorem unpack_loop {h0 : H} {s : ByteArray} {o : Value} {N : Nat} (hN : N < 2 ^ 40) (hs : s.size < 2 ^ 40) : ∀ (k i : Nat) (l : List Bool) {h : H}, i + k = 8 * s.size → Kp None' h0 h → Sl 1 4 h0.next h o N (bV l) → l.length = N →
    RetL E 100 9 [.string s, .int .i64 (N : Nat), o, .int .i64 ((8 * s.size : Nat) : Int), .int .i64 (i : Nat)] h fun b vals h' => Kp None' h0 h' ∧ ((b = 0 ∧ vals = [o] ∧ ∃ l' : List Bool, l'.length = N ∧ Sl 1 4 h0.next h' o N (bV l')) ∨ (b = 1 ∧ vals = [.slice none 0 0, .int .i64 12]))
  | 0, i, l, h, hi, k, so, hl => by
    refine .of_lp rfl (fun C L => nulls_Unpack_L9_eq C L _ h) ?_
    have hd : decide (((i : Nat) : Int) < ((8 * s.size : Nat) : Int)) = false := by simp; omega
    simp only [nulls_Unpack_L9]
    simp only [rd, hd]
    exact .ret ⟨k, .inl ⟨rfl, rfl, l, hl, so⟩⟩
  | n + 1, i, l, h, hi, k, so, hl => by
    refine .of_lp rfl (fun C L => nulls_Unpack_L9_eq C L _ h) ?_
    have hd : decide (((i : Nat) : Int) < ((8 * s.size : Nat) : Int)) = true := by simp; omega
    have w3 : IntKind.wrap .i64 ((i / 8 : Nat) : Int) = ((i / 8 : Nat) : Int) := wrap_i64n (by omega)
    obtain ⟨b, hb⟩ := byteAt_of (s := s) (i := i / 8) (by omega)
    have hneg : decide ((((i % 8 : Nat) : Int)) < 0) = false := by simp; omega
    have w2 : IntKind.wrap .i64 (((i : Nat) : Int) + 1) = ((i + 1 : Nat) : Int) := wrap_succ (by omega)
    simp only [nulls_Unpack_L9]
    simp only [rd, hd, tdiv8, tmod8, w3, wu8, hb, hneg, w2]
    generalize (iand .u8 (ishr .u8 ((b.toNat : Nat) : Int) ((i % 8 : Nat) : Int)) 1 == 1) = bit
    by_cases hiN : i < N
    · have hd2 : decide (((i : Nat) : Int) < ((N : Nat) : Int)) = true := by simp; omega
      obtain ⟨ob, h3, q1, q2, q3, q4⟩ := so.set1 hiN (.bool bit) rfl
      simp only [rd, hd2, q1, q2]
      have e1 : (bV l).set i (.bool bit) = bV (l.set i bit) := by simp [bV, List.map_set]
      rw [e1] at q3
      exact unpack_loop hN hs n (i + 1) (l.set i bit) (by omega) (k.hi q4 fun b hb => .inr hb) q3 (by simpa using hl)
    · have hd2 : decide (((i : Nat) : Int) < ((N : Nat) : Int)) = false := by simp; omega
      simp only [rd, hd2]
      cases bit with
      | true => simp only [rd]; exact .ret ⟨k, .inr ⟨rfl, rfl⟩⟩
      | false => simp only [rd]; exact unpack_loop hN hs n (i + 1) l (by omega) k so hl

theorem unpack_spec {h : H} {s : ByteArray} {N : Nat} (hN : N ≤ 1048576) (hs : s.size < 2 ^ 40) :
    Ret E 100 [.string s, .int .i64 (N : Nat)] h fun v h' => Kp None' h h' ∧ ((∃ e, DErr e ∧ v = .tuple #[.slice none 0 0, .int .i64 e]) ∨ (∃ o, ∃ l : List Bool, v = .tuple #[o, .int .i64 0] ∧ l.length = N ∧ Sl 1 4 h.next h' o l.length (bV l))) := by
  refine .of_fn rfl rfl (fun C L => nulls_Unpack_eq C L _ h) ?_
  have d1 : decide (((N : Nat) : Int) < 0) = false := by simp
  have d2 : decide (((N : Nat) : Int) > 1048576) = false := by simp; omega
  simp only [nulls_Unpack]
  simp only [rd, d1, d2]
  refine .seq (nsize_spec h (by omega)) fun q ⟨q1, q2⟩ => ?_
  simp only [rd, q1, q2]
  by_cases h1 : s.size < sizeN N
  · have d3 : decide (((s.size : Nat) : Int) < ((sizeN N : Nat) : Int)) = true := by simp; omega
    simp only [rd, d3]
    exact .ret ⟨.refl _ _, .inl ⟨10, by simp [DErr], rfl⟩⟩
  · have d3 : decide (((s.size : Nat) : Int) < ((sizeN N : Nat) : Int)) = false := by simp; omega
    simp only [rd, d3]
    refine .seq (nsize_spec h (by omega)) fun q ⟨q1, q2⟩ => ?_
    simp only [rd, q1, q2]
    by_cases h2 : s.size > sizeN N
    · have d4 : decide (((s.size : Nat) : Int) > ((sizeN N : Nat) : Int)) = true := by simp; omega
      simp only [rd, d4]
      exact .ret ⟨.refl _ _, .inl ⟨11, by simp [DErr], rfl⟩⟩
    · have d4 : decide (((s.size : Nat) : Int) > ((sizeN N : Nat) : Int)) = false := by simp; omega
      have w8 : IntKind.wrap .i64 ((8 : Int) * ((s.size : Nat) : Int)) = ((8 * s.size : Nat) : Int) := by rw [wrap_i64 (by omega) (by omega)]; omega
      simp only [rd, d4, mkS_of (bytes := 1) (n := N) (e := 4) (zero := [.bool false]) (h := h) (by unfold roomy; omega) rfl, w8]
      have hmk : Sl 1 4 h.next _ _ N (List.replicate N (.bool false)) := Sl.mk1 (h := h)
      have e1 : List.replicate N (Value.bool false) = bV (List.replicate N false) := by simp [bV]
      rw [e1] at hmk
      refine .seq (unpack_loop (h0 := h) (by omega) (by omega) (8 * s.size) 0 _ (by omega) (.new _ _) hmk (by simp)) fun q ⟨q1, hq⟩ => ?_
      rcases hq with ⟨b0, hv, l', hl', sl⟩ | ⟨b1, hv⟩
      · simp only [rd, b0, hv, show ((0 : Nat) == 0) = true from rfl]
        exact .ret ⟨q1, .inr ⟨_, l', rfl, hl', by rw [hl']; exact sl⟩⟩
      · simp only [rd, b1, hv, show ((1 : Nat) == 0) = false from rfl]
        exact .ret ⟨q1, .inl ⟨12, by simp [DErr], rfl⟩⟩

/-! ## Spread -/
/-- from a place on -/
def SubS (m : Nat) (h : H) (v : Value) (l : List Cel) : Prop :=
  (v = .slice none 0 0 ∧ l = []) ∨ ∃ (b o : Nat) (lo : Bool) (full : List Cel), m ≤ b ∧ v = .slice (some ⟨b, o * 6, none⟩) l.length l.length ∧ h.get b = some (.cells (full.flatMap celV) 47 true lo) ∧ full.drop o = l
theorem Sl.sub {m : Nat} {h : H} {v : Value} {l : List Cel} (s : Sl 6 47 m h v l.length (l.flatMap celV)) : SubS m h v l := by
  rcases s with ⟨rfl, h0, _⟩ | ⟨b, lo, hm, rfl, hg, _⟩
  · exact .inl ⟨rfl, List.eq_nil_of_length_eq_zero h0⟩
  · exact .inr ⟨b, 0, lo, l, hm, by simp, hg, rfl⟩
theorem SubS.kp {X : Nat → Prop} {m : Nat} {h h' : H} {v : Value} {l : List Cel} (s : SubS m h v l) (k : Kp X h h') (hx : ∀ b, m ≤ b → b < h.next → ¬ X b) : SubS m h' v l := by
  rcases s with s | ⟨b, o, lo, full, hm, hv, hg, hd⟩
  · exact .inl s
  · exact .inr ⟨b, o, lo, full, hm, hv, k.get hg (hx b hm (H.get_lt hg)), hd⟩
theorem SubS.head {m : Nat} {h : H} {v : Value} {c : Cel} {l : List Cel} (s : SubS m h v (c :: l)) : ∃ b o v', idx 6 v 0 = some (b, o) ∧ ldA 6 h b o = some (celA c) ∧ m ≤ b ∧ slV 47 6 h v (some 1) none none = some v' ∧ SubS m h v' l ∧ veq v' v' = true ∧
    ∀ h', h'.get b = h.get b → slV 47 6 h' v (some 1) none none = some v' := by
  rcases s with ⟨_, h0⟩ | ⟨b, o, lo, full, hm, rfl, hg, hd⟩
  · cases h0
  have hlen : o < full.length := by
    have := congrArg List.length hd
    simp at this; omega
  have hget : full[o] = c := by
    have := List.drop_eq_getElem_cons hlen
    rw [hd] at this
    exact ((List.cons.injEq ..).mp this).1.symm
  have hdr : full.drop (o + 1) = l := by
    have := List.drop_eq_getElem_cons hlen
    rw [hd] at this
    exact ((List.cons.injEq ..).mp this).2.symm
  have hle : o * 6 + 6 ≤ (full.flatMap celV).length := by rw [flat_len celV_len]; omega
  have hsl : ∀ h', h'.get b = h.get b → slV 47 6 h' (.slice (some ⟨b, o * 6, none⟩) (c :: l).length (c :: l).length) (some 1) none none = some (.slice (some ⟨b, (o + 1) * 6, none⟩) l.length l.length) := by
    intro h' he
    have hok : okE h' b 47 = true := by unfold okE; rw [he, hg]; simp
    unfold slV
    simp only [Option.getD_some, Option.getD_none]
    rw [if_pos ⟨by omega, by simp; omega, by simp, by simp, by rw [hok]; simp⟩]
    simp
  refine ⟨b, o * 6, _, by have := idx_off (w := 6) (b := b) (o := o * 6) (n := (c :: l).length) (c := (c :: l).length) (i := 0) (by simp); simpa using this, ?_, hm, hsl h rfl, .inr ⟨b, o + 1, lo, full, hm, rfl, hg, hdr⟩, by simp [veq, veq1], hsl⟩
  rw [ldA_cells (vs := celV c)]
  · rfl
  · rw [cellsAt_of hg hle, flat_at celV_len full o hlen, hget]

theorem spread_loop {h0 : H} {v o : Value} {m0 : Nat} : ∀ (post pre : List Bool) (cs out : List Cel) {h : H} {d : Value}, Sl 1 4 m0 h0 v (pre ++ post).length (bV (pre ++ post)) → (pre ++ post).length < 2 ^ 40 → Kp None' h0 h → (∃ ds, SubS m0 h0 d ds ∧ ds = cs) → post.length = cs.length + cntT post →
    Sl 6 47 h0.next h o out.length (out.flatMap celV) → out.length = (pre ++ post).length → (∀ c ∈ cs, CelOK c) → (∀ c ∈ out, CelOK c) →
    RetL E 93 8 [d, o, v, .int .i64 ((pre ++ post).length : Nat), .int .i64 (pre.length : Nat)] h fun b vals h' => Kp None' h0 h' ∧ b = 0 ∧ vals = [o] ∧ ∃ out' : List Cel, out'.length = (pre ++ post).length ∧ (∀ c ∈ out', CelOK c) ∧ Sl 6 47 h0.next h' o out'.length (out'.flatMap celV)
  | [], pre, cs, out, h, d, hs, hn, k, hd, hc, so, hl, hcs, hout => by
    refine .of_lp rfl (fun C L => nulls_Spread_L8_eq C L _ h) ?_
    simp only [nulls_Spread_L8]
    simp only [rd, List.append_nil, Int.lt_irrefl, decide_false]
    exact .ret ⟨k, rfl, rfl, out, by simpa using hl, hout, so⟩
  | x :: post, pre, cs, out, h, d, hs, hn, k, ⟨ds, hd, hdc⟩, hc, so, hl, hcs, hout => by
    subst hdc
    refine .of_lp rfl (fun C L => nulls_Spread_L8_eq C L _ h) ?_
    have hi : pre.length < (pre ++ x :: post).length := by simp
    obtain ⟨b, _, hix, hce⟩ := (hs.kpN k).get1 hi
    have hget : (pre ++ x :: post)[pre.length] = x := by simp
    rw [bV_at hi, hget] at hce
    have hdd : decide (((pre.length : Nat) : Int) < (((pre ++ x :: post).length : Nat) : Int)) = true := by simp; omega
    have w2 : IntKind.wrap .i64 (((pre.length : Nat) : Int) + 1) = (((pre ++ [x]).length : Nat) : Int) := by rw [wrap_succ (by omega)]; simp
    have happ : pre ++ x :: post = (pre ++ [x]) ++ post := by simp
    have hio : pre.length < out.length := by rw [hl]; exact hi
    simp only [nulls_Spread_L8]
    cases x with
    | true =>
      obtain ⟨ob, lo, hob, rfl, hg, hgl⟩ := so.blk (by omega)
      have ho1 := idx_at (w := 6) (b := ob) (c := out.length) hio
      have hln : pre.length * 6 + 6 ≤ (out.flatMap celV).length := by rw [flat_len celV_len]; omega
      have s1 := stV1_of (v := .bool true) (o := pre.length * 6) hg (by omega) rfl
      have e1 : (out.flatMap celV).set (pre.length * 6) (.bool true) = (out.set pre.length { out[pre.length] with null := true }).flatMap celV := by
        rw [← flat_set celV_len _ out _ hio]
        apply List.ext_getElem?
        intro j
        rw [List.getElem?_set, setAt_get _ _ _ _ (by rw [celV_len]; omega), celV_len]
        have hfa := flat_at celV_len out pre.length hio
        by_cases hj : pre.length * 6 = j
        · subst hj
          rw [if_pos rfl, if_pos (by omega), if_pos (by omega)]
          simp [celV]
        · rw [if_neg hj]
          by_cases hj2 : pre.length * 6 ≤ j ∧ j < pre.length * 6 + 6
          · rw [if_pos hj2]
            obtain ⟨i, rfl⟩ : ∃ i, j = pre.length * 6 + (i + 1) := ⟨j - pre.length * 6 - 1, by omega⟩
            have : (((out.flatMap celV).drop (pre.length * 6)).take 6)[i + 1]? = (celV out[pre.length])[i + 1]? := by rw [hfa]
            rw [List.getElem?_take, if_pos (by omega), List.getElem?_drop] at this
            rw [this]
            have : pre.length * 6 + (i + 1) - pre.length * 6 = i + 1 := by omega
            rw [this]
            rfl
          · rw [if_neg hj2]
      rw [e1] at s1
      have hc' : post.length = ds.length + cntT post := by
        have : cntT (true :: post) = cntT post + 1 := by simp [cntT]
        rw [this] at hc
        simp at hc; omega
      have kput : Kp (fun b => h0.next ≤ b) h (h.put ob (some (.cells ((out.set pre.length { out[pre.length] with null := true }).flatMap celV) 47 true lo))) := .put _ _ hob
      simp only [rd, hdd, hix, ldB_cell hce, ho1, Nat.add_zero, s1, w2]
      rw [happ] at hs hn hl ⊢
      refine spread_loop post (pre ++ [true]) ds (out.set pre.length { out[pre.length] with null := true }) hs hn (k.hi kput fun b hb => .inr hb) ⟨ds, hd, rfl⟩ hc' ?_ (by simpa using hl) hcs ?_
      · refine .inr ⟨ob, lo, hob, by simp, H.get_put_same _ _ _ (H.get_lt hg), by rw [flat_len celV_len]⟩
      · intro c hc
        rcases List.mem_or_eq_of_mem_set hc with hc | rfl
        · exact hout c hc
        · have := hout out[pre.length] (List.getElem_mem hio)
          exact ⟨this.i1, this.i2, this.u1, this.u2, this.s⟩
    | false =>
      have hcn : cntT (false :: post) = cntT post := by simp [cntT]
      rw [hcn] at hc
      obtain ⟨c, cs', rfl⟩ : ∃ c cs', ds = c :: cs' := by
        cases ds with
        | nil => simp at hc; have := cntT_le post; omega
        | cons c cs' => exact ⟨c, cs', rfl⟩
      obtain ⟨db, dof, v', x1, x2, x3, x4, x5, x6, x7⟩ := SubS.head (hd.kp k (fun _ _ _ h => h))
      obtain ⟨ob, h3, o1, o2, o3, o4⟩ := so.setF celV_len celV_one hio c
      have h3s : slV 47 6 h3 d (some 1) none none = some v' := by
        obtain ⟨db', dof', v'', y1, y2, y3, y4, y5, y6, y7⟩ := SubS.head (hd.kp (k.hi o4 fun b hb => .inr hb) (fun _ _ _ h => h))
        rw [y4]
        -- both are of the same slice
        have : v'' = v' := by
          rcases hd with ⟨_, h0⟩ | ⟨bb, oo, lo, full, _, rfl, hg, hdr⟩
          · cases h0
          · have e := x4
            have e' := y4
            unfold slV at e e'
            simp only at e e'
            split at e <;> simp at e
            split at e' <;> simp at e'
            rw [← e, ← e']
        rw [this]
      have e2 : stV 6 h ob (pre.length * 6) (celA c) = some h3 := o2
      simp only [rd, hdd, hix, ldB_cell hce, x1, x2, x4, o1, e2, h3s, x6, w2]
      have hc' : post.length = cs'.length + cntT post := by simp at hc; omega
      rw [happ] at hs hn hl ⊢
      -- what is left was there from the start
      have hd' : SubS m0 h0 v' cs' := by
        obtain ⟨_, _, v0, _, _, _, z4, z5, _⟩ := SubS.head hd
        have : v0 = v' := by
          rcases hd with ⟨_, h0⟩ | ⟨bb, oo, lo, full, _, rfl, hg, hdr⟩
          · cases h0
          · have e := x4
            have e' := z4
            unfold slV at e e'
            simp only at e e'
            split at e <;> simp at e
            split at e' <;> simp at e'
            rw [← e, ← e']
        rw [← this]; exact z5
      exact spread_loop post (pre ++ [false]) cs' (out.set pre.length c) hs hn (k.hi o4 fun b hb => .inr hb) ⟨cs', hd', rfl⟩ hc' o3 (by simpa using hl) (fun c hc => hcs c (by simp [hc])) (fun x hx => by
        rcases List.mem_or_eq_of_mem_set hx with hx | rfl
        · exact hout x hx
        · exact hcs _ (by simp))

theorem zCel_ok : CelOK zCel := ⟨zI1, zI2, zU1, zU2, zS⟩
theorem spread_spec {h : H} {v d : Value} {m0 : Nat} {l : List Bool} {cs : List Cel} (hs : Sl 1 4 m0 h v l.length (bV l)) (hl : l.length ≤ 2 ^ 20) (hd : Sl 6 47 m0 h d cs.length (cs.flatMap celV)) (hcl : cs.length < 2 ^ 40) (hcs : ∀ c ∈ cs, CelOK c) :
    Ret E 93 [v, d] h fun r h' => Kp None' h h' ∧ ((∃ e, DErr e ∧ r = .tuple #[.slice none 0 0, .int .i64 e]) ∨ (∃ o, ∃ out : List Cel, r = .tuple #[o, .int .i64 0] ∧ out.length = l.length ∧ (∀ c ∈ out, CelOK c) ∧ Sl 6 47 h.next h' o out.length (out.flatMap celV))) := by
  refine .of_fn rfl rfl (fun C L => nulls_Spread_eq C L _ h) ?_
  simp only [nulls_Spread]
  simp only [rd, hs.len]
  refine .seq (count_spec hs (by omega)) fun q ⟨q1, q2⟩ => ?_
  have hct := cntT_le l
  have w1 : IntKind.wrap .i64 (((l.length : Nat) : Int) - ((cntT l : Nat) : Int)) = ((l.length - cntT l : Nat) : Int) := by rw [wrap_i64 (by omega) (by omega)]; omega
  simp only [rd, q1, q2, hd.len, w1]
  by_cases h1 : l.length - cntT l > cs.length
  · have d1 : decide ((((l.length - cntT l : Nat) : Int)) > ((cs.length : Nat) : Int)) = true := by simp; omega
    simp only [rd, d1]
    exact .ret ⟨.refl _ _, .inl ⟨10, by simp [DErr], rfl⟩⟩
  · have d1 : decide ((((l.length - cntT l : Nat) : Int)) > ((cs.length : Nat) : Int)) = false := by simp; omega
    simp only [rd, d1]
    by_cases h2 : l.length - cntT l < cs.length
    · have d2 : decide ((((l.length - cntT l : Nat) : Int)) < ((cs.length : Nat) : Int)) = true := by simp; omega
      simp only [rd, d2]
      exact .ret ⟨.refl _ _, .inl ⟨11, by simp [DErr], rfl⟩⟩
    · have d2 : decide ((((l.length - cntT l : Nat) : Int)) < ((cs.length : Nat) : Int)) = false := by simp; omega
      have hmk0 := mkS_of (bytes := 56) (n := l.length) (e := 47) (zero := celV zCel) (h := h) (by unfold roomy; omega) (celV_one _)
      have hz : ([(.bool false), (.bool false), (.int .i64 (0)), (.int .u64 (0)), (.string (bs [])), (.complex .f64 0 0)] : List Value) = celV zCel := rfl
      have hmk := Sl.mkF (n := l.length) (e := 47) (h := h) (z := zCel) celV_len
      simp only [rd, d2, hz, hmk0]
      refine .seq (spread_loop (h0 := h) (pre := []) l cs (List.replicate l.length zCel) hs (by simp; omega) (.new _ _) ⟨cs, hd.sub, rfl⟩ (by omega) (by simpa using hmk) (by simp) hcs (fun c hc => by rw [(List.mem_replicate.1 hc).2]; exact zCel_ok)) fun q ⟨q1, _, q3, out, o1, o2, o3⟩ => ?_
      simp only [rd, q3]
      exact .ret ⟨q1, .inr ⟨_, out, rfl, by simpa using o1, o2, o3⟩⟩

end Go.Arm
