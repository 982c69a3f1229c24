/- Specs: a part of a patch is read.
   Specs: a patch is checked.
   Specs: a patch is read.
   Specs: a patch is written.
   Specs: what the document says that a patch may be: columns, cells, places.
   Specs: what the document says that a patch may be: cells, places, parts. -/
import Derived.Test.YtcambejnmifhmaaGreatDoorArm11
namespace Go.Arm
open Go.Proofs

structure PP where
  same : Bool
  edits : List Edt
  cells : List Cel
  ev : Value
  cv : Value
def ppV (x : PP) : List Value := [.bool x.same, x.ev, x.cv]
def ppA (x : PP) : Value := .agg ⟨ppV x⟩
/-- a part's lists lie in memory -/
structure PPok (m : Nat) (h : H) (x : PP) : Prop where
  e : Sl 7 49 m h x.ev x.edits.length (x.edits.flatMap edtV)
  c : Sl 6 47 m h x.cv x.cells.length (x.cells.flatMap celV)
theorem PPok.kpN {m : Nat} {h h' : H} {x : PP} (p : PPok m h x) (k : Kp None' h h') : PPok m h' x := ⟨p.e.kpN k, p.c.kpN k⟩
theorem PPok.low {m m' : Nat} {h : H} {x : PP} (p : PPok m h x) (hm : m' ≤ m) : PPok m' h x := ⟨p.e.low hm, p.c.low hm⟩
theorem PPok.one {m : Nat} {h : H} {x : PP} (p : PPok m h x) : (ppV x).all Go.Arm.one = true := by
  simp only [ppV, List.all_cons, List.all_nil, p.e.one, p.c.one]; rfl
theorem ppV_len (x : PP) : (ppV x).length = 3 := rfl

def textE (l : List UInt8) : List UInt8 := uvarE l.length ++ l
def partE (c : Col) (x : PP) : List UInt8 := (if x.same then uvarE x.edits.length else []) ++ editsE c.kind 0 x.edits ++ textE (columnE c x.cells)
/-- what is known of a part that was read -/
structure PartOK (before : List Col) (R : Nat) (c : Col) (x : PP) : Prop where
  same : x.same = before.any (colEq c)
  none : x.same = false → x.edits = []
  ed : ∀ e ∈ x.edits, CelOK e.cel ∧ e.row < R
  el : x.edits.length ≤ 10000
  cl : ∀ d ∈ x.cells, CelOK d
  ck : checkD c x.cells = 0

abbrev pz : List Value := [.bool false, .slice none 0 0, .slice none 0 0]
theorem bldT_43b (b : Bool) : bldT E 43 [(0, .bool b)] = some (.agg ⟨[.bool b, .slice none 0 0, .slice none 0 0]⟩) := by kernel_rfl
theorem bldT_43 : bldT E 43 [] = some (.agg ⟨pz⟩) := by kernel_rfl

/-- a patch in memory: five cells -/
def patL (bv : Value) (rows : Nat) (av : Value) (tov : Nat) (pv : Value) : List Value := [bv, .int .i64 (rows : Nat), av, .int .i64 (tov : Nat), pv]
theorem patL_one {bv av pv : Value} {rows tov : Nat} (h1 : one bv = true) (h2 : one av = true) (h3 : one pv = true) : (patL bv rows av tov pv).all one = true := by
  simp only [patL, List.all_cons, List.all_nil, h1, h2, h3]; rfl
theorem oneL_pat {bv av pv : Value} {rows tov : Nat} (h1 : one bv = true) (h2 : one av = true) (h3 : one pv = true) : oneL (Value.agg ⟨patL bv rows av tov pv⟩).cells.toList = some (patL bv rows av tov pv) := by
  show (if (patL bv rows av tov pv).all one then some (patL bv rows av tov pv) else none) = _
  rw [if_pos (patL_one h1 h2 h3)]

theorem cond_min (a b : Nat) : cond (decide (((b : Nat) : Int) < ((a : Nat) : Int))) ((b : Nat) : Int) ((a : Nat) : Int) = ((min a b : Nat) : Int) := by
  by_cases h : b < a
  · rw [lt_dec h, cond_true, Nat.min_eq_right (by omega)]
  · rw [ge_dec (Nat.not_lt.1 h), cond_false, Nat.min_eq_left (by omega)]

theorem read_part {h : H} {p : Nat} {s : ByteArray} {a rows tov : Nat} {bv av pv : Value} {before : List Col} {m0 : Nat} {c : Col} (hc : colOk1 c = true) (hb : before.length < 2 ^ 40) (hrows : rows ≤ 10000) (hto : tov ≤ 10000) (hs : s.size ≤ 2 ^ 30) (ht : Tabs h) (hp2 : 2 ≤ p) (ha : a ≤ s.size) (r : Rd h p s a 0)
    (sb : Sl 3 55 m0 h bv before.length (before.flatMap colV)) (oa : one av = true) (op : one pv = true) (hm0 : p < m0) :
    Ret E 12 [.agg ⟨patL bv rows av tov pv⟩, ptr p 0, colA c] h fun v h' => Kp (Only p) h h' ∧ ((∃ e ys, DErr e ∧ ys.length = 3 ∧ ys.all one = true ∧ v = .tuple #[.agg ⟨ys⟩, .int .i64 e]) ∨
      (∃ (n : Nat) (x : PP), v = .tuple #[ppA x, .int .i64 0] ∧ a + n ≤ s.size ∧ Rd h' p s (a + n) 0 ∧ partE c x = (rest s a).take n ∧ PartOK before (min rows tov) c x ∧ PPok h.next h' x)) := by
  refine .of_fn rfl rfl (fun C L => _diff_Patch__read_eq C L _ h) ?_
  obtain ⟨_, _, hkind⟩ := colOk_iff hc
  obtain ⟨h1, hh1⟩ : ∃ h1, h1 = h.new (.cells (patL bv rows av tov pv) 26 true false) := ⟨_, rfl⟩
  obtain ⟨h3, hh3⟩ : ∃ h3, h3 = h1.new (.cells (colV c) 55 true false) := ⟨_, rfl⟩
  obtain ⟨h5, hh5⟩ : ∃ h5, h5 = h3.new (.cells pz 43 true false) := ⟨_, rfl⟩
  have n1 : h1.next = h.next + 1 := by rw [hh1]; rfl
  have n3 : h3.next = h.next + 2 := by rw [hh3, H.next_new, n1]
  have n5 : h5.next = h.next + 3 := by rw [hh5, H.next_new, n3]
  have k5 : Kp None' h h5 := by rw [hh5, hh3, hh1]; exact ((Kp.new _ _).thenNew _).thenNew _
  have g0 : h5.get h.next = some (.cells (patL bv rows av tov pv) 26 true false) := by rw [hh5, hh3]; exact H.get_new_old (H.get_new_old (by rw [hh1]; exact get_new_self _ _))
  have g1 : h5.get (h.next + 1) = some (.cells (colV c) 55 true false) := by rw [hh5, ← n1]; exact H.get_new_old (by rw [hh3]; exact get_new_self _ _)
  have g2 : h5.get (h.next + 2) = some (.cells pz 43 true false) := by rw [hh5, ← n3]; exact get_new_self _ _
  have ob := sb.one
  have lb : ldV h5 h.next (0 + 0) = some bv := ldV_of g0 rfl ob
  simp only [_diff_Patch__read]
  simp only [rd, oneL_pat ob oa op, oneL_col, ← hh1, ← hh3, ← hh5, n1, n3, lb, ldA3 g1]
  refine .seq (contains_spec (sb.kpN k5) hb) fun q ⟨kq, q1⟩ => ?_
  have hlt := r.lt
  obtain ⟨same, hsame⟩ : ∃ same, same = before.any (colEq c) := ⟨_, rfl⟩
  rw [← hsame] at q1
  obtain ⟨h11, hh11⟩ : ∃ h11, h11 = q.2.new (.cells pz 43 true false) := ⟨_, rfl⟩
  have g11 : h11.get q.2.next = some (.cells pz 43 true false) := by rw [hh11]; exact get_new_self _ _
  have s12 : stV 3 h11 q.2.next 0 (.agg ⟨[.bool same, .slice none 0 0, .slice none 0 0]⟩) = some (h11.put q.2.next (some (.cells [.bool same, .slice none 0 0, .slice none 0 0] 43 true false))) := stV_full (n := 3) g11 rfl rfl rfl
  obtain ⟨h12, hh12⟩ : ∃ h12, h12 = h11.put q.2.next (some (.cells [.bool same, .slice none 0 0, .slice none 0 0] 43 true false)) := ⟨_, rfl⟩
  have g12 : h12.get q.2.next = some (.cells [.bool same, .slice none 0 0, .slice none 0 0] 43 true false) := by rw [hh12]; exact H.get_put_same _ _ _ (H.get_lt g11)
  have k12 : Kp None' q.2 h12 := by rw [hh12, hh11]; exact (Kp.new _ _).putNew _ (Nat.le_refl _)
  have kk12 := (k5.then kq).then k12
  have kq12 := kq.then k12
  have c0 := kq12.get g0 (fun h => h)
  have c1 := kq12.get g1 (fun h => h)
  have c2 := kq12.get g2 (fun h => h)
  have r12 := r.kpX kk12 (fun h => h)
  have hkq := kq.1
  have lsame : ldB h12 q.2.next (0 + 0) = some same := ldB_of g12 rfl
  have hX : h.next + 3 ≤ q.2.next := by omega
  -- from the text on
  have tail : ∀ (h20 : H) (a2 : Nat) (ev : Value) (ed : List Edt) (n0 : Nat), a2 = a + n0 → Kp (Only p) h h20 → Rd h20 p s a2 0 → a2 ≤ s.size → h20.get (h.next + 1) = some (.cells (colV c) 55 true false) → h20.get (h.next + 2) = some (.cells pz 43 true false) → h20.get q.2.next = some (.cells [.bool same, ev, .slice none 0 0] 43 true false) →
      Sl 7 49 (q.2.next + 1) h20 ev ed.length (ed.flatMap edtV) → (∀ e ∈ ed, CelOK e.cel ∧ e.row < min rows tov) → ed.length ≤ 10000 → (same = false → ed = []) → (if same then uvarE ed.length else []) ++ editsE c.kind 0 ed = (rest s a).take n0 →
      W E (fun C L => (C 28 [ptr p 0, (.int .i64 (2097152 : Int))] h20).bind fun p22 => (asS p22.1).bind fun s23 => (C 29 [ptr p 0] p22.2).bind fun p24 => (asI .i64 p24.1).bind fun x25 => cond (x25 != (0 : Int))
          ((bldT E 43 []).bind fun v26 => (C 29 [ptr p 0] p24.2).bind fun p27 => (asI .i64 p27.1).bind fun x28 => (stV 3 p27.2 (h.next + 2) 0 v26).bind fun h29 => (ldA 3 h29 (h.next + 2) 0).bind fun v30 => some (Value.tuple #[v30, (.int .i64 x28)], h29))
          ((ldA 3 p24.2 (h.next + 1) 0).bind fun v31 => (C 34 [v31, (.string s23)] p24.2).bind fun p32 => (tup2 p32.1).bind fun p33 => (asI .i64 p33.2).bind fun x34 => (stV 1 p32.2 q.2.next (0 + 2) p33.1).bind fun h35 => (ldA 3 h35 q.2.next 0).bind fun v36 => (stV 3 h35 (h.next + 2) 0 v36).bind fun h37 => (ldA 3 h37 (h.next + 2) 0).bind fun v38 => some (Value.tuple #[v38, (.int .i64 x34)], h37)))
        fun z => Kp (Only p) h z.2 ∧ ((∃ e ys, DErr e ∧ ys.length = 3 ∧ ys.all one = true ∧ z.1 = .tuple #[.agg ⟨ys⟩, .int .i64 e]) ∨
          (∃ (n : Nat) (x : PP), z.1 = .tuple #[ppA x, .int .i64 0] ∧ a + n ≤ s.size ∧ Rd z.2 p s (a + n) 0 ∧ partE c x = (rest s a).take n ∧ PartOK before (min rows tov) c x ∧ PPok h.next z.2 x)) := by
    intro h20 a2 ev ed n0 he2 kk r20 ha2 b1 b2 bX se hed hel hno hE
    have hk20 := kk.1
    refine .seq (rText_ok r20 ha2 (by omega) 2097152 (by omega)) fun q2 ⟨kq2, hq2⟩ => ?_
    have kk2 := kk.then kq2
    have b12 := kq2.get b1 (by simp only [Only]; omega)
    have b22 := kq2.get b2 (by simp only [Only]; omega)
    have bX2 := kq2.get bX (by simp only [Only]; omega)
    have se2 := se.kpO kq2 (by omega)
    have put2 : ∀ {h' : H} (x : Option Blk), Kp (Only p) h h' → Kp (Only p) h (h'.put (h.next + 2) x) := fun x k => k.putNew x (by omega)
    rcases hq2 with ⟨e, he, hv, r3⟩ | ⟨t, n, hv, r3, hn, _, _, hte⟩
    · simp only [rd, hv]
      refine .seq (err_spec r3) fun z ⟨z1, z2⟩ => ?_
      simp only [rd, z1, z2, he.bne, bldT_43]
      refine .seq (err_spec r3) fun z ⟨z1, z2⟩ => ?_
      have s1 : stV 3 q2.2 (h.next + 2) 0 (.agg ⟨pz⟩) = some (q2.2.put (h.next + 2) (some (.cells pz 43 true false))) := stV_full (n := 3) b22 rfl rfl rfl
      have l1 : ldA 3 (q2.2.put (h.next + 2) (some (.cells pz 43 true false))) (h.next + 2) 0 = some (.agg ⟨pz⟩) := ldA_full (H.get_put_same _ _ _ (H.get_lt b22)) rfl
      simp only [rd, z1, z2, s1, l1]
      exact .ret ⟨put2 _ kk2, .inl ⟨e, pz, he.derr, rfl, rfl, rfl⟩⟩
    · simp only [rd, hv]
      refine .seq (err_spec r3) fun z ⟨z1, z2⟩ => ?_
      simp only [rd, z1, z2, show ((0 : Int) != 0) = false from rfl, ldA3 b12]
      have hts : t.size ≤ s.size := by
        have := congrArg List.length hte
        rw [List.length_append, List.length_take, rest_length, size_toList] at this
        omega
      refine .seq (cDecode_spec (col := c) (s := t) (by omega) (ht.kp kk2 (by simp only [Only]; omega) (by simp only [Only]; omega))) fun q3 ⟨kq3, hq3⟩ => ?_
      have kk3 : Kp (Only p) h q3.2 := kk2.hi kq3 fun b hb => hb.elim
      have bX3 := kq3.get bX2 (fun h => h)
      have b23 := kq3.get b22 (fun h => h)
      have se3 := se2.kpN kq3
      have r4 := r3.kpX kq3 (fun h => h)
      have oe := se.one
      have hk3 := kk3.1
      -- the cells are put down
      have fin : ∀ (cv : Value), one cv = true → ∃ h35 h37, stV 1 q3.2 q.2.next (0 + 2) cv = some h35 ∧ ldA 3 h35 q.2.next 0 = some (.agg ⟨[.bool same, ev, cv]⟩) ∧ stV 3 h35 (h.next + 2) 0 (.agg ⟨[.bool same, ev, cv]⟩) = some h37 ∧ ldA 3 h37 (h.next + 2) 0 = some (.agg ⟨[.bool same, ev, cv]⟩) ∧ Kp (Only p) h h37 ∧ Kp (fun b => b = q.2.next ∨ b = h.next + 2) q3.2 h37 := by
        intro cv ocv
        have hone : [Value.bool same, ev, cv].all one = true := by simp only [List.all_cons, List.all_nil, oe, ocv]; rfl
        obtain ⟨h35, hh35⟩ : ∃ h35, h35 = q3.2.put q.2.next (some (.cells [.bool same, ev, cv] 43 true false)) := ⟨_, rfl⟩
        have g35 : h35.get q.2.next = some (.cells [.bool same, ev, cv] 43 true false) := by rw [hh35]; exact H.get_put_same _ _ _ (H.get_lt bX3)
        have k35 : Kp (Only q.2.next) q3.2 h35 := by rw [hh35]; exact .put _ _ rfl
        have b235 := k35.get b23 (by simp only [Only]; omega)
        refine ⟨h35, h35.put (h.next + 2) (some (.cells [.bool same, ev, cv] 43 true false)), ?_, ldA_full g35 rfl, stV_full (n := 3) b235 rfl rfl hone, ldA_full (H.get_put_same _ _ _ (H.get_lt b235)) rfl, ?_, ?_⟩
        · rw [hh35]; exact stV1_of bX3 (by simp) ocv
        · exact put2 _ (by rw [hh35]; exact kk3.putNew _ (by omega))
        · refine (k35.weaken fun b hb => .inl hb).then ?_
          exact .put _ _ (.inr rfl)
      rcases hq3 with ⟨e, he, hv3⟩ | ⟨o, l, hv3, hok, sl, hck, hcol⟩
      · obtain ⟨h35, h37, e1, e2, e3, e4, e5, _⟩ := fin (.slice none 0 0) rfl
        simp only [rd, hv3, e1, e2, e3, e4]
        refine .ret ⟨e5, .inl ⟨e, _, he, ?_, ?_, rfl⟩⟩
        · rfl
        · simp only [List.all_cons, List.all_nil, oe]; rfl
      · obtain ⟨h35, h37, e1, e2, e3, e4, e5, e6⟩ := fin o sl.one
        simp only [rd, hv3, e1, e2, e3, e4]
        have hkq2 := kq2.1
        have hXlt := H.get_lt bX2
        have hnx : ∀ b : Nat, (b = q.2.next ∨ b = h.next + 2) → b < q.2.next + 1 := fun b hb => by omega
        refine .ret ⟨e5, .inr ⟨n0 + n, ⟨same, ed, l, ev, o⟩, rfl, by omega, ?_, ?_, ⟨hsame, hno, hed, hel, hok, hck⟩, ?_, ?_⟩⟩
        · have := r4.kpX e6 (by omega)
          rw [he2] at this
          rwa [Nat.add_assoc] at this
        · unfold partE textE
          have h3 : uvarE (columnE c l).length ++ columnE c l = (rest s (a + n0)).take n := by
            rw [← he2, ← hte, ← hcol, size_toList]
          exact rest_one hE h3
        · exact (se3.kp e6 (fun b hb hx => by have := hnx b hx; omega)).low (by omega)
        · exact (sl.kp e6 (fun b hb hx => by have := hnx b hx; omega)).low (by omega)
  simp only [rd, q1, bldT_43b, ← hh11, s12, ← hh12, lsame]
  cases hsv : same with
  | false =>
    subst hsv
    simp only [rd]
    refine tail h12 a (.slice none 0 0) [] 0 (by omega) (kk12.weaken fun _ h => h.elim) r12 ha c1 c2 g12 .nil (by simp) (by simp) (fun _ => rfl) (by simp [editsE])
  | true =>
    subst hsv
    have lk : ldI .i64 h12 (h.next + 1) (0 + 1) = some c.kind := ldI_of c1 rfl
    have lr : ldI .i64 h12 h.next (0 + 1) = some (rows : Int) := ldI_of c0 rfl
    have lt : ldI .i64 h12 h.next (0 + 3) = some (tov : Int) := ldI_of c0 rfl
    simp only [rd, lk, lr, lt, cond_min]
    refine .seq (edits_spec (R := min rows tov) hkind (by omega) (by omega) (ht.kp kk12 (fun h => h) (fun h => h)) hp2 ha r12) fun q2 ⟨kq2, hq2⟩ => ?_
    have d1 := kq2.get c1 (by simp only [Only]; omega)
    have d2 := kq2.get c2 (by simp only [Only]; omega)
    have dX := kq2.get g12 (by simp only [Only]; omega)
    have hk12 := kk12.1
    have kk2 : Kp (Only p) h q2.2 := (kk12.weaken (Y := Only p) fun _ h => h.elim).then kq2
    have hkk2 := kk2.1
    have hltX := H.get_lt g12
    have fin : ∀ (ev : Value), one ev = true → ∃ h46, stV 1 q2.2 q.2.next (0 + 1) ev = some h46 ∧ h46.get q.2.next = some (.cells [.bool true, ev, .slice none 0 0] 43 true false) ∧ Kp (Only q.2.next) q2.2 h46 := by
      intro ev oev
      exact ⟨_, stV1_of dX (by simp) oev, H.get_put_same _ _ _ (H.get_lt dX), .put _ _ rfl⟩
    rcases hq2 with ⟨e, he, hv⟩ | ⟨n, o, l, hv, hn, r2, hll, hlok, hE, sl⟩
    · obtain ⟨h46, e1, e2, e3⟩ := fin (.slice none 0 0) rfl
      have d246 := e3.get d2 (by simp only [Only]; omega)
      have s1 : stV 3 h46 (h.next + 2) 0 (.agg ⟨pz⟩) = some (h46.put (h.next + 2) (some (.cells pz 43 true false))) := stV_full (n := 3) d246 rfl rfl rfl
      have l1 : ldA 3 (h46.put (h.next + 2) (some (.cells pz 43 true false))) (h.next + 2) 0 = some (.agg ⟨pz⟩) := ldA_full (H.get_put_same _ _ _ (H.get_lt d246)) rfl
      simp only [rd, hv, e1, he.bne, bldT_43, s1, l1]
      refine .ret ⟨?_, .inl ⟨e, pz, he, rfl, rfl, rfl⟩⟩
      refine Kp.putNew ?_ _ (by omega)
      exact kk2.hi e3 fun b hb => .inr (by rw [hb]; omega)
    · obtain ⟨h46, e1, e2, e3⟩ := fin o sl.one
      simp only [rd, hv, e1, show ((0 : Int) != 0) = false from rfl]
      have hX12 : h12.next = q.2.next + 1 := by rw [hh12]; show h11.next = _; rw [hh11]; rfl
      rw [hX12] at sl
      exact tail h46 (a + n) o l n rfl (kk2.hi e3 fun b hb => .inr (by rw [hb]; omega)) (r2.kpX e3 (by simp only [Only]; omega)) hn (e3.get d1 (by simp only [Only]; omega)) (e3.get d2 (by simp only [Only]; omega)) e2
        (sl.kpO e3 (by omega)) hlok hll (fun h => by cases h) (by simpa using hE)
end Go.Arm
namespace Go.Arm
open Go.Proofs

theorem Sl.veq1 {w m : Nat} {e : TypeId} {h : H} {v : Value} {n : Nat} {cs : List Value} (s : Sl w e m h v n cs) : Arm.veq1 v v = true := by
  rcases s with ⟨rfl, _⟩ | ⟨b, l, _, rfl, _⟩ <;> simp [Arm.veq1]
theorem Sl.veq {w m : Nat} {e : TypeId} {h : H} {v : Value} {n : Nat} {cs : List Value} (s : Sl w e m h v n cs) : Arm.veq v v = true := by
  have := s.veq1
  rcases s with ⟨rfl, _⟩ | ⟨b, l, _, rfl, _⟩ <;> exact this
theorem PPok.veq {m : Nat} {h : H} {x : PP} (p : PPok m h x) : Arm.veq (ppA x) (ppA x) = true := by
  show Arm.veqL (ppV x) (ppV x) = true
  have hb : Arm.veq1 (.bool x.same) (.bool x.same) = true := by simp [Arm.veq1]
  simp only [ppV, veqL, p.e.veq1, p.c.veq1, hb, Bool.and_self]

/-- a patch lies in memory -/
structure PatM (h : H) (bv av pv : Value) (before after : List Col) (parts : List PP) : Prop where
  b : Sl 3 55 0 h bv before.length (before.flatMap colV)
  a : Sl 3 55 0 h av after.length (after.flatMap colV)
  p : Sl 3 43 0 h pv parts.length (parts.flatMap ppV)
  x : ∀ x ∈ parts, PPok 0 h x
theorem PatM.kpN {h h' : H} {bv av pv : Value} {before after : List Col} {parts : List PP} (m : PatM h bv av pv before after parts) (k : Kp None' h h') : PatM h' bv av pv before after parts :=
  ⟨m.b.kpN k, m.a.kpN k, m.p.kpN k, fun x hx => (m.x x hx).kpN k⟩

def edGo (c : Col) (M : Nat) : Int → List Edt → Bool
  | _, [] => true
  | last, e :: l => if (e.row : Int) ≤ last then false else if M ≤ e.row then false else if checkD c [e.cel] = 30 then false else edGo c M e.row l
def fitB (before : List Col) (rows tov : Nat) (c : Col) (x : PP) : Bool :=
  if x.same ≠ before.any (colEq c) then false else if x.cells.length ≠ (if before.any (colEq c) then tov - rows else tov) then false else if before.any (colEq c) = false ∧ 0 < x.edits.length then false
  else if checkD c x.cells = 30 then false else edGo c (min rows tov) (-1) x.edits

theorem fits_loop {h0 : H} {P cb : Nat} {ev bv av pv : Value} {rows tov : Nat} {c : Col} (h0t : Tabs h0) : ∀ (post pre : List Edt) {last : Int} {h : H}, Sl 7 49 0 h0 ev (pre ++ post).length ((pre ++ post).flatMap edtV) → (pre ++ post).length < 2 ^ 40 → (∀ e ∈ post, CelOK e.cel ∧ e.row < 2 ^ 60) → Kp None' h0 h →
    h.get P = some (.cells (patL bv rows av tov pv) 26 true false) → h.get cb = some (.cells (colV c) 55 true false) →
    RetL E 36 9 [ptr P 0, ptr cb 0, .int .i64 last, ev, .int .i64 ((pre ++ post).length : Nat), .int .i64 (pre.length : Nat)] h fun b vals h' => Kp None' h h' ∧ if edGo c (min rows tov) last post then b = 0 else b = 1 ∧ vals = [.bool false]
  | [], pre, last, h, hs, hn, hok, kk, gP, gc => by
    refine .of_lp rfl (fun C L => _diff_Patch__fits_L9_eq C L _ h) ?_
    simp only [_diff_Patch__fits_L9]
    simp only [rd, asP_ptr, List.append_nil, Int.lt_irrefl, decide_false]
    exact .ret ⟨.refl _ _, rfl⟩
  | e :: post, pre, last, h, hs, hn, hok, kk, gP, gc => by
    refine .of_lp rfl (fun C L => _diff_Patch__fits_L9_eq C L _ h) ?_
    have hi : pre.length < (pre ++ e :: post).length := by simp
    obtain ⟨b, _, hix, hce⟩ := (hs.kpN kk).get edtV_len hi
    have hget : (pre ++ e :: post)[pre.length] = e := by simp
    rw [hget] at hce
    have hld : ldA 7 h b (pre.length * 7) = some (edtA e) := ldA_cells hce
    have hz : ([(.int .i64 (0)), (.bool false), (.bool false), (.int .i64 (0)), (.int .u64 (0)), (.string (bs [])), (.complex .f64 0 0)] : List Value) = ez := rfl
    have kt := tmpE_kp h e
    have gt := tmpE_get h e
    have gP2 := kt.get gP (fun h => h)
    have gc2 := kt.get gc (fun h => h)
    have lr : ldI .i64 (tmpE h e) P (0 + 1) = some (rows : Int) := ldI_of gP2 rfl
    have lt : ldI .i64 (tmpE h e) P (0 + 3) = some (tov : Int) := ldI_of gP2 rfl
    simp only [_diff_Patch__fits_L9]
    simp only [rd, asP_ptr, lt_dec hi, hix, hld, hz, tmpE_st, edt_ldR gt, lr, lt, cond_min]
    unfold edGo
    by_cases h1 : (e.row : Int) ≤ last
    · simp only [rd, h1, decide_true, if_true]
      exact .ret ⟨kt, rfl, rfl⟩
    · simp only [rd, h1, decide_false, if_false]
      by_cases h2 : min rows tov ≤ e.row
      · have d2 : decide (((e.row : Nat) : Int) ≥ ((min rows tov : Nat) : Int)) = true := by simp; omega
        simp only [rd, d2, h2, if_true]
        exact .ret ⟨kt, rfl, rfl⟩
      · have d2 : decide (((e.row : Nat) : Int) ≥ ((min rows tov : Nat) : Int)) = false := by simp; omega
        simp only [rd, d2, h2, if_false, ldA3 gc2, edt_ldC gt, bldS_41]
        have kn : Kp None' (tmpE h e) ((tmpE h e).new (.cells (celV e.cel) 47 true false)) := .new _ _
        have k2 := kt.then kn
        have s1 : Sl 6 47 0 ((tmpE h e).new (.cells (celV e.cel) 47 true false)) (.slice (some ⟨(tmpE h e).next, 0, none⟩) 1 1) [e.cel].length ([e.cel].flatMap celV) := .inr ⟨_, false, Nat.zero_le _, rfl, by rw [get_new_self]; simp, rfl⟩
        have hce := hok e (by simp)
        refine .seq (Q1 := fun z => Kp None' (tmpE h e) z.2 ∧ z.1 = decide (checkD c [e.cel] = 30)) (.seq (dmay_spec (col := c) (h0t.kp (kk.then k2) (fun h => h) (fun h => h)) s1 (by simp) (by simpa using hce.1)) fun q ⟨kq, q1⟩ => ?_) fun z ⟨kz0, z1⟩ => ?_
        · simp only [rd, q1]
          refine .ret ⟨kn.then kq, ?_⟩
          by_cases h : checkD c [e.cel] = 30 <;> simp [h]
        · have kz := kt.then kz0
          simp only [rd, z1]
          by_cases h3 : checkD c [e.cel] = 30
          · simp only [rd, h3, decide_true, if_true]
            exact .ret ⟨kz, rfl, rfl⟩
          · have gt2 : z.2.get h.next = some (.cells (edtV e) 49 true false) := kz0.get gt (fun h => h)
            simp only [rd, h3, decide_false, if_false, edt_ldR gt2, wsucc (x := e) (show pre.length < 2 ^ 62 by omega)]
            rw [app_assoc1] at hs hn ⊢
            refine W.mono (fits_loop h0t post (pre ++ [e]) (last := (e.row : Int)) hs hn (fun d hd => hok d (by simp [hd])) (kk.then kz) (kz.get gP (fun h => h)) (kz.get gc (fun h => h))) fun r ⟨r1, r2⟩ => ⟨kz.then r1, r2⟩

theorem Sl.getP {h : H} {v : Value} {m : Nat} {l : List PP} (s : Sl 3 43 m h v l.length (l.flatMap ppV)) {i : Nat} (hi : i < l.length) : ∃ b, m ≤ b ∧ idx 3 v (i : Nat) = some (b, i * 3) ∧ ldA 3 h b (i * 3) = some (ppA l[i]) := by
  obtain ⟨b, hm, hix, hce⟩ := s.get ppV_len hi
  exact ⟨b, hm, hix, ldA_cells hce⟩
theorem Sl.getC {h : H} {v : Value} {m : Nat} {l : List Col} (s : Sl 3 55 m h v l.length (l.flatMap colV)) {i : Nat} (hi : i < l.length) : ∃ b, m ≤ b ∧ idx 3 v (i : Nat) = some (b, i * 3) ∧ ldA 3 h b (i * 3) = some (colA l[i]) := by
  obtain ⟨b, hm, hix, hce⟩ := s.get colV_len hi
  exact ⟨b, hm, hix, ldA_cells hce⟩
theorem wrap_sub {a b : Nat} (ha : a ≤ 10000) (hb : b ≤ 10000) : cond (decide ((0 : Int) > IntKind.wrap .i64 (((a : Nat) : Int) - ((b : Nat) : Int)))) (0 : Int) (IntKind.wrap .i64 (((a : Nat) : Int) - ((b : Nat) : Int))) = ((a - b : Nat) : Int) := by
  rw [wrap_i64 (by omega) (by omega)]
  by_cases h : a < b
  · rw [show decide ((0 : Int) > ((a : Nat) : Int) - ((b : Nat) : Int)) = true by simp; omega, cond_true]; omega
  · rw [show decide ((0 : Int) > ((a : Nat) : Int) - ((b : Nat) : Int)) = false by simp; omega, cond_false]; omega

/-- what the checks ask of the sizes -/
structure PatN (before after : List Col) (rows tov : Nat) (parts : List PP) : Prop where
  b : before.length < 2 ^ 40
  a : after.length < 2 ^ 40
  p : parts.length < 2 ^ 40
  r : rows ≤ 10000
  t : tov ≤ 10000
  e : ∀ x ∈ parts, x.edits.length < 2 ^ 40 ∧ x.cells.length < 2 ^ 33 ∧ (∀ d ∈ x.cells, CelOK d) ∧ ∀ e ∈ x.edits, CelOK e.cel ∧ e.row < 2 ^ 60

theorem fits_spec {h : H} {bv av pv : Value} {before after : List Col} {rows tov : Nat} {parts : List PP} (ht : Tabs h) (m : PatM h bv av pv before after parts) (n : PatN before after rows tov parts) {i : Nat} (hi : i < parts.length) (hia : i < after.length) :
    Ret E 36 [.agg ⟨patL bv rows av tov pv⟩, .int .i64 (i : Nat)] h fun v h' => Kp None' h h' ∧ v = .bool (fitB before rows tov after[i] parts[i]) := by
  refine .of_fn rfl rfl (fun C L => _diff_Patch__fits_eq C L _ h) ?_
  obtain ⟨c, hc⟩ : ∃ c, c = after[i] := ⟨_, rfl⟩
  obtain ⟨x, hx⟩ : ∃ x, x = parts[i] := ⟨_, rfl⟩
  have hxm : x ∈ parts := by rw [hx]; exact List.getElem_mem _
  rw [← hc, ← hx]
  obtain ⟨h2, hh2⟩ : ∃ h2, h2 = h.new (.cells (patL bv rows av tov pv) 26 true false) := ⟨_, rfl⟩
  have n2 : h2.next = h.next + 1 := by rw [hh2]; rfl
  obtain ⟨h4, hh4⟩ : ∃ h4, h4 = holes 2 h2 := ⟨_, rfl⟩
  have n4 : h4.next = h.next + 3 := by rw [hh4]; show h2.next + 1 + 1 = _; omega
  have k2 : Kp None' h h2 := by rw [hh2]; exact .new _ _
  have k24 : Kp None' h2 h4 := by rw [hh4]; exact (Kp.new _ _).thenNew _
  have k4 := k2.then k24
  have g4 : h4.get h.next = some (.cells (patL bv rows av tov pv) 26 true false) := k24.get (by rw [hh2]; exact get_new_self _ _) (fun h => h)
  obtain ⟨h5, hh5⟩ : ∃ h5, h5 = (h4.put (h.next + 1) (some (.cells [(.string (bs [])), (.int .i64 (0)), (.bool false)] 55 true false))).put (h.next + 2) (some (.cells pz 43 true false)) := ⟨_, rfl⟩
  have k5 : Kp None' h h5 := by rw [hh5]; exact (k4.putNew _ (by omega)).putNew _ (by omega)
  have g5 : h5.get h.next = some (.cells (patL bv rows av tov pv) 26 true false) := by rw [hh5, H.get_put_ne _ _ _ _ (by omega), H.get_put_ne _ _ _ _ (by omega)]; exact g4
  have g5c : h5.get (h.next + 1) = some (.cells [(.string (bs [])), (.int .i64 (0)), (.bool false)] 55 true false) := by rw [hh5, H.get_put_ne _ _ _ _ (by omega)]; exact H.get_put_same _ _ _ (by omega)
  have g5p : h5.get (h.next + 2) = some (.cells pz 43 true false) := by rw [hh5]; exact H.get_put_same _ _ _ (by rw [H.next_put]; omega)
  have oa := m.a.one
  have ob := m.b.one
  have op := m.p.one
  have la4 : ldV h4 h.next (0 + 2) = some av := ldV_of g4 rfl oa
  have lp4 : ldV h4 h.next (0 + 4) = some pv := ldV_of g4 rfl op
  have m4 := m.kpN k4
  obtain ⟨bc, _, ixc, ldc⟩ := m4.a.getC hia
  obtain ⟨bp, _, ixp, ldp⟩ := m4.p.getP hi
  rw [← hc] at ldc
  rw [← hx] at ldp
  have s5 : stV 3 h5 (h.next + 1) 0 (colA c) = some (h5.put (h.next + 1) (some (.cells (colV c) 55 true false))) := stV_full (n := 3) g5c rfl rfl (colV_one c)
  obtain ⟨h11, hh11⟩ : ∃ h11, h11 = h5.put (h.next + 1) (some (.cells (colV c) 55 true false)) := ⟨_, rfl⟩
  have k11 : Kp None' h h11 := by rw [hh11]; exact k5.putNew _ (by omega)
  have g11 : h11.get h.next = some (.cells (patL bv rows av tov pv) 26 true false) := by rw [hh11, H.get_put_ne _ _ _ _ (by omega)]; exact g5
  have g11c : h11.get (h.next + 1) = some (.cells (colV c) 55 true false) := by rw [hh11]; exact H.get_put_same _ _ _ (H.get_lt g5c)
  have g11p : h11.get (h.next + 2) = some (.cells pz 43 true false) := by rw [hh11, H.get_put_ne _ _ _ _ (by omega)]; exact g5p
  have m11 := m.kpN k11
  obtain ⟨bp', _, ixp', ldp'⟩ := m11.p.getP hi
  rw [← hx] at ldp'
  have hbb : bp' = bp := by rw [ixp] at ixp'; simp at ixp'; exact ixp'.symm
  rw [hbb] at ldp'
  have px := m.x x hxm
  have lp11 : ldV h11 h.next (0 + 4) = some pv := ldV_of g11 rfl op
  have s16 : stV 3 h11 (h.next + 2) 0 (ppA x) = some (h11.put (h.next + 2) (some (.cells (ppV x) 43 true false))) := stV_full (n := 3) g11p rfl rfl px.one
  obtain ⟨h16, hh16⟩ : ∃ h16, h16 = h11.put (h.next + 2) (some (.cells (ppV x) 43 true false)) := ⟨_, rfl⟩
  have k16 : Kp None' h h16 := by rw [hh16]; exact k11.putNew _ (by omega)
  have g16 : h16.get h.next = some (.cells (patL bv rows av tov pv) 26 true false) := by rw [hh16, H.get_put_ne _ _ _ _ (by omega)]; exact g11
  have g16c : h16.get (h.next + 1) = some (.cells (colV c) 55 true false) := by rw [hh16, H.get_put_ne _ _ _ _ (by omega)]; exact g11c
  have g16p : h16.get (h.next + 2) = some (.cells (ppV x) 43 true false) := by rw [hh16]; exact H.get_put_same _ _ _ (H.get_lt g11p)
  have lt16 : ldI .i64 h16 h.next (0 + 3) = some (tov : Int) := ldI_of g16 rfl
  have lb16 : ldV h16 h.next (0 + 0) = some bv := ldV_of g16 rfl ob
  simp only [_diff_Patch__fits]
  simp only [rd, oneL_pat ob oa op, ← hh2, ← hh4, Nat.add_zero (h2.next), n2, Nat.add_assoc, ← hh5, la4, ixc, ldc, lp4, ixp, ldp, s5, ← hh11, ldp', px.veq, lp11, m.p.veq, s16, ← hh16, lt16, lb16, ldA3 g16c]
  refine .seq (contains_spec (m.kpN k16).b n.b) fun q ⟨kq, q1⟩ => ?_
  obtain ⟨kept, hkept⟩ : ∃ kept, kept = before.any (colEq c) := ⟨_, rfl⟩
  unfold fitB
  rw [← hkept] at q1 ⊢
  have kkq := k16.then kq
  have g17 := kq.get g16 (fun h => h)
  have g17c := kq.get g16c (fun h => h)
  have g17p := kq.get g16p (fun h => h)
  have lt17 : ldI .i64 q.2 h.next (0 + 3) = some (tov : Int) := ldI_of g17 rfl
  have lr17 : ldI .i64 q.2 h.next (0 + 1) = some (rows : Int) := ldI_of g17 rfl
  have ls17 : ldB q.2 (h.next + 2) (0 + 0) = some x.same := ldB_of g17p rfl
  have le17 : ldV q.2 (h.next + 2) (0 + 1) = some x.ev := ldV_of g17p rfl px.e.one
  have lc17 : ldV q.2 (h.next + 2) (0 + 2) = some x.cv := ldV_of g17p rfl px.c.one
  obtain ⟨ne, nc, ncl, ned⟩ := n.e x hxm
  have hr := n.r
  have htv := n.t
  -- the checks, one behind the other
  have tail : ∀ want : Nat, W E (fun C L => (ldB q.2 (h.next + 2) (0 + 0)).bind fun b34 =>
      ((cond (!(b34 == kept)) (some (true, q.2)) ((ldV q.2 (h.next + 2) (0 + 2)).bind fun v35 => (lenV v35).bind fun n36 => some ((((n36 : Nat) : Int) != ((want : Nat) : Int)), q.2))) : Option (Bool × H)).bind fun p37 =>
      ((cond p37.1 (some (true, p37.2)) (((cond (!kept) ((ldV p37.2 (h.next + 2) (0 + 1)).bind fun v38 => (lenV v38).bind fun n39 => some ((decide (((n39 : Nat) : Int) > (0 : Int))), p37.2)) (some (false, p37.2))) : Option (Bool × H)).bind fun p40 => some (p40.1, p40.2))) : Option (Bool × H)).bind fun p41 =>
      ((cond p41.1 (some (true, p41.2)) ((ldA 3 p41.2 (h.next + 1) 0).bind fun v42 => (ldV p41.2 (h.next + 2) (0 + 2)).bind fun v43 => (C 64 [v42, v43] p41.2).bind fun p44 => (asB p44.1).bind fun b45 => some ((!b45), p44.2))) : Option (Bool × H)).bind fun p46 =>
      cond p46.1 (some (Value.bool false, p46.2)) ((ldV p46.2 (h.next + 2) (0 + 1)).bind fun v47 => (lenV v47).bind fun n48 => (L 36 9 [(ptr h.next 0), (ptr (h.next + 1) 0), (.int .i64 (-1 : Int)), v47, (.int .i64 ((n48 : Nat) : Int)), (.int .i64 (0 : Int))] p46.2).bind fun p49 =>
        cond (p49.1 == 0) (some ((.bool true), p49.2.2)) ((asB (lget p49.2.1 0)).bind fun b50 => some ((.bool b50), p49.2.2))))
      fun z => Kp None' h z.2 ∧ z.1 = .bool (if x.same ≠ kept then false else if x.cells.length ≠ want then false else if kept = false ∧ 0 < x.edits.length then false else if checkD c x.cells = 30 then false else edGo c (min rows tov) (-1) x.edits) := by
    intro want
    have no : W E (fun _ _ => some (Value.bool false, q.2)) fun z => Kp None' h z.2 ∧ z.1 = .bool false := .ret ⟨kkq, rfl⟩
    simp only [rd, ls17]
    by_cases h1 : x.same = kept
    · simp only [rd, show (!(x.same == kept)) = false by simp [h1], lc17, px.c.len]
      rw [if_neg (by simpa using h1)]
      by_cases h2 : x.cells.length = want
      · simp only [rd, show ((((x.cells.length : Nat) : Int)) != ((want : Nat) : Int)) = false by simp [h2]]
        rw [if_neg (by simpa using h2)]
        -- the tail behind the edits' number
        have rest : W E (fun C L => ((cond false (some (true, q.2)) ((ldA 3 q.2 (h.next + 1) 0).bind fun v42 => (ldV q.2 (h.next + 2) (0 + 2)).bind fun v43 => (C 64 [v42, v43] q.2).bind fun p44 => (asB p44.1).bind fun b45 => some ((!b45), p44.2))) : Option (Bool × H)).bind fun p46 =>
            cond p46.1 (some (Value.bool false, p46.2)) ((ldV p46.2 (h.next + 2) (0 + 1)).bind fun v47 => (lenV v47).bind fun n48 => (L 36 9 [(ptr h.next 0), (ptr (h.next + 1) 0), (.int .i64 (-1 : Int)), v47, (.int .i64 ((n48 : Nat) : Int)), (.int .i64 (0 : Int))] p46.2).bind fun p49 =>
              cond (p49.1 == 0) (some ((.bool true), p49.2.2)) ((asB (lget p49.2.1 0)).bind fun b50 => some ((.bool b50), p49.2.2)))) fun z => Kp None' h z.2 ∧ z.1 = .bool (if checkD c x.cells = 30 then false else edGo c (min rows tov) (-1) x.edits) := by
          have pq := px.kpN kkq
          simp only [rd, ldA3 g17c, lc17]
          refine .seq (Q1 := fun z => Kp None' q.2 z.2 ∧ z.1 = decide (checkD c x.cells = 30)) (.seq (dmay_spec (col := c) (ht.kp kkq (fun h => h) (fun h => h)) pq.c nc ncl) fun w ⟨kw, w1⟩ => ?_) fun z ⟨kz, z1⟩ => ?_
          · simp only [rd, w1]
            refine .ret ⟨kw, ?_⟩
            by_cases h : checkD c x.cells = 30 <;> simp [h]
          · simp only [rd, z1]
            by_cases h3 : checkD c x.cells = 30
            · simp only [rd, h3, decide_true, if_true]
              exact .ret ⟨kkq.then kz, rfl⟩
            · have lez : ldV z.2 (h.next + 2) (0 + 1) = some x.ev := ldV_of (kz.get g17p (fun h => h)) rfl px.e.one
              simp only [rd, h3, decide_false, if_false, lez, px.e.len]
              refine .seq (fits_loop (h0 := h) (c := c) (rows := rows) (tov := tov) (bv := bv) (av := av) (pv := pv) ht x.edits [] (last := -1) px.e (by simpa using ne) ned (kkq.then kz) (kz.get g17 (fun h => h)) (kz.get g17c (fun h => h))) fun y ⟨ky, y1⟩ => ?_
              have kf := (kkq.then kz).then ky
              cases he : edGo c (min rows tov) (-1) x.edits with
              | true =>
                rw [he] at y1
                have y1 : y.1 = 0 := y1
                simp only [rd, y1, show ((0 : Nat) == 0) = true from rfl]
                exact .ret ⟨kf, rfl⟩
              | false =>
                rw [he] at y1
                simp only [rd, y1.1, y1.2, show ((1 : Nat) == 0) = false from rfl]
                exact .ret ⟨kf, rfl⟩
        cases hk : kept with
        | true =>
          simp only [rd, Bool.not_true]
          rw [if_neg (by simp)]
          exact rest
        | false =>
          simp only [rd, Bool.not_false, le17, px.e.len]
          by_cases h3 : 0 < x.edits.length
          · simp only [rd, show decide (((x.edits.length : Nat) : Int) > 0) = true from decide_eq_true (by omega)]
            rw [if_pos (by simp only [h3, and_self])]
            exact no
          · simp only [rd, show decide (((x.edits.length : Nat) : Int) > 0) = false from decide_eq_false (by omega)]
            rw [if_neg (fun h => h3 h.2)]
            exact rest
      · simp only [rd, show ((((x.cells.length : Nat) : Int)) != ((want : Nat) : Int)) = true by simp; omega]
        rw [if_pos (by simpa using h2)]
        exact no
    · simp only [rd, show (!(x.same == kept)) = true by simp [h1]]
      rw [if_pos h1]
      exact no
  simp only [rd, q1, lt17, veq_i64]
  cases hk : kept with
  | true =>
    simp only [rd, lr17, lt17, wrap_sub htv hr]
    have := tail (tov - rows)
    rw [hk] at this
    exact this
  | false =>
    have := tail tov
    rw [hk] at this
    revert this
    simp only [rd, Bool.false_eq_true, if_false]
    exact fun h => h

theorem check_loop {h0 : H} {P : Nat} {bv av pv : Value} {before after : List Col} {rows tov : Nat} {parts : List PP} (h0t : Tabs h0) (m : PatM h0 bv av pv before after parts) (n : PatN before after rows tov parts) (hpa : parts.length = after.length) : ∀ (j i : Nat) {h : H}, i + j = parts.length → Kp None' h0 h →
    h.get P = some (.cells (patL bv rows av tov pv) 26 true false) →
    RetL E 13 8 [ptr P 0, .int .i64 (parts.length : Nat), .int .i64 (i : Nat)] h fun b vals h' => Kp None' h0 h' ∧ if ((after.zip parts).drop i).all (fun q => fitB before rows tov q.1 q.2) then b = 0 else b = 1 ∧ vals = [.int .i64 1]
  | 0, i, h, hi, kk, g => by
    refine .of_lp rfl (fun C L => diff_Check_L8_eq C L _ h) ?_
    simp only [diff_Check_L8]
    simp only [rd, asP_ptr, ge_dec (show parts.length ≤ i by omega)]
    refine .ret ⟨kk, ?_⟩
    rw [List.drop_eq_nil_of_le (by rw [List.length_zip]; omega)]
    rfl
  | j + 1, i, h, hi, kk, g => by
    refine .of_lp rfl (fun C L => diff_Check_L8_eq C L _ h) ?_
    have hip : i < parts.length := by omega
    have hld : ldA 5 h P 0 = some (.agg ⟨patL bv rows av tov pv⟩) := ldA_full g rfl
    simp only [diff_Check_L8]
    simp only [rd, asP_ptr, lt_dec hip, hld]
    refine .seq (fits_spec (h0t.kp kk (fun h => h) (fun h => h)) (m.kpN kk) n hip (by omega)) fun q ⟨kq, q1⟩ => ?_
    have hzl : (after.zip parts).length = parts.length := by rw [List.length_zip]; omega
    rw [List.drop_eq_getElem_cons (by omega), List.all_cons, List.getElem_zip]
    simp only [rd, q1]
    cases hf : fitB before rows tov after[i] parts[i] with
    | false =>
      simp only [rd, Bool.not_false, Bool.false_and]
      exact .ret ⟨kk.then kq, rfl, rfl⟩
    | true =>
      have wi : IntKind.wrap .i64 (((i : Nat) : Int) + 1) = ((i + 1 : Nat) : Int) := wrap_succ (by have := n.p; omega)
      simp only [rd, Bool.not_true, Bool.true_and, wi]
      exact check_loop h0t m n hpa j (i + 1) (by omega) (kk.then kq) (kq.get g (fun h => h))

def checkP (before after : List Col) (rows tov : Nat) (parts : List PP) : Int :=
  if colsD before = false ∨ colsD after = false then 30 else if 10000 < rows ∨ 10000 < tov then 31 else if parts.length ≠ after.length then 1 else if (after.zip parts).all (fun q => fitB before rows tov q.1 q.2) then 0 else 1

theorem dcheck_spec {h : H} {bv av pv : Value} {before after : List Col} {rows tov : Nat} {parts : List PP} (ht : Tabs h) (m : PatM h bv av pv before after parts) (n : PatN before after rows tov parts) :
    Ret E 13 [.agg ⟨patL bv rows av tov pv⟩] h fun v h' => Kp None' h h' ∧ v = .int .i64 (checkP before after rows tov parts) := by
  refine .of_fn rfl rfl (fun C L => diff_Check_eq C L _ h) ?_
  have oa := m.a.one
  have ob := m.b.one
  have op := m.p.one
  obtain ⟨h1, hh1⟩ : ∃ h1, h1 = h.new (.cells (patL bv rows av tov pv) 26 true false) := ⟨_, rfl⟩
  have k1 : Kp None' h h1 := by rw [hh1]; exact .new _ _
  have g1 : h1.get h.next = some (.cells (patL bv rows av tov pv) 26 true false) := by rw [hh1]; exact get_new_self _ _
  have lb : ldV h1 h.next (0 + 0) = some bv := ldV_of g1 rfl ob
  have hr := n.r
  have htv := n.t
  simp only [diff_Check]
  simp only [rd, oneL_pat ob oa op, ← hh1, lb]
  refine .seq (columns_spec (ht.kp k1 (fun h => h) (fun h => h)) (m.b.kpN k1) n.b) fun q ⟨kq, q1⟩ => ?_
  have kk := k1.then kq
  have g2 := kq.get g1 (fun h => h)
  have la : ldV q.2 h.next (0 + 2) = some av := ldV_of g2 rfl oa
  unfold checkP
  cases hb : colsD before with
  | false =>
    rw [hb] at q1
    simp only [rd, q1, Bool.false_eq_true, if_false, show ((30 : Int) != 0) = true from rfl, true_or, if_true]
    exact .ret ⟨kk, rfl⟩
  | true =>
    rw [hb] at q1
    simp only [rd, q1, if_true, show ((0 : Int) != 0) = false from rfl, la]
    refine .seq (Q1 := fun z => Kp None' h z.2 ∧ z.2.get h.next = some (.cells (patL bv rows av tov pv) 26 true false) ∧ z.1 = !(colsD after)) (.seq (columns_spec (ht.kp kk (fun h => h) (fun h => h)) (m.a.kpN kk) n.a) fun w ⟨kw, w1⟩ => ?_) fun z ⟨kz, gz, z1⟩ => ?_
    · simp only [rd, w1]
      refine .ret ⟨kk.then kw, kw.get g2 (fun h => h), ?_⟩
      cases colsD after <;> rfl
    · cases ha : colsD after with
      | false =>
        rw [ha] at z1
        simp only [rd, z1, Bool.not_false, or_true, if_true]
        exact .ret ⟨kz, rfl⟩
      | true =>
        rw [ha] at z1
        have lr : ldI .i64 z.2 h.next (0 + 1) = some (rows : Int) := ldI_of gz rfl
        have lt : ldI .i64 z.2 h.next (0 + 3) = some (tov : Int) := ldI_of gz rfl
        have lp : ldV z.2 h.next (0 + 4) = some pv := ldV_of gz rfl op
        have la : ldV z.2 h.next (0 + 2) = some av := ldV_of gz rfl oa
        simp only [rd, z1, Bool.not_true, lr, lt, lp, la, m.p.len, m.a.len, show decide (((rows : Nat) : Int) > 10000) = false by simp; omega, show decide (((tov : Nat) : Int) > 10000) = false by simp; omega, show decide (((rows : Nat) : Int) < 0) = false by simp, show decide (((tov : Nat) : Int) < 0) = false by simp]
        rw [if_neg (by simp), if_neg (by omega)]
        by_cases hpa : parts.length = after.length
        · simp only [rd, show ((((parts.length : Nat) : Int)) != ((after.length : Nat) : Int)) = false by simp [hpa]]
          rw [if_neg (by simpa using hpa)]
          refine .seq (check_loop (h0 := h) ht m n hpa parts.length 0 (by omega) kz gz) fun y ⟨ky, y1⟩ => ?_
          rw [List.drop_zero] at y1
          cases hall : (after.zip parts).all (fun q => fitB before rows tov q.1 q.2) with
          | true =>
            rw [hall] at y1
            have y1 : y.1 = 0 := y1
            simp only [rd, y1, show ((0 : Nat) == 0) = true from rfl]
            exact .ret ⟨ky, rfl⟩
          | false =>
            rw [hall] at y1
            simp only [rd, y1.1, y1.2, show ((1 : Nat) == 0) = false from rfl]
            exact .ret ⟨ky, rfl⟩
        · simp only [rd, show ((((parts.length : Nat) : Int)) != ((after.length : Nat) : Int)) = true by simp; omega]
          rw [if_pos hpa]
          exact .ret ⟨kz, rfl⟩
end Go.Arm
namespace Go.Arm
open Go.Proofs

theorem bldS_24s (b : Bool) (x y : Option Addr) (n c m d : Nat) : bldS E 24 1 [(0, .agg ⟨[.bool b, .slice x n c, .slice y m d]⟩)] = some [.bool b, .slice x n c, .slice y m d] := by kernel_rfl
theorem Sl.isSlice {w m : Nat} {e : TypeId} {h : H} {v : Value} {n : Nat} {cs : List Value} (s : Sl w e m h v n cs) : ∃ x n c, v = .slice x n c := by
  rcases s with ⟨rfl, _⟩ | ⟨b, l, _, rfl, _⟩
  · exact ⟨_, _, _, rfl⟩
  · exact ⟨_, _, _, rfl⟩
theorem PPok.bldS {m : Nat} {h : H} {x : PP} (p : PPok m h x) : bldS E 24 1 [(0, ppA x)] = some (ppV x) := by
  obtain ⟨a, n, c, h1⟩ := p.e.isSlice
  obtain ⟨b, k, d, h2⟩ := p.c.isSlice
  show Arm.bldS E 24 1 [(0, .agg ⟨[.bool x.same, x.ev, x.cv]⟩)] = some [.bool x.same, x.ev, x.cv]
  rw [h1, h2]
  exact bldS_24s _ _ _ _ _ _ _
/-- what is appended elsewhere -/
theorem Sl.kpA {w m w' m' : Nat} {e e' : TypeId} {h h' : H} {v v' : Value} {n n' : Nat} {cs cs' : List Value} (s : Sl w e m h v n cs) (sp : Sl w' e' m' h v' n' cs') (he : e ≠ e') (k : Kp (fun b => ∃ n c, v' = .slice (some ⟨b, 0, none⟩) n c) h h') : Sl w e m h' v n cs := by
  rcases s with h0 | ⟨b, l, hb, hv, hg, hl⟩
  · exact .inl h0
  · refine .inr ⟨b, l, hb, hv, k.get hg ?_, hl⟩
    rintro ⟨n2, c2, hv2⟩
    exact sp.apart hg (fun h => he h.symm) b n2 c2 hv2 rfl

abbrev patZ : List Value := [(.slice none 0 0), (.int .i64 (0)), (.slice none 0 0), (.int .i64 (0)), (.slice none 0 0)]
theorem patZ_eq : patZ = patL (.slice none 0 0) 0 (.slice none 0 0) 0 (.slice none 0 0) := rfl
theorem bldT_26 : bldT E 26 [] = some (.agg ⟨patZ⟩) := by kernel_rfl
theorem patZ_fin {h : H} {b : Nat} {x : List Value} (g : h.get b = some (.cells x 26 true false)) (hx : x.length = 5) {ys : List Value} (hy : ys.length = 5) (h1 : ys.all one = true) : stV 5 h b 0 (.agg ⟨ys⟩) = some (h.put b (some (.cells ys 26 true false))) ∧ ldA 5 (h.put b (some (.cells ys 26 true false))) b 0 = some (.agg ⟨ys⟩) :=
  ⟨stV_full (n := 5) g hx hy h1, ldA_full (H.get_put_same _ _ _ (H.get_lt g)) hy⟩

def patchE (before : List Col) (rows : Nat) (after : List Col) (tov : Nat) (parts : List PP) : List UInt8 :=
  (textE (colsE before) ++ uvarE rows) ++ ((textE (colsE after) ++ uvarE tov) ++ (after.zip parts).flatMap fun q => partE q.1 q.2)

/-- where the reading of a patch stands -/
structure PSt (h0 h : H) (q : Nat) (s : ByteArray) (a : Nat) (bv av pv : Value) (before after : List Col) (rows tov : Nat) (parts : List PP) : Prop where
  kk : Kp None' h0 h
  q0 : q = h0.next
  gR : h.get q = some (.cells patZ 26 true false)
  r : Rd h (q + 1) s a 0
  gP : h.get (q + 2) = some (.cells (patL bv rows av tov pv) 26 true false)
  b : Sl 3 55 (q + 3) h bv before.length (before.flatMap colV)
  a : Sl 3 55 (q + 3) h av after.length (after.flatMap colV)
  p : Sl 3 43 (q + 3) h pv parts.length (parts.flatMap ppV)
  x : ∀ x ∈ parts, PPok (q + 3) h x
  hn : q + 3 ≤ h.next

theorem dec_loop {h0 : H} {q : Nat} {s : ByteArray} {bv av : Value} {before after : List Col} {rows tov : Nat} (h0t : Tabs h0) (h2 : 2 ≤ h0.next) (hs : s.size ≤ 2 ^ 30) (hbl : before.length < 2 ^ 40) (hal : after.length < 2 ^ 20) (hcols : ∀ c ∈ after, colOk1 c = true) (hr : rows ≤ 10000) (ht : tov ≤ 10000) : ∀ (post pre : List Col) (parts : List PP) {a : Nat} {h : H} {pv : Value},
    after = pre ++ post → parts.length = pre.length → a ≤ s.size → PSt h0 h q s a bv av pv before after rows tov parts →
    RetL E 5 11 [ptr q 0, ptr (q + 1) 0, ptr (q + 2) 0, av, .int .i64 (after.length : Nat), .int .i64 (pre.length : Nat)] h fun b vals h' => (Kp None' h0 h' ∧ ∃ e, DErr e ∧ b = 1 ∧ vals = [ptr q 0, .int .i64 e] ∧ h'.get q = some (.cells patZ 26 true false)) ∨
      (∃ (a' : Nat) (pv' : Value) (pp : List PP), b = 0 ∧ vals = [ptr q 0, ptr (q + 1) 0, ptr (q + 2) 0] ∧ a ≤ a' ∧ a' ≤ s.size ∧ pp.length = post.length ∧ (∀ z ∈ post.zip pp, PartOK before (min rows tov) z.1 z.2) ∧ (post.zip pp).flatMap (fun z => partE z.1 z.2) = (rest s a).take (a' - a) ∧ PSt h0 h' q s a' bv av pv' before after rows tov (parts ++ pp))
  | [], pre, parts, a, h, pv, hpp, hlen, ha, st => by
    refine .of_lp rfl (fun C L => diff_Decode_L11_eq C L _ h) ?_
    have : after.length = pre.length := by rw [hpp]; simp
    simp only [diff_Decode_L11]
    simp only [rd, asP_ptr, ge_dec (show after.length ≤ pre.length by omega)]
    exact .ret (.inr ⟨a, pv, [], rfl, rfl, Nat.le_refl _, ha, rfl, by simp, by simp, by simpa using st⟩)
  | c :: post, pre, parts, a, h, pv, hpp, hlen, ha, st => by
    refine .of_lp rfl (fun C L => diff_Decode_L11_eq C L _ h) ?_
    have hlt : pre.length < after.length := by rw [hpp]; simp
    obtain ⟨cb, _, ixc, ldc⟩ := st.a.getC hlt
    have hget : after[pre.length] = c := by simp [hpp]
    rw [hget] at ldc
    obtain ⟨kk, q0, gR, r, gP, sb, sa, sp, sx, hn⟩ := st
    obtain ⟨h7, hh7⟩ : ∃ h7, h7 = h.new (.cells [(.string (bs [])), (.int .i64 (0)), (.bool false)] 55 true false) := ⟨_, rfl⟩
    have g7 : h7.get h.next = some (.cells [(.string (bs [])), (.int .i64 (0)), (.bool false)] 55 true false) := by rw [hh7]; exact get_new_self _ _
    have s8 : stV 3 h7 h.next 0 (colA c) = some (h7.put h.next (some (.cells (colV c) 55 true false))) := stV_full (n := 3) g7 rfl rfl (colV_one c)
    obtain ⟨h8, hh8⟩ : ∃ h8, h8 = h7.put h.next (some (.cells (colV c) 55 true false)) := ⟨_, rfl⟩
    have g8 : h8.get h.next = some (.cells (colV c) 55 true false) := by rw [hh8]; exact H.get_put_same _ _ _ (H.get_lt g7)
    have k8 : Kp None' h h8 := by rw [hh8, hh7]; exact (Kp.new _ _).putNew _ (Nat.le_refl _)
    have hP8 := k8.get gP (fun h => h)
    have ld8 : ldA 5 h8 (q + 2) 0 = some (.agg ⟨patL bv rows av tov pv⟩) := ldA_full hP8 rfl
    have hcok : colOk1 c = true := hcols c (by rw [hpp]; simp)
    have ht8 := h0t.kp (kk.then k8) (fun h => h) (fun h => h)
    simp only [diff_Decode_L11]
    simp only [rd, asP_ptr, lt_dec hlt, ixc, ldc, ← hh7, s8, ← hh8, ld8, ldA3 g8]
    refine .seq (read_part (before := before) hcok hbl hr ht hs ht8 (by omega) ha (r.kpX k8 (fun h => h)) (sb.kpN k8) sa.one sp.one (by omega)) fun w ⟨kw, hw⟩ => ?_
    have hk8 := k8.1
    have hkw := kw.1
    have kkw : Kp None' h0 w.2 := (kk.then k8).hiO kw (by omega)
    have gRw := kw.get (k8.get gR (fun h => h)) (by simp only [Only]; omega)
    have gPw := kw.get hP8 (by simp only [Only]; omega)
    obtain ⟨h14, hh14⟩ : ∃ h14, h14 = w.2.new (.cells pz 43 true false) := ⟨_, rfl⟩
    have g14 : h14.get w.2.next = some (.cells pz 43 true false) := by rw [hh14]; exact get_new_self _ _
    have fin : ∀ ys : List Value, ys.length = 3 → ys.all one = true → ∃ h15, stV 3 h14 w.2.next 0 (.agg ⟨ys⟩) = some h15 ∧ Kp None' w.2 h15 ∧ h15.get w.2.next = some (.cells ys 43 true false) := by
      intro ys hy h1
      refine ⟨_, stV_full (n := 3) g14 rfl hy h1, ?_, H.get_put_same _ _ _ (H.get_lt g14)⟩
      rw [hh14]; exact (Kp.new _ _).putNew _ (Nat.le_refl _)
    rcases hw with ⟨e, ys, he, hy, h1, hv⟩ | ⟨n, x, hv, hn2, r2, hE, pok, px⟩
    · obtain ⟨h15, e1, k15, _⟩ := fin ys hy h1
      have gR15 := k15.get gRw (fun h => h)
      obtain ⟨z1, z2⟩ := patZ_fin gR15 rfl (ys := patZ) rfl rfl
      simp only [rd, hv, ← hh14, e1, he.bne, bldT_26, z1]
      refine .ret (.inl ⟨(kkw.then k15).putNew _ (by omega), e, he, rfl, rfl, H.get_put_same _ _ _ (H.get_lt gR15)⟩)
    · obtain ⟨h15, e1, k15, g15⟩ := fin (ppV x) rfl px.one
      have kw15 : Kp (Only (q + 1)) h8 h15 := kw.then (k15.weaken fun _ h => h.elim)
      have hx15 := k15.1
      have gP15 := k15.get gPw (fun h => h)
      have sp15 := ((sp.kpN k8).kpO kw (by omega)).kpN k15
      have sb15 := ((sb.kpN k8).kpO kw (by omega)).kpN k15
      have sa15 := ((sa.kpN k8).kpO kw (by omega)).kpN k15
      have px15 := px.kpN k15
      have lp : ldV h15 (q + 2) (0 + 4) = some pv := ldV_of gP15 rfl sp.one
      have ldx : ldA 3 h15 w.2.next 0 = some (ppA x) := ldA_full g15 rfl
      have kn : Kp None' h15 (h15.new (.cells (ppV x) 43 true false)) := .new _ _
      have spn := sp15.kpN kn
      -- the part is appended
      have happ : ∃ v' h', appA 3 56 43 (h15.new (.cells (ppV x) 43 true false)) pv (.slice (some ⟨h15.next, 0, none⟩) 1 1) = some (v', h') ∧ Sl 3 43 (q + 3) h' v' (parts.length + 1) (parts.flatMap ppV ++ ppV x) ∧ Kp (fun b => ∃ n c, pv = .slice (some ⟨b, 0, none⟩) n c) (h15.new (.cells (ppV x) 43 true false)) h' := by
        refine spn.app (x := .slice (some ⟨h15.next, 0, none⟩) 1 1) (bytes := 56) (srcC_blk (get_new_self _ _) (by rw [ppV_len]) 1) (by rw [ppV_len]) px.one (by omega) (by omega) ?_ (by unfold roomy; omega) (by rw [H.next_new]; omega)
        rw [List.all_flatMap]
        exact List.all_eq_true.2 fun y hy => (sx y hy).one
      obtain ⟨v', h', a1, a2, a3⟩ := happ
      have gP' := a3.get (kn.get gP15 (fun h => h)) (fun ⟨n', c', hv'⟩ => by have := sp.pos _ n' c' hv'; omega)
      have s23 : stV 1 h' (q + 2) (0 + 4) v' = some (h'.put (q + 2) (some (.cells (patL bv rows av tov v') 26 true false))) := stV1_of gP' (by simp [patL]) a2.one
      obtain ⟨h23, hh23⟩ : ∃ h23, h23 = h'.put (q + 2) (some (.cells (patL bv rows av tov v') 26 true false)) := ⟨_, rfl⟩
      have k23 : Kp (Only (q + 2)) h' h23 := by rw [hh23]; exact .put _ _ rfl
      have wi : IntKind.wrap .i64 (((pre.length : Nat) : Int) + 1) = (((pre ++ [c]).length : Nat) : Int) := wsucc (x := c) (by omega)
      simp only [rd, hv, ← hh14, show stV 3 h14 w.2.next 0 (ppA x) = some h15 from e1, show ((0 : Int) != 0) = false from rfl, lp, ldx, px.bldS, a1, s23, ← hh23, wi]
      have hnx : (h15.new (.cells (ppV x) 43 true false)).next = h15.next + 1 := rfl
      have ha3 := a3.1
      have hk23 := k23.1
      have g3 : ∀ {b : Nat} {bl : Blk}, h15.get b = some bl → (∀ n c, pv ≠ .slice (some ⟨b, 0, none⟩) n c) → b ≠ q + 2 → h23.get b = some bl := fun hg hv' hb => k23.get (a3.get (kn.get hg (fun h => h)) (fun ⟨n', c', h⟩ => hv' n' c' h)) (by simp only [Only]; exact hb)
      have hpvlow : ∀ b, b < q + 3 → ∀ n c, pv ≠ .slice (some ⟨b, 0, none⟩) n c := fun b hb n c h => by have := sp.pos _ n c h; omega
      have slT : ∀ {w e n cs} {v : Value}, Sl w e (q + 3) h15 v n cs → e ≠ 43 → Sl w e (q + 3) h23 v n cs := fun s he => ((s.kpN kn).kpA spn he a3).kpO k23 (by omega)
      have stN : PSt h0 h23 q s (a + n) bv av v' before after rows tov (parts ++ [x]) := by
        refine ⟨?_, q0, g3 (k15.get gRw (fun h => h)) (hpvlow _ (by omega)) (by omega), g3 (k15.get r2 (fun h => h)) (hpvlow _ (by omega)) (by omega), by rw [hh23]; exact H.get_put_same _ _ _ (H.get_lt gP'), slT sb15 (by decide), slT sa15 (by decide), ?_, ?_, by omega⟩
        · exact ((kkw.then k15).then kn |>.hi a3 fun b ⟨n', c', hv'⟩ => .inr (by have := sp.pos _ n' c' hv'; omega)).hi k23 fun b hb => .inr (by rw [hb]; omega)
        · have := a2.kpO k23 (show q + 2 < q + 3 by omega)
          simpa using this
        · intro y hy
          rcases List.mem_append.1 hy with hy | hy
          · have y15 : PPok (q + 3) h15 y := by
              have := sx y hy
              exact ⟨((this.e.kpN k8).kpO kw (by omega)).kpN k15, ((this.c.kpN k8).kpO kw (by omega)).kpN k15⟩
            exact ⟨slT y15.e (by decide), slT y15.c (by decide)⟩
          · rw [List.mem_singleton.1 hy]
            have x15 : PPok (q + 3) h15 x := px15.low (by omega)
            exact ⟨slT x15.e (by decide), slT x15.c (by decide)⟩
      refine W.mono (dec_loop h0t h2 hs hbl hal hcols hr ht post (pre ++ [c]) (parts ++ [x]) (a := a + n) (by rw [hpp]; simp) (by simp [hlen]) hn2 stN) fun z hz => ?_
      rcases hz with herr | ⟨a', pv', pp, b0, hvv, haa, has, hpl, hpo, hpe, stF⟩
      · exact .inl herr
      · refine .inr ⟨a', pv', x :: pp, b0, hvv, by omega, has, by simp [hpl], ?_, ?_, by simpa using stF⟩
        · intro z hz
          rw [List.zip_cons_cons] at hz
          rcases List.mem_cons.1 hz with rfl | hz
          · exact pok
          · exact hpo z hz
        · rw [List.zip_cons_cons, List.flatMap_cons, hE, hpe]
          have := take_take_rest s a n (a' - (a + n))
          rw [this]
          congr 1; omega

theorem read_spec' (s : ByteArray) (h : H) : Ret E 10 [.string s] h fun v h' => v = ptr h.next 0 ∧ Rd h' h.next s 0 0 ∧ Kp None' h h' ∧ h'.next = h.next + 1 := by
  refine .of_fn rfl rfl (fun C L => wire_Read_eq C L _ h) ?_
  have hone : oneL (Value.agg #[.string s, .int .i64 0, .int .i64 0]).cells.toList = some [.string s, .int .i64 0, .int .i64 0] := by rfl
  simp only [wire_Read, lget, asS, Option.bind_some, bldT_79, hone]
  exact .ret ⟨rfl, by unfold Rd; rw [get_new, if_pos rfl]; rfl, .new _ _, rfl⟩
theorem decode_spec {h : H} {s : ByteArray} (hs : s.size ≤ 2 ^ 30) (ht : Tabs h) :
    Ret E 5 [.string s] h fun v h' => Kp None' h h' ∧ ((∃ e, DErr e ∧ v = .tuple #[.agg ⟨patZ⟩, .int .i64 e]) ∨
      (∃ (bv av pv : Value) (before after : List Col) (rows tov : Nat) (parts : List PP), v = .tuple #[.agg ⟨patL bv rows av tov pv⟩, .int .i64 0] ∧ PatM h' bv av pv before after parts ∧ PatN before after rows tov parts ∧ checkP before after rows tov parts = 0 ∧
        (∀ q ∈ after.zip parts, PartOK before (min rows tov) q.1 q.2) ∧ s.data.toList = patchE before rows after tov parts)) := by
  have h2 : 2 ≤ h.next := by
    obtain ⟨t, t', _, h1⟩ := ht
    have := H.get_lt h1; omega
  refine .of_fn rfl rfl (fun C L => diff_Decode_eq C L _ h) ?_
  have hz : ([(.slice none 0 0), (.int .i64 (0)), (.slice none 0 0), (.int .i64 (0)), (.slice none 0 0)] : List Value) = patZ := rfl
  obtain ⟨h2', hh2⟩ : ∃ h2, h2 = h.new (.cells patZ 26 true false) := ⟨_, rfl⟩
  have g2 : h2'.get h.next = some (.cells patZ 26 true false) := by rw [hh2]; exact get_new_self _ _
  have k2 : Kp None' h h2' := by rw [hh2]; exact .new _ _
  have n2 : h2'.next = h.next + 1 := by rw [hh2]; rfl
  simp only [diff_Decode]
  simp only [rd, hz, ← hh2]
  refine .seq (read_spec' s h2') fun q1 ⟨hv1, r1, k1, n1⟩ => ?_
  rw [n2] at hv1 r1 n1
  obtain ⟨h4, hh4⟩ : ∃ h4, h4 = q1.2.new (.cells patZ 26 true false) := ⟨_, rfl⟩
  have g4 : h4.get (h.next + 2) = some (.cells patZ 26 true false) := by rw [hh4, ← n1]; exact get_new_self _ _
  have k4 : Kp None' q1.2 h4 := by rw [hh4]; exact .new _ _
  have n4 : h4.next = h.next + 3 := by rw [hh4, H.next_new, n1]
  have kk4 := (k2.then k1).then k4
  have r4 := r1.kpX k4 (fun h => h)
  have gR4 := (k1.then k4).get g2 (fun h => h)
  simp only [rd, hv1, ← hh4, n1]
  refine .seq (columnsR_spec r4 (Nat.zero_le _) hs (ht.kp kk4 (fun h => h) (fun h => h)) (by omega)) fun q5 ⟨k5, hq5⟩ => ?_
  have kk5 := kk4.hiO k5 (by omega)
  have g5 := k5.get g4 (by simp only [Only]; omega)
  have gR5 := k5.get gR4 (by simp only [Only]; omega)
  have hk5 := k5.1
  -- two cells of the patch are written
  have two : ∀ {x : H} {a b c d e : Value} (u w : Value), x.get (h.next + 2) = some (.cells [a, b, c, d, e] 26 true false) → one u = true → one w = true → (∃ x1, stV 1 x (h.next + 2) (0 + 0) u = some x1 ∧ ∃ x2, stV 1 x1 (h.next + 2) (0 + 1) w = some x2 ∧ x2.get (h.next + 2) = some (.cells [u, w, c, d, e] 26 true false) ∧ Kp (Only (h.next + 2)) x x2) ∧
      (∃ x1, stV 1 x (h.next + 2) (0 + 2) u = some x1 ∧ ∃ x2, stV 1 x1 (h.next + 2) (0 + 3) w = some x2 ∧ x2.get (h.next + 2) = some (.cells [a, b, u, w, e] 26 true false) ∧ Kp (Only (h.next + 2)) x x2) := by
    intro x a b c d e u w g ou ow
    constructor
    · have s1 := stV1_of (v := u) (o := 0 + 0) g (by simp) ou
      have g1 : (x.put (h.next + 2) (some (.cells ([a, b, c, d, e].set (0 + 0) u) 26 true false))).get (h.next + 2) = some (.cells [u, b, c, d, e] 26 true false) := H.get_put_same _ _ _ (H.get_lt g)
      have s2 := stV1_of (v := w) (o := 0 + 1) g1 (by simp) ow
      exact ⟨_, s1, _, s2, H.get_put_same _ _ _ (H.get_lt g1), (Kp.put (X := Only (h.next + 2)) _ _ rfl).then (.put _ _ rfl)⟩
    · have s1 := stV1_of (v := u) (o := 0 + 2) g (by simp) ou
      have g1 : (x.put (h.next + 2) (some (.cells ([a, b, c, d, e].set (0 + 2) u) 26 true false))).get (h.next + 2) = some (.cells [a, b, u, d, e] 26 true false) := H.get_put_same _ _ _ (H.get_lt g)
      have s2 := stV1_of (v := w) (o := 0 + 3) g1 (by simp) ow
      exact ⟨_, s1, _, s2, H.get_put_same _ _ _ (H.get_lt g1), (Kp.put (X := Only (h.next + 2)) _ _ rfl).then (.put _ _ rfl)⟩
  -- what is wrong is told
  have bad : ∀ {x : H} {e : Int}, Kp None' h x → x.get h.next = some (.cells patZ 26 true false) → DErr e → ∃ x2, stV 5 x h.next 0 (.agg ⟨patZ⟩) = some x2 ∧ ldA 5 x2 h.next 0 = some (.agg ⟨patZ⟩) ∧ Kp None' h x2 := by
    intro x e kx g he
    obtain ⟨z1, z2⟩ := patZ_fin g rfl (ys := patZ) rfl rfl
    exact ⟨_, z1, z2, kx.putNew _ (Nat.le_refl _)⟩
  rcases hq5 with ⟨e, he, hv⟩ | ⟨before, bv, rows, n, c, hv, sb, hbd, hrows, r5, hn, hc, hE⟩
  · obtain ⟨x1, e1, x2, e2, g6, k6⟩ := (two (.slice none 0 0) (.int .i64 0) g5 rfl rfl).1
    obtain ⟨x3, e3, e4, k7⟩ := bad (e := e) (kk5.hiO k6 (by omega)) (k6.get gR5 (by simp only [Only]; omega)) he
    simp only [rd, hv, tup3_mk, e1, e2, he.bne, bldT_26, e3, e4]
    exact .ret ⟨k7, .inl ⟨e, he, rfl⟩⟩
  · obtain ⟨x1, e1, x2, e2, g6, k6⟩ := (two bv (.int .i64 (rows : Nat)) g5 sb.one rfl).1
    have kk6 := kk5.hiO k6 (by omega)
    have gR6 := k6.get gR5 (by simp only [Only]; omega)
    have r6 := r5.kpX k6 (by simp only [Only]; omega)
    have hk6 := k6.1
    have sb6 := sb.kpO k6 (by omega)
    simp only [rd, hv, tup3_mk, e1, e2, show ((0 : Int) != 0) = false from rfl]
    refine .seq (columnsR_spec r6 hn hs (ht.kp kk6 (fun h => h) (fun h => h)) (by omega)) fun q14 ⟨k14, hq14⟩ => ?_
    have kk14 := kk6.hiO k14 (by omega)
    have g14 := k14.get g6 (by simp only [Only]; omega)
    have gR14 := k14.get gR6 (by simp only [Only]; omega)
    have hk14 := k14.1
    have sb14 := sb6.kpO k14 (by omega)
    rcases hq14 with ⟨e, he, hv⟩ | ⟨after, av, tov, n', c', hv, sa, had, htov, r14, hn', hc', hE'⟩
    · obtain ⟨x1, e1, x2, e2, g15, k15⟩ := (two (.slice none 0 0) (.int .i64 0) g14 rfl rfl).2
      obtain ⟨x3, e3, e4, k16⟩ := bad (e := e) (kk14.hiO k15 (by omega)) (k15.get gR14 (by simp only [Only]; omega)) he
      simp only [rd, hv, tup3_mk, e1, e2, he.bne, bldT_26, e3, e4]
      exact .ret ⟨k16, .inl ⟨e, he, rfl⟩⟩
    · obtain ⟨x3, e3, x4, e4, g15, k15⟩ := (two av (.int .i64 (tov : Nat)) g14 sa.one rfl).2
      have kk15 := kk14.hiO k15 (by omega)
      have gR15 := k15.get gR14 (by simp only [Only]; omega)
      have r15 := r14.kpX k15 (by simp only [Only]; omega)
      have hk15 := k15.1
      have la : ldV x4 (h.next + 2) (0 + 2) = some av := ldV_of g15 rfl sa.one
      obtain ⟨hb1, hb2, _⟩ := colsD_iff hbd
      obtain ⟨ha1, ha2, ha3⟩ := colsD_iff had
      have sb15 : Sl 3 55 (h.next + 3) x4 bv before.length (before.flatMap colV) := (sb14.kpO k15 (by omega)).low (by omega)
      have sa15 : Sl 3 55 (h.next + 3) x4 av after.length (after.flatMap colV) := (sa.kpO k15 (by omega)).low (by omega)
      simp only [rd, hv, tup3_mk, e3, e4, show ((0 : Int) != 0) = false from rfl, la, sa.len]
      have st : PSt h x4 h.next s (0 + n + n') bv av (.slice none 0 0) before after rows tov [] := ⟨kk15, rfl, gR15, r15, g15, sb15, sa15, .nil, by simp, by omega⟩
      refine .seq (dec_loop (h0 := h) ht h2 hs (by omega) (by omega) ha3 hrows htov after [] [] rfl rfl hn' st) fun z hz => ?_
      rcases hz with ⟨kz, e, he, b1, hvz, gz⟩ | ⟨a', pv, parts, b0, hvz, haa, has, hpl, hpo, hpe, stF⟩
      · have lz : ldA 5 z.2.2 h.next 0 = some (.agg ⟨patZ⟩) := ldA_full gz rfl
        simp only [rd, b1, hvz, show ((1 : Nat) == 0) = false from rfl, asP_ptr, lz]
        exact .ret ⟨kz, .inl ⟨e, he, rfl⟩⟩
      · obtain ⟨kkF, _, gRF, rF, gPF, sbF, saF, spF, sxF, hnF⟩ := stF
        rw [List.nil_append] at spF sxF
        have pm : PatM z.2.2 bv av pv before after parts := ⟨sbF.low (Nat.zero_le _), saF.low (Nat.zero_le _), spF.low (Nat.zero_le _), fun x hx => (sxF x hx).low (Nat.zero_le _)⟩
        have zmem : ∀ x ∈ parts, ∃ c, (c, x) ∈ after.zip parts := by
          intro x hx
          obtain ⟨i, hi, rfl⟩ := List.getElem_of_mem hx
          have hia : i < after.length := by omega
          refine ⟨after[i], ?_⟩
          have hzl : i < (after.zip parts).length := by rw [List.length_zip]; omega
          have : (after.zip parts)[i] = (after[i], parts[i]) := List.getElem_zip
          rw [← this]
          exact List.getElem_mem _
        have pn : PatN before after rows tov parts := by
          refine ⟨by omega, by omega, by omega, hrows, htov, fun x hx => ?_⟩
          obtain ⟨c, hc⟩ := zmem x hx
          have po := hpo _ hc
          obtain ⟨_, hcl, _⟩ := enc_ok po.ck po.cl
          have hel := po.el
          exact ⟨by simp only at hel; omega, by simp only at hcl; omega, po.cl, fun e he => ⟨(po.ed e he).1, by have := (po.ed e he).2; omega⟩⟩
        have ldP : ldA 5 z.2.2 (h.next + 2) 0 = some (.agg ⟨patL bv rows av tov pv⟩) := ldA_full gPF rfl
        simp only [rd, b0, hvz, show ((0 : Nat) == 0) = true from rfl, asP_ptr, ldP]
        refine .seq (dcheck_spec (ht.kp kkF (fun h => h) (fun h => h)) pm pn) fun y ⟨ky, y1⟩ => ?_
        have kky := kkF.then ky
        have gRy := ky.get gRF (fun h => h)
        have gPy := ky.get gPF (fun h => h)
        have ry := rF.kpX ky (fun h => h)
        by_cases h0 : checkP before after rows tov parts = 0
        · simp only [rd, y1, h0, show ((0 : Int) != 0) = false from rfl]
          refine .seq (done_spec ry has (by omega)) fun w ⟨hw, hq⟩ => ?_
          rcases hq with ⟨he, _⟩ | ⟨_, _, hv3⟩ | ⟨_, hend, hv3⟩
          · exact absurd rfl he
          · obtain ⟨x5, e5, e6, k16⟩ := bad (e := 11) kky gRy (by simp [DErr])
            simp only [rd, hv3, hw, show ((11 : Int) != 0) = true from rfl, bldT_26, e5, e6]
            exact .ret ⟨k16, .inl ⟨11, by simp [DErr], rfl⟩⟩
          · have ldP2 : ldA 5 y.2 (h.next + 2) 0 = some (.agg ⟨patL bv rows av tov pv⟩) := ldA_full gPy rfl
            obtain ⟨z1, z2⟩ := patZ_fin gRy rfl (ys := patL bv rows av tov pv) rfl (patL_one pm.b.one pm.a.one pm.p.one)
            have kput : Kp (Only h.next) y.2 (y.2.put h.next (some (.cells (patL bv rows av tov pv) 26 true false))) := .put _ _ rfl
            simp only [rd, hv3, hw, show ((0 : Int) != 0) = false from rfl, ldP2, z1, z2]
            have slf : ∀ {w e n cs} {v : Value}, Sl w e (h.next + 3) z.2.2 v n cs → Sl w e 0 (y.2.put h.next (some (.cells (patL bv rows av tov pv) 26 true false))) v n cs := fun s => ((s.kpN ky).kpO kput (by omega)).low (Nat.zero_le _)
            refine .ret ⟨kky.hiO kput (Nat.le_refl _), .inr ⟨bv, av, pv, before, after, rows, tov, parts, rfl, ⟨slf sbF, slf saF, slf spF, fun x hx => ⟨slf (sxF x hx).e, slf (sxF x hx).c⟩⟩, pn, h0, hpo, ?_⟩⟩
            -- the bytes
            have hE1 : textE (colsE before) ++ uvarE rows = (rest s 0).take n := by rw [hc] at hE; exact hE
            have hE2 : textE (colsE after) ++ uvarE tov = (rest s (0 + n)).take n' := by rw [hc'] at hE'; exact hE'
            unfold patchE
            rw [rest_one hE1 (rest_one hE2 hpe), take_all (by omega)]
        · obtain ⟨x5, e5, e6, k16⟩ := bad (e := 12) kky gRy (by simp [DErr])
          simp only [rd, y1, show (checkP before after rows tov parts != 0) = true by simp [h0], bldT_26, e5, e6]
          exact .ret ⟨k16, .inl ⟨12, by simp [DErr], rfl⟩⟩
end Go.Arm
namespace Go.Arm
open Go.Proofs

/-- what is no writer's is as it was -/
def KT (wp : Nat) (h h' : H) : Prop := ∀ b cs e o lo, h.get b = some (.cells cs e o lo) → e ≠ 5 → b ≠ wp → h'.get b = some (.cells cs e o lo)
theorem KT.refl (wp : Nat) (h : H) : KT wp h h := fun _ _ _ _ _ g _ _ => g
theorem KT.trans {wp : Nat} {h h1 h2 : H} (a : KT wp h h1) (b : KT wp h1 h2) : KT wp h h2 := fun c cs e o lo g he hw => b c cs e o lo (a c cs e o lo g he hw) he hw
theorem KT.ofKp {wp : Nat} {h h' : H} (k : Kp None' h h') : KT wp h h' := fun _ _ _ _ _ g _ _ => k.get g (fun h => h)
theorem KT.ofW {wp : Nat} {h h' : H} {l : List UInt8} (w : Wr h wp l) (k : KpW wp h h') : KT wp h h' := fun b cs e _ _ g he hw => by
  rw [k.keep b (H.get_lt g) hw (fun hb => by
    have := (w.buf hb).1
    rw [g] at this
    simp only [Option.some.injEq, Blk.cells.injEq] at this
    exact he this.2.1)]
  exact g

theorem edit_spec {h : H} {p : Nat} {l : List UInt8} {k : Int} {g : Nat} {c : Cel} (hc : CelOK c) (hg : g < 2 ^ 60) (w : Wr h p l) (hl : l.length ≤ 2 ^ 37) :
    Ret E 18 [ptr p 0, .int .i64 k, .int .i64 (g : Nat), celA c] h fun v h' => Wr h' p (l ++ (uvarE g ++ (if c.null then [1] else 0 :: putE k c))) ∧ KpW p h h' := by
  refine .of_fn rfl rfl (fun C L => diff_edit_eq C L _ h) ?_
  have hul : (uvarE g).length ≤ 10 := uvarE_len (by omega)
  have hcs := hc.s
  obtain ⟨h1, hh1⟩ : ∃ h1, h1 = h.new (.cells (celV c) 47 true false) := ⟨_, rfl⟩
  have k1 : Kp None' h h1 := by rw [hh1]; exact .new _ _
  have g1 : h1.get h.next = some (.cells (celV c) 47 true false) := by rw [hh1]; exact get_new_self _ _
  have hpl := w.lt
  obtain ⟨w1, wb1⟩ := w.kp k1 (fun h => h) (fun _ _ h => h)
  have kw1 : KpW p h h1 := by rw [hh1]; exact KpW.new hpl _
  simp only [diff_edit]
  simp only [rd, oneL_cel, ← hh1, wrap_u64 (x := g) (by omega)]
  refine .seq (uvar_spec (x := g) (by omega) w1 (by omega)) fun q ⟨_, q2, q3⟩ => ?_
  have gq : q.2.get h.next = some (.cells (celV c) 47 true false) := KT.ofW w1 q3 _ _ _ _ _ g1 (by decide) (by omega)
  have ln : ldB q.2 h.next (0 + 0) = some c.null := ldB_of gq rfl
  simp only [rd, ln]
  cases hn : c.null with
  | true =>
    simp only [rd, if_true]
    refine .seq (u8_spec 1 q2 (by rw [List.length_append]; omega)) fun z ⟨_, z2, z3⟩ => ?_
    exact .ret ⟨by rw [← List.append_assoc]; exact z2, (kw1.trans q3).trans z3⟩
  | false =>
    simp only [rd, Bool.false_eq_true, if_false]
    refine .seq (u8_spec 0 q2 (by rw [List.length_append]; omega)) fun z ⟨_, z2, z3⟩ => ?_
    have gz : z.2.get h.next = some (.cells (celV c) 47 true false) := KT.ofW q2 z3 _ _ _ _ _ gq (by decide) (by omega)
    simp only [rd, cel_ld gz]
    refine .seq (cPut_spec (k := k) hc z2 (by simp only [List.length_append, List.length_singleton]; omega)) fun y ⟨_, y2, y3⟩ => ?_
    refine .ret ⟨?_, ((kw1.trans q3).trans z3).trans y3⟩
    have e : l ++ (uvarE g ++ 0 :: putE k c) = l ++ uvarE g ++ [0] ++ putE k c := by simp
    rw [e]; exact y2

theorem wedits_loop {h0 : H} {wp P X cb : Nat} {ev pv : Value} {c : Col} {M : Nat} {n1 i1 : Int} (hX : X ≠ wp) (hcb : cb ≠ wp) : ∀ (post pre : List Edt) {next : Nat} {h : H} {l : List UInt8}, Sl 7 49 0 h0 ev (pre ++ post).length ((pre ++ post).flatMap edtV) → (pre ++ post).length < 2 ^ 40 → (∀ e ∈ post, CelOK e.cel ∧ e.row < 2 ^ 59) → edGo c M ((next : Int) - 1) post = true → WA h0 h wp l →
    h.get cb = some (.cells (colV c) 55 true false) → l.length + (editsE c.kind next post).length ≤ 2 ^ 36 →
    RetL E 6 17 [ptr P 0, ptr wp 0, ptr X 0, ptr cb 0, .int .i64 (next : Nat), pv, .int .i64 n1, .int .i64 i1, ev, .int .i64 ((pre ++ post).length : Nat), .int .i64 (pre.length : Nat)] h fun _ vals h' => vals = [ptr P 0, ptr wp 0, ptr X 0, ptr cb 0, pv, .int .i64 n1, .int .i64 i1] ∧ WA h0 h' wp (l ++ editsE c.kind next post) ∧ KT wp h h'
  | [], pre, next, h, l, hs, hn, hok, hed, wa, gc, hl => by
    refine .of_lp rfl (fun C L => diff_Encode_L17_eq C L _ h) ?_
    simp only [diff_Encode_L17]
    simp only [rd, asP_ptr, List.append_nil, Int.lt_irrefl, decide_false]
    exact .ret ⟨rfl, by simpa [editsE] using wa, .refl _ _⟩
  | e :: post, pre, next, h, l, hs, hn, hok, hed, wa, gc, hl => by
    refine .of_lp rfl (fun C L => diff_Encode_L17_eq C L _ h) ?_
    have hi : pre.length < (pre ++ e :: post).length := by simp
    obtain ⟨b, _, hix, hce⟩ := (hs.kpN wa.k).get edtV_len hi
    have hget : (pre ++ e :: post)[pre.length] = e := by simp
    rw [hget] at hce
    have hld : ldA 7 h b (pre.length * 7) = some (edtA e) := ldA_cells hce
    have hz : ([(.int .i64 (0)), (.bool false), (.bool false), (.int .i64 (0)), (.int .u64 (0)), (.string (bs [])), (.complex .f64 0 0)] : List Value) = ez := rfl
    have kt := tmpE_kp h e
    have gt := tmpE_get h e
    have gc2 := kt.get gc (fun h => h)
    have lk : ldI .i64 (tmpE h e) cb (0 + 1) = some c.kind := ldI_of gc2 rfl
    obtain ⟨hec, her⟩ := hok e (by simp)
    unfold edGo at hed
    split at hed
    · cases hed
    rename_i hlast
    split at hed
    · cases hed
    rename_i hM
    split at hed
    · cases hed
    rename_i hck
    have hge : next ≤ e.row := by omega
    have hwg : IntKind.wrap .i64 (((e.row : Nat) : Int) - ((next : Nat) : Int)) = ((e.row - next : Nat) : Int) := by rw [wrap_i64 (by omega) (by omega)]; omega
    have wa2 := wa.other kt
    have eE : editsE c.kind next (e :: post) = editE c.kind next e ++ editsE c.kind (e.row + 1) post := rfl
    rw [eE, List.length_append] at hl
    simp only [diff_Encode_L17]
    simp only [rd, asP_ptr, lt_dec hi, hix, hld, hz, tmpE_st, lk, edt_ldR gt, edt_ldC gt, hwg]
    refine .seq (edit_spec (k := c.kind) (g := e.row - next) hec (by omega) wa2.w (by omega)) fun q ⟨q2, q3⟩ => ?_
    have wq := wa2.step q2 q3
    have ktq : KT wp (tmpE h e) q.2 := KT.ofW wa2.w q3
    have hltp := wa.w.lt
    have gtq : q.2.get h.next = some (.cells (edtV e) 49 true false) := ktq _ _ _ _ _ gt (by decide) (by omega)
    have gcq := ktq _ _ _ _ _ gc2 (by decide) hcb
    have wn : IntKind.wrap .i64 (((e.row : Nat) : Int) + 1) = ((e.row + 1 : Nat) : Int) := wrap_succ (by omega)
    simp only [rd, edt_ldR gtq, wn, wsucc (x := e) (show pre.length < 2 ^ 62 by omega)]
    rw [app_assoc1] at hs hn ⊢
    have he2 : (((e.row + 1 : Nat) : Int)) - 1 = (e.row : Int) := by omega
    have hlE : (editE c.kind next e).length = (uvarE (e.row - next) ++ (if e.cel.null then [1] else 0 :: putE c.kind e.cel)).length := rfl
    refine W.mono (wedits_loop hX hcb post (pre ++ [e]) (next := e.row + 1) hs hn (fun d hd => hok d (by simp [hd])) (by rw [he2]; exact hed) wq gcq (by rw [List.length_append, ← hlE]; omega)) fun r ⟨r1, r2, r3⟩ => ⟨r1, ?_, ((KT.ofKp kt).trans ktq).trans r3⟩
    rw [eE]
    have : l ++ (editE c.kind next e ++ editsE c.kind (e.row + 1) post) = l ++ editE c.kind next e ++ editsE c.kind (e.row + 1) post := by simp
    rw [this]
    exact r2

theorem fitB_ed {before : List Col} {rows tov : Nat} {c : Col} {x : PP} (h : fitB before rows tov c x = true) : edGo c (min rows tov) (-1) x.edits = true := by
  unfold fitB at h
  repeat' split at h
  all_goals first | cases h | exact h

theorem wparts_loop {h0 : H} {wp P : Nat} {bv av pv : Value} {before after : List Col} {rows tov : Nat} {parts : List PP} (ht : Tabs h0) (pm : PatM h0 bv av pv before after parts) (pn : PatN before after rows tov parts) (hpa : parts.length = after.length) (hP : P ≠ wp)
    (hok : ∀ q ∈ after.zip parts, PartOK before (min rows tov) q.1 q.2) (hfit : (after.zip parts).all (fun q => fitB before rows tov q.1 q.2) = true) : ∀ (j i : Nat) {h : H} {l : List UInt8}, i + j = parts.length → WA h0 h wp l → h.get P = some (.cells (patL bv rows av tov pv) 26 true false) → l.length + (((after.zip parts).drop i).flatMap fun q => partE q.1 q.2).length ≤ 2 ^ 29 →
    RetL E 6 10 [ptr P 0, ptr wp 0, pv, .int .i64 (parts.length : Nat), .int .i64 (i : Nat)] h fun b vals h' => b = 0 ∧ vals = [ptr wp 0] ∧ WA h0 h' wp (l ++ ((after.zip parts).drop i).flatMap fun q => partE q.1 q.2)
  | 0, i, h, l, hi, wa, gP, hl => by
    refine .of_lp rfl (fun C L => diff_Encode_L10_eq C L _ h) ?_
    simp only [diff_Encode_L10]
    simp only [rd, asP_ptr, ge_dec (show parts.length ≤ i by omega)]
    refine .ret ⟨rfl, rfl, ?_⟩
    rw [List.drop_eq_nil_of_le (by rw [List.length_zip]; omega)]
    simpa using wa
  | j + 1, i, h, l, hi, wa, gP, hl => by
    refine .of_lp rfl (fun C L => diff_Encode_L10_eq C L _ h) ?_
    have hip : i < parts.length := by omega
    have hia : i < after.length := by omega
    have hzi : i < (after.zip parts).length := by rw [List.length_zip]; omega
    obtain ⟨c, hc⟩ : ∃ c, c = after[i] := ⟨_, rfl⟩
    obtain ⟨x, hx⟩ : ∃ x, x = parts[i] := ⟨_, rfl⟩
    have hz : (after.zip parts)[i] = (c, x) := by rw [List.getElem_zip, ← hc, ← hx]
    have hmem : (c, x) ∈ after.zip parts := by rw [← hz]; exact List.getElem_mem _
    have po : PartOK before (min rows tov) c x := hok _ hmem
    have pf : fitB before rows tov c x = true := List.all_eq_true.1 hfit _ hmem
    have hxm : x ∈ parts := by rw [hx]; exact List.getElem_mem _
    rw [List.drop_eq_getElem_cons hzi, hz, List.flatMap_cons] at hl ⊢
    rw [List.length_append] at hl
    have hpE : (partE c x).length = (if x.same then uvarE x.edits.length else []).length + (editsE c.kind 0 x.edits).length + ((uvarE (columnE c x.cells).length).length + (columnE c x.cells).length) := by
      unfold partE textE
      simp only [List.length_append]
    simp only at hl
    have pmh := fun {h' : H} (k : Kp None' h0 h') => pm.kpN k
    obtain ⟨bp, _, ixp, ldp⟩ := (pmh wa.k).p.getP hip
    rw [← hx] at ldp
    have px := pm.x x hxm
    -- the part's variable, the column's
    obtain ⟨h7, hh7⟩ : ∃ h7, h7 = h.new (.cells pz 43 true false) := ⟨_, rfl⟩
    have g7 : h7.get h.next = some (.cells pz 43 true false) := by rw [hh7]; exact get_new_self _ _
    have s8 : stV 3 h7 h.next 0 (ppA x) = some (h7.put h.next (some (.cells (ppV x) 43 true false))) := stV_full (n := 3) g7 rfl rfl px.one
    obtain ⟨h8, hh8⟩ : ∃ h8, h8 = h7.put h.next (some (.cells (ppV x) 43 true false)) := ⟨_, rfl⟩
    have g8 : h8.get h.next = some (.cells (ppV x) 43 true false) := by rw [hh8]; exact H.get_put_same _ _ _ (H.get_lt g7)
    have k8 : Kp None' h h8 := by rw [hh8, hh7]; exact (Kp.new _ _).putNew _ (Nat.le_refl _)
    have n8 : h8.next = h.next + 1 := by rw [hh8]; show h7.next = _; rw [hh7]; rfl
    have gP8 := k8.get gP (fun h => h)
    have la8 : ldV h8 P (0 + 2) = some av := ldV_of gP8 rfl pm.a.one
    obtain ⟨bc, _, ixc, ldc⟩ := (pmh (wa.k.then k8)).a.getC hia
    rw [← hc] at ldc
    obtain ⟨h12, hh12⟩ : ∃ h12, h12 = h8.new (.cells [(.string (bs [])), (.int .i64 (0)), (.bool false)] 55 true false) := ⟨_, rfl⟩
    have g12 : h12.get (h.next + 1) = some (.cells [(.string (bs [])), (.int .i64 (0)), (.bool false)] 55 true false) := by rw [hh12, ← n8]; exact get_new_self _ _
    have s13 : stV 3 h12 (h.next + 1) 0 (colA c) = some (h12.put (h.next + 1) (some (.cells (colV c) 55 true false))) := stV_full (n := 3) g12 rfl rfl (colV_one c)
    obtain ⟨h13, hh13⟩ : ∃ h13, h13 = h12.put (h.next + 1) (some (.cells (colV c) 55 true false)) := ⟨_, rfl⟩
    have g13 : h13.get (h.next + 1) = some (.cells (colV c) 55 true false) := by rw [hh13]; exact H.get_put_same _ _ _ (H.get_lt g12)
    have k13 : Kp None' h8 h13 := by rw [hh13, hh12]; exact (Kp.new _ _).putNew _ (by omega)
    have kk := k8.then k13
    have wa13 := wa.other kk
    have gX := k13.get g8 (fun h => h)
    have gP13 := k13.get gP8 (fun h => h)
    have hltW := wa.w.lt
    have ls : ldB h13 h.next (0 + 0) = some x.same := ldB_of gX rfl
    have le : ldV h13 h.next (0 + 1) = some x.ev := ldV_of gX rfl px.e.one
    simp only [diff_Encode_L10]
    simp only [rd, asP_ptr, lt_dec hip, ixp, ldp, ← hh7, s8, ← hh8, la8, ixc, ldc, ← hh12, n8, s13, ← hh13, ls]
    -- from the edits on
    have tail : ∀ (h25 : H) (l' : List UInt8), WA h0 h25 wp (l ++ l') → KT wp h13 h25 → l' = (if x.same then uvarE x.edits.length else []) → W E (fun C L => (ldV h25 h.next (0 + 1)).bind fun v27 => (lenV v27).bind fun n28 =>
        (L 6 17 [(ptr P 0), (ptr wp 0), (ptr h.next 0), (ptr (h.next + 1) 0), (.int .i64 (0 : Int)), pv, (.int .i64 (parts.length : Nat)), (.int .i64 (i : Nat)), v27, (.int .i64 ((n28 : Nat) : Int)), (.int .i64 (0 : Int))] h25).bind fun p29 =>
        (asP (lget p29.2.1 0)).bind fun p30 => (asP (lget p29.2.1 1)).bind fun p31 => (asP (lget p29.2.1 2)).bind fun p32 => (asP (lget p29.2.1 3)).bind fun p33 => (asI .i64 (lget p29.2.1 5)).bind fun x34 => (asI .i64 (lget p29.2.1 6)).bind fun x35 =>
        (ldA 3 p29.2.2 p33.1 p33.2).bind fun v36 => (ldV p29.2.2 p32.1 (p32.2 + 2)).bind fun v37 => (C 19 [v36, v37] p29.2.2).bind fun p38 => (tup2 p38.1).bind fun p39 => (asS p39.1).bind fun s40 => (asI .i64 p39.2).bind fun x41 =>
        cond (x41 != (0 : Int)) (some (1, [(.string (bs [])), (.int .i64 x41)], p38.2)) ((C 15 [(ptr p31.1 p31.2), (.string s40)] p38.2).bind fun p42 => L 6 10 [(ptr p30.1 p30.2), (ptr p31.1 p31.2), (lget p29.2.1 4), (.int .i64 x34), (.int .i64 (IntKind.wrap .i64 (x35 + (1 : Int))))] p42.2))
        fun z => z.1 = 0 ∧ z.2.1 = [ptr wp 0] ∧ WA h0 z.2.2 wp (l ++ (partE c x ++ ((after.zip parts).drop (i + 1)).flatMap fun q => partE q.1 q.2)) := by
      intro h25 l' w25 kt25 hl'
      have gX25 := kt25 _ _ _ _ _ gX (by decide) (by omega)
      have gc25 := kt25 _ _ _ _ _ g13 (by decide) (by omega)
      have gP25 := kt25 _ _ _ _ _ gP13 (by decide) hP
      have le25 : ldV h25 h.next (0 + 1) = some x.ev := ldV_of gX25 rfl px.e.one
      have hel := po.el
      have hll : l'.length = (if x.same then uvarE x.edits.length else []).length := by rw [hl']
      simp only [rd, le25, px.e.len]
      refine .seq (wedits_loop (h0 := h0) (wp := wp) (P := P) (X := h.next) (cb := h.next + 1) (c := c) (M := min rows tov) (next := 0) (pv := pv) (by omega) (by omega) x.edits [] px.e (by simp; omega) (fun e he => ⟨(po.ed e he).1, by have := (po.ed e he).2; have := pn.r; omega⟩) (by simpa using fitB_ed pf) w25 gc25 (by rw [List.length_append]; omega)) fun q ⟨q1, q2, q3⟩ => ?_
      have gXq := q3 _ _ _ _ _ gX25 (by decide) (by omega)
      have gcq := q3 _ _ _ _ _ gc25 (by decide) (by omega)
      have gPq := q3 _ _ _ _ _ gP25 (by decide) hP
      have lc : ldV q.2.2 h.next (0 + 2) = some x.cv := ldV_of gXq rfl px.c.one
      obtain ⟨_, hcl, _⟩ := enc_ok po.ck po.cl
      simp only [rd, q1, asP_ptr, ldA3 gcq, lc]
      refine .seq (cEncode_spec (col := c) (ht.kp q2.k (fun h => h) (fun h => h)) (px.c.kpN q2.k) (by omega) po.cl) fun z ⟨kz, z1⟩ => ?_
      have wz := q2.other kz
      rw [if_pos po.ck] at z1
      simp only [rd, z1, show ((0 : Int) != 0) = false from rfl]
      have hsz : ByteArray.size ⟨⟨columnE c x.cells⟩⟩ = (columnE c x.cells).length := rfl
      refine .seq (text_spec (s := ⟨⟨columnE c x.cells⟩⟩) wz.w (by rw [hsz]; omega) (by rw [hsz]; simp only [List.length_append]; omega)) fun y ⟨_, y2, y3⟩ => ?_
      have wy := wz.step y2 y3
      have gPy := KT.ofW wz.w y3 _ _ _ _ _ (kz.get gPq (fun h => h)) (by decide) hP
      have wi : IntKind.wrap .i64 (((i : Nat) : Int) + 1) = ((i + 1 : Nat) : Int) := wrap_succ (by have := pn.p; omega)
      simp only [rd, wi]
      have eL : l ++ l' ++ editsE c.kind 0 x.edits ++ (uvarE (ByteArray.size ⟨⟨columnE c x.cells⟩⟩) ++ columnE c x.cells) = l ++ partE c x := by
        unfold partE textE
        rw [hl', hsz]
        simp
      have wy' : WA h0 y.2 wp (l ++ partE c x) := by rw [← eL]; exact wy
      refine W.mono (wparts_loop ht pm pn hpa hP hok hfit j (i + 1) (by omega) wy' gPy (by rw [List.length_append]; omega)) fun r ⟨r1, r2, r3⟩ => ⟨r1, r2, ?_⟩
      rw [← List.append_assoc]
      exact r3
    cases hsame : x.same with
    | true =>
      have hul : (uvarE x.edits.length).length ≤ 10 := uvarE_len (by have := po.el; omega)
      simp only [rd, le, px.e.len, wrap_u64 (x := x.edits.length) (by have := po.el; omega)]
      refine .seq (uvar_spec (x := x.edits.length) (by have := po.el; omega) wa13.w (by omega)) fun q ⟨_, q2, q3⟩ => ?_
      exact tail q.2 _ (wa13.step q2 q3) (KT.ofW wa13.w q3) (by rw [hsame]; rfl)
    | false =>
      simp only [rd]
      exact tail h13 [] (by simpa using wa13) (.refl _ _) (by rw [hsame]; rfl)

theorem encode_spec {h : H} {bv av pv : Value} {before after : List Col} {rows tov : Nat} {parts : List PP} (ht : Tabs h) (pm : PatM h bv av pv before after parts) (pn : PatN before after rows tov parts) (hck : checkP before after rows tov parts = 0)
    (hok : ∀ q ∈ after.zip parts, PartOK before (min rows tov) q.1 q.2) (hl : (patchE before rows after tov parts).length ≤ 2 ^ 28) :
    Ret E 6 [.agg ⟨patL bv rows av tov pv⟩] h fun v h' => Kp None' h h' ∧ v = .tuple #[.string ⟨⟨patchE before rows after tov parts⟩⟩, .int .i64 0] := by
  refine .of_fn rfl rfl (fun C L => diff_Encode_eq C L _ h) ?_
  have oa := pm.a.one
  have ob := pm.b.one
  have op := pm.p.one
  have hck2 := hck
  unfold checkP at hck2
  split at hck2
  · cases hck2
  rename_i hcols
  split at hck2
  · cases hck2
  split at hck2
  · cases hck2
  rename_i hpa
  split at hck2
  rotate_left
  · cases hck2
  rename_i hfit
  have hbd : colsD before = true := by
    cases h : colsD before with
    | true => rfl
    | false => exact absurd (.inl h) hcols
  have had : colsD after = true := by
    cases h : colsD after with
    | true => rfl
    | false => exact absurd (.inr h) hcols
  have hpa : parts.length = after.length := by omega
  have hr := pn.r
  have htv := pn.t
  have hlE : (patchE before rows after tov parts).length = (uvarE (colsE before).length).length + (colsE before).length + (uvarE rows).length + ((uvarE (colsE after).length).length + (colsE after).length + (uvarE tov).length + ((after.zip parts).flatMap fun q => partE q.1 q.2).length) := by
    unfold patchE textE
    simp only [List.length_append]
  obtain ⟨h1, hh1⟩ : ∃ h1, h1 = h.new (.cells (patL bv rows av tov pv) 26 true false) := ⟨_, rfl⟩
  have k1 : Kp None' h h1 := by rw [hh1]; exact .new _ _
  have g1 : h1.get h.next = some (.cells (patL bv rows av tov pv) 26 true false) := by rw [hh1]; exact get_new_self _ _
  have ld1 : ldA 5 h1 h.next 0 = some (.agg ⟨patL bv rows av tov pv⟩) := ldA_full g1 rfl
  simp only [diff_Encode]
  simp only [rd, oneL_pat ob oa op, ← hh1, ld1]
  refine .seq (dcheck_spec (ht.kp k1 (fun h => h) (fun h => h)) (pm.kpN k1) pn) fun q ⟨kq, q1⟩ => ?_
  have kk := k1.then kq
  have gq := kq.get g1 (fun h => h)
  obtain ⟨h6, hh6⟩ : ∃ h6, h6 = q.2.new (.cells [.slice none 0 0] 61 true false) := ⟨_, rfl⟩
  have wa : WA h h6 q.2.next [] := by rw [hh6]; exact .make kk
  have g6 : h6.get h.next = some (.cells (patL bv rows av tov pv) 26 true false) := by rw [hh6]; exact H.get_new_old gq
  have hP : h.next ≠ q.2.next := by have := H.get_lt gq; omega
  have lb : ldV h6 h.next (0 + 0) = some bv := ldV_of g6 rfl ob
  simp only [rd, q1, hck, show ((0 : Int) != 0) = false from rfl, ← hh6, lb]
  -- columns, and how many rows
  have one' : ∀ {x : H} {l : List UInt8} {cv : Value} {cols : List Col}, WA h x q.2.next l → x.get h.next = some (.cells (patL bv rows av tov pv) 26 true false) → Sl 3 55 0 h cv cols.length (cols.flatMap colV) → colsD cols = true → l.length + (uvarE (colsE cols).length).length + (colsE cols).length ≤ 2 ^ 29 →
      W E (fun C _ => (C 16 [cv] x).bind fun p8 => (asS p8.1).bind fun s9 => (C 15 [(ptr q.2.next 0), (.string s9)] p8.2)) fun z => WA h z.2 q.2.next (l ++ textE (colsE cols)) ∧ z.2.get h.next = some (.cells (patL bv rows av tov pv) 26 true false) := by
    intro x l cv cols wx gx sc hcd hlen
    refine .seq (sPut_spec (ht.kp wx.k (fun h => h) (fun h => h)) (sc.kpN wx.k) hcd) fun y ⟨ky, y1⟩ => ?_
    simp only [rd, y1]
    have wy := wx.other ky
    have hsz : ByteArray.size ⟨⟨colsE cols⟩⟩ = (colsE cols).length := rfl
    refine W.mono (text_spec (s := ⟨⟨colsE cols⟩⟩) wy.w (by rw [hsz]; omega) (by rw [hsz]; omega)) fun z ⟨_, z2, z3⟩ => ⟨?_, KT.ofW wy.w z3 _ _ _ _ _ (ky.get gx (fun h => h)) (by decide) hP⟩
    exact wy.step z2 z3
  have assoc : ∀ {R : Type} (e : CF → LF → Option (Value × H)) (k : CF → LF → Value × H → Option R) (x : H) (cv : Value), (∀ C L, e C L = (C 16 [cv] x).bind fun p8 => (asS p8.1).bind fun s9 => (C 15 [(ptr q.2.next 0), (.string s9)] p8.2)) → ∀ C L, ((C 16 [cv] x).bind fun p8 => (asS p8.1).bind fun s9 => (C 15 [(ptr q.2.next 0), (.string s9)] p8.2).bind fun p10 => k C L p10) = (e C L).bind (k C L) := by
    intro R e k x cv he C L
    rw [he C L]
    cases C 16 [cv] x with
    | none => rfl
    | some p8 =>
      simp only [Option.bind_some]
      cases asS p8.1 <;> rfl
  refine .congr (assoc _ _ h6 bv (fun _ _ => rfl)) ?_
  refine .seq (one' wa g6 pm.b hbd (by simp only [List.length_nil]; omega)) fun z ⟨wz, gz⟩ => ?_
  have lr : ldI .i64 z.2 h.next (0 + 1) = some (rows : Int) := ldI_of gz rfl
  simp only [rd, lr, wrap_u64 (x := rows) (by omega)]
  refine .seq (uvar_spec (x := rows) (by omega) wz.w (by simp only [textE, List.length_append, List.length_nil]; omega)) fun y ⟨_, y2, y3⟩ => ?_
  have wy := wz.step y2 y3
  have gy := KT.ofW wz.w y3 _ _ _ _ _ gz (by decide) hP
  have la : ldV y.2 h.next (0 + 2) = some av := ldV_of gy rfl oa
  simp only [rd, la]
  refine .congr (assoc _ _ y.2 av (fun _ _ => rfl)) ?_
  refine .seq (one' wy gy pm.a had (by simp only [textE, List.length_append, List.length_nil]; omega)) fun x ⟨wx, gx⟩ => ?_
  have lt : ldI .i64 x.2 h.next (0 + 3) = some (tov : Int) := ldI_of gx rfl
  simp only [rd, lt, wrap_u64 (x := tov) (by omega)]
  refine .seq (uvar_spec (x := tov) (by omega) wx.w (by simp only [textE, List.length_append, List.length_nil]; omega)) fun w ⟨_, w2, w3⟩ => ?_
  have ww := wx.step w2 w3
  have gw := KT.ofW wx.w w3 _ _ _ _ _ gx (by decide) hP
  have lp : ldV w.2 h.next (0 + 4) = some pv := ldV_of gw rfl op
  simp only [rd, lp, pm.p.len]
  refine .seq (wparts_loop (h0 := h) (wp := q.2.next) (P := h.next) ht pm pn hpa hP hok hfit parts.length 0 (by omega) ww gw (by
    rw [List.drop_zero]
    simp only [textE, List.length_append, List.length_nil]
    omega)) fun v ⟨v1, v2, v3⟩ => ?_
  simp only [rd, v1, v2, show ((0 : Nat) == 0) = true from rfl, asP_ptr]
  refine .seq (string_spec v3.w) fun u ⟨u1, u2⟩ => ?_
  simp only [rd, u1, u2]
  refine .ret ⟨v3.k, ?_⟩
  rw [List.drop_zero]
  simp [patchE]
end Go.Arm
namespace Go.Arm
open Go.Proofs

/-! ## columns -/
theorem Sl.curCs {h : H} {v : Value} {m : Nat} {pre post : List Col} {c : Col} (s : Sl 3 55 m h v (pre ++ c :: post).length ((pre ++ c :: post).flatMap colV)) :
    ∃ b, idx 3 v (pre.length : Nat) = some (b, pre.length * 3) ∧ ldS h b (pre.length * 3 + 0) = some c.name ∧ ldI .i64 h b (pre.length * 3 + 1) = some c.kind := by
  have hi : pre.length < (pre ++ c :: post).length := by simp
  obtain ⟨b, _, hix, hce⟩ := s.get colV_len hi
  have hget : (pre ++ c :: post)[pre.length] = c := by simp
  rw [hget] at hce
  refine ⟨b, hix, ?_, ?_⟩
  · have := cellAt_cells hce (i := 0) (by decide)
    unfold ldS
    rw [this]; rfl
  · have := cellAt_cells hce (i := 1) (by decide)
    exact ldI_cell (by rw [this]; rfl)

theorem rcols_in {h : H} {v : Value} {m0 : Nat} {pre post : List Col} {c : Col} (hs : Sl 3 55 m0 h v (pre ++ c :: post).length ((pre ++ c :: post).flatMap colV)) (hn : (pre ++ c :: post).length < 2 ^ 40) (hd : (pre.any fun d => seq c.name d.name) = false) : ∀ (r pk : List Col), pk ++ r = pre →
    RetL E 21 5 [v, .int .i64 (pre.length : Nat), .int .i64 (pk.length : Nat)] h fun b vals h' => h' = h ∧ b = 0 ∧ vals = [v, .int .i64 (pre.length : Nat)]
  | [], pk, hp => by
    refine .of_lp rfl (fun C L => armariumref06_Columns_L5_eq C L _ h) ?_
    rw [List.append_nil] at hp
    simp only [armariumref06_Columns_L5]
    simp only [rd, hp, Int.lt_irrefl, decide_false]
    exact .ret ⟨rfl, rfl, rfl⟩
  | d :: r, pk, hp => by
    refine .of_lp rfl (fun C L => armariumref06_Columns_L5_eq C L _ h) ?_
    have hi : pk.length < pre.length := by rw [← hp]; simp
    obtain ⟨b, ix1, ls1, _⟩ := hs.curCs
    have hs2 : Sl 3 55 m0 h v (pk ++ d :: (r ++ c :: post)).length ((pk ++ d :: (r ++ c :: post)).flatMap colV) := by
      have : pre ++ c :: post = pk ++ d :: (r ++ c :: post) := by rw [← hp]; simp
      rw [← this]; exact hs
    obtain ⟨b2, ix2, ls2, _⟩ := hs2.curCs
    have hse : seq c.name d.name = false := by
      have := List.any_eq_false.1 hd d (by rw [← hp]; simp)
      simpa using this
    simp only [armariumref06_Columns_L5]
    simp only [rd, lt_dec hi, ix1, ls1, ix2, ls2, hse, wsucc (x := d) (show pk.length < 2 ^ 62 by simp at hn; omega)]
    exact rcols_in hs hn hd r (pk ++ [d]) (by simpa using hp)

theorem rcols_loop {h : H} {v : Value} {m0 : Nat} (ht : Tabs h) : ∀ (post pre : List Col), Sl 3 55 m0 h v (pre ++ post).length ((pre ++ post).flatMap colV) → (pre ++ post).length < 2 ^ 40 → colsGo pre post = true →
    RetL E 21 2 [v, .int .i64 (pre.length : Nat)] h fun b vals h' => h' = h ∧ b = 0 ∧ vals = [v]
  | [], pre, hs, hn, hg => by
    refine .of_lp rfl (fun C L => armariumref06_Columns_L2_eq C L _ h) ?_
    simp only [armariumref06_Columns_L2]
    simp only [rd, hs.len, List.append_nil, Int.lt_irrefl, decide_false]
    exact .ret ⟨rfl, rfl, rfl⟩
  | c :: post, pre, hs, hn, hg => by
    refine .of_lp rfl (fun C L => armariumref06_Columns_L2_eq C L _ h) ?_
    have hi : pre.length < (pre ++ c :: post).length := by simp
    obtain ⟨b, ix1, ls1, lk1⟩ := hs.curCs
    unfold colsGo at hg
    simp only [Bool.and_eq_true, Bool.not_eq_true'] at hg
    obtain ⟨⟨hd, hc⟩, hg⟩ := hg
    have hc' := hc
    unfold colOk1 at hc'
    simp only [Bool.and_eq_true, Bool.not_eq_true', decide_eq_true_eq] at hc'
    obtain ⟨c1, c2, c3, c4⟩ := hc'
    simp only [armariumref06_Columns_L2]
    simp only [rd, hs.len, lt_dec hi]
    refine .seq (rcols_in (post := post) hs hn hd pre [] rfl) fun q ⟨q1, q2, q3⟩ => ?_
    simp only [rd, q1, q2, q3, show ((0 : Nat) == 0) = true from rfl, ix1, ls1, c1, show decide (((c.name.size : Nat) : Int) > 64) = false from decide_eq_false (by omega)]
    refine .seq (Q1 := fun z => z = (false, h)) (.seq (valid_spec ht (by unfold roomy; omega)) fun z ⟨z1, z2⟩ => by simp only [rd, z1, z2, c3, Bool.not_true]; exact .ret rfl) fun z hz => ?_
    simp only [rd, hz, lk1, show decide (c.kind < 1) = false from decide_eq_false (by omega), show decide (c.kind > 6) = false from decide_eq_false (by omega), wsucc (x := c) (show pre.length < 2 ^ 62 by omega)]
    rw [app_assoc1] at hs hn
    exact rcols_loop ht post (pre ++ [c]) hs hn hg

theorem rcols_spec {h : H} {v : Value} {m0 : Nat} {l : List Col} (ht : Tabs h) (hs : Sl 3 55 m0 h v l.length (l.flatMap colV)) (hd : colsD l = true) : Ret E 21 [v] h fun r h' => h' = h ∧ r = .bool true := by
  refine .of_fn rfl rfl (fun C L => armariumref06_Columns_eq C L _ h) ?_
  obtain ⟨h1, h2, _⟩ := colsD_iff hd
  have hg : colsGo [] l = true := by
    unfold colsD at hd
    rw [Bool.and_eq_true] at hd
    exact hd.2
  simp only [armariumref06_Columns]
  simp only [rd]
  refine .seq (rcols_loop ht l [] hs (by simp; omega) hg) fun q ⟨q1, q2, q3⟩ => ?_
  simp only [rd, q1, q2, q3, show ((0 : Nat) == 0) = true from rfl, hs.len, show decide (((l.length : Nat) : Int) ≥ 1) = true from decide_eq_true (by omega), show decide (((l.length : Nat) : Int) ≤ 32) = true from decide_eq_true (by omega)]
  exact .ret ⟨rfl, rfl⟩

/-! ## cells -/
theorem wholeB_zero {a : Nat} (h : feq .f64 a 0 = true) : wholeB a = true := by
  have h0 : Ieee.double.read 0 = .number false 0 (-1074) := by decide +kernel
  have hf : (Ieee.double.order a 0 == some .eq) = true := h
  have hr : ∃ s i, Ieee.double.read a = .number s 0 i := by
    unfold Ieee.Format.order at hf
    rw [h0] at hf
    cases hd : Ieee.double.read a with
    | nan s t => rw [hd] at hf; simp [Ieee.Datum.order] at hf
    | infinity s => rw [hd] at hf; cases s <;> simp [Ieee.Datum.order] at hf
    | number s m i =>
      rw [hd] at hf
      have e : (Ieee.Datum.number s m i).order (.number false 0 (-1074)) = some (compare (Ieee.signed s m (i - min i (-1074)).toNat) (Ieee.signed false 0 (-1074 - min i (-1074)).toNat)) := rfl
      rw [e, signed_zero] at hf
      have hc : compare (Ieee.signed s m (i - min i (-1074)).toNat) 0 = .eq := by
        cases hcc : compare (Ieee.signed s m (i - min i (-1074)).toNat) 0 <;> rw [hcc] at hf <;> first | rfl | exact absurd hf (by decide)
      have hz := Int.compare_eq_eq.1 hc
      have hm : m = 0 := by
        unfold Ieee.signed at hz
        rw [shl_eq] at hz
        have hp : 0 < 2 ^ (i - min i (-1074)).toNat := Nat.pow_pos (by omega)
        have hmz : m * 2 ^ (i - min i (-1074)).toNat = 0 := by
          have hz2 : ((m * 2 ^ (i - min i (-1074)).toNat : Nat) : Int) = 0 := by cases s <;> simp only [Bool.false_eq_true, if_false, if_true] at hz <;> omega
          exact Int.natCast_eq_zero.1 hz2
        rcases Nat.mul_eq_zero.1 hmz with h | h
        · exact h
        · omega
      exact ⟨s, i, by rw [hm]⟩
  obtain ⟨s, i, hr⟩ := hr
  have hfi : f2i .i64 (.float .f64 a) = some 0 := by
    refine f2i_of_toInt ?_ (by decide) (by decide)
    rw [hr]
    show some (Ieee.signed s (Ieee.Toward.zero.cut s (0 <<< i.toNat) (-i).toNat) 0) = some 0
    have : Ieee.Toward.zero.cut s (0 <<< i.toNat) (-i).toNat = 0 := by
      unfold Ieee.Toward.cut
      simp
    rw [this, signed_zero]
  have hlo : Ieee.double.order a cLo = some .gt := by
    unfold Ieee.Format.order
    rw [hr, read_lo]
    have e : (Ieee.Datum.number s 0 i).order (.number true (2 ^ 52) 1) = some (compare (Ieee.signed s 0 (i - min i 1).toNat) (Ieee.signed true (2 ^ 52) (1 - min i 1).toNat)) := rfl
    rw [e, signed_zero]
    have : Ieee.signed true (2 ^ 52) (1 - min i 1).toNat < 0 := by
      unfold Ieee.signed
      rw [if_pos rfl, shl_eq]
      have hp : 0 < 2 ^ (1 - min i 1).toNat := Nat.pow_pos (by omega)
      have : 0 < 2 ^ 52 * 2 ^ (1 - min i 1).toNat := Nat.mul_pos (by decide) hp
      omega
    rw [Int.compare_eq_gt.2 this]
  have hhi : Ieee.double.order a cHi = some .lt := by
    unfold Ieee.Format.order
    rw [hr, read_hi]
    have e : (Ieee.Datum.number s 0 i).order (.number false (2 ^ 52) 1) = some (compare (Ieee.signed s 0 (i - min i 1).toNat) (Ieee.signed false (2 ^ 52) (1 - min i 1).toNat)) := rfl
    rw [e, signed_zero]
    have : 0 < Ieee.signed false (2 ^ 52) (1 - min i 1).toNat := by
      unfold Ieee.signed
      rw [if_neg (by decide), shl_eq]
      have hp : 0 < 2 ^ (1 - min i 1).toNat := Nat.pow_pos (by omega)
      have : 0 < 2 ^ 52 * 2 ^ (1 - min i 1).toNat := Nat.mul_pos (by decide) hp
      omega
    rw [Int.compare_eq_lt.2 this]
  have hn : Ieee.double.order (FloatKind.nearest .f64 0) a = some .eq := by
    rw [nearest0]
    unfold Ieee.Format.order
    rw [h0, hr]
    have e : (Ieee.Datum.number false 0 (-1074)).order (.number s 0 i) = some (compare (Ieee.signed false 0 (-1074 - min (-1074) i).toNat) (Ieee.signed s 0 (i - min (-1074) i).toNat)) := rfl
    rw [e, signed_zero, signed_zero]
    rfl
  unfold wholeB
  rw [hlo, hhi, hfi]
  simp only [hn]
  decide

/-- what is asked of a cell, one by one -/
structure CellF (col : Col) (c : Cel) : Prop where
  f0 : c.null = true → col.null = true
  f5 : col.kind = 5 → Lib.validD c.s.data.toList = true
  f6 : col.kind = 6 → wholeB c.re = true ∧ wholeB c.im = true
  f1 : (c.null || col.kind != 1) = true → c.b = false
  f2 : (c.null || col.kind != 2) = true → c.i = 0
  f3 : (c.null || col.kind != 3) = true → c.u = 0
  f4 : (c.null || (col.kind != 4 && col.kind != 5)) = true → c.s = bs []
  fp : (!c.null && col.kind == 6) = false → (feq .f64 c.re 0 && feq .f64 c.im 0) = true
theorem celEq_iff {a : Cel} (h : celEq a zCel = true) : a.null = false ∧ a.b = false ∧ a.i = 0 ∧ a.u = 0 ∧ a.s = bs [] ∧ (feq .f64 a.re 0 && feq .f64 a.im 0) = true := by
  unfold celEq at h
  simp only [Bool.and_eq_true, Bool.and_true, beq_iff_eq, seq_iff] at h
  obtain ⟨h1, h2, h3, h4, h5, h6, h7⟩ := h
  exact ⟨h1, h2, h3, h4, h5, by rw [Bool.and_eq_true]; exact ⟨h6, h7⟩⟩
theorem cellF {col : Col} {c : Cel} (hk : 1 ≤ col.kind ∧ col.kind ≤ 6) (h : mayD col c = true) : CellF col c := by
  unfold mayD at h
  cases hn : c.null with
  | true =>
    rw [hn] at h
    simp only [if_true, Bool.and_eq_true] at h
    obtain ⟨h1, h2⟩ := h
    obtain ⟨_, e2, e3, e4, e5, e6⟩ := celEq_iff h2
    have e6' := e6
    simp only [Bool.and_eq_true] at e6'
    refine ⟨fun _ => h1, fun _ => ?_, fun _ => ⟨wholeB_zero e6'.1, wholeB_zero e6'.2⟩, fun _ => e2, fun _ => e3, fun _ => e4, fun _ => e5, fun _ => e6⟩
    simp only at e5
    rw [e5]
    rfl
  | false =>
    rw [hn] at h
    simp only [Bool.false_eq_true, if_false, Bool.and_eq_true] at h
    obtain ⟨h1, h2⟩ := h
    have e := celEq_iff h2
    have hkk : col.kind = 1 ∨ col.kind = 2 ∨ col.kind = 3 ∨ col.kind = 4 ∨ col.kind = 5 ∨ col.kind = 6 := by omega
    unfold mayC at h1
    unfold bareC at e
    rcases hkk with h | h | h | h | h | h <;> rw [h] at h1 e
    all_goals refine ⟨fun hx => ?_, fun hx => ?_, fun hx => ?_, fun hx => ?_, fun hx => ?_, fun hx => ?_, fun hx => ?_, fun hx => ?_⟩
    all_goals first
      | (rw [hn] at hx; cases hx; done)
      | (rw [h] at hx; exact absurd hx (by decide))
      | (rw [hn, h] at hx; exact absurd hx (by decide))
      | (simp at e; exact e.1)
      | (simp at e; exact e.2.1)
      | (simp at e; exact e.2.2.1)
      | (simp at e; exact e.2.2.2.1)
      | (simp at e; exact e.2.2.2.2.1)
      | (simp at e; simp; exact e.2.2.2.2.2)
      | (simp at e; simp; exact e.2.2.2.2)
      | (simpa using h1)
end Go.Arm
namespace Go.Arm
open Go.Proofs

theorem rcell_spec {col : Col} {c : Cel} {h : H} (hk : 1 ≤ col.kind ∧ col.kind ≤ 6) (ht : Tabs h) (hc : CelOK c) (hm : mayD col c = true) : Ret E 49 [colA col, celA c] h fun v h' => Kp None' h h' ∧ v = .bool true := by
  refine .of_fn rfl rfl (fun C L => armariumref06_Cell_eq C L _ h) ?_
  have f := cellF hk hm
  obtain ⟨h1, hh1⟩ : ∃ h1, h1 = h.new (.cells (colV col) 55 true false) := ⟨_, rfl⟩
  obtain ⟨h3, hh3⟩ : ∃ h3, h3 = h1.new (.cells (celV c) 47 true false) := ⟨_, rfl⟩
  have n1 : h1.next = h.next + 1 := by rw [hh1]; rfl
  have k3 : Kp None' h h3 := by rw [hh3, hh1]; exact (Kp.new _ _).thenNew _
  have g0 : h3.get h.next = some (.cells (colV col) 55 true false) := by rw [hh3]; exact H.get_new_old (by rw [hh1]; exact get_new_self _ _)
  have g1 : h3.get (h.next + 1) = some (.cells (celV c) 47 true false) := by rw [hh3, ← n1]; exact get_new_self _ _
  have ht3 := ht.kp k3 (fun h => h) (fun h => h)
  have lnull : ldB h3 (h.next + 1) (0 + 0) = some c.null := ldB_of g1 rfl
  have lcn : ldB h3 h.next (0 + 2) = some col.null := ldB_of g0 rfl
  have lk : ldI .i64 h3 h.next (0 + 1) = some col.kind := ldI_of g0 rfl
  have lB : ldB h3 (h.next + 1) (0 + 1) = some c.b := ldB_of g1 rfl
  have lI : ldI .i64 h3 (h.next + 1) (0 + 2) = some c.i := ldI_of g1 rfl
  have lU : ldI .u64 h3 (h.next + 1) (0 + 3) = some c.u := ldI_of g1 rfl
  have lS : ldS h3 (h.next + 1) (0 + 4) = some c.s := ldS_of g1 rfl
  have lP : ldV h3 (h.next + 1) (0 + 5) = some (.complex .f64 c.re c.im) := ldV_of g1 rfl rfl
  have hcs := hc.s
  simp only [armariumref06_Cell]
  simp only [rd, oneL_col, oneL_cel, ← hh1, ← hh3, n1, lnull, lcn]
  have e1 : (cond c.null (some ((!col.null), h3)) (some (false, h3)) : Option (Bool × H)) = some (false, h3) := by
    cases hn : c.null with
    | true => rw [f.f0 hn]; rfl
    | false => rfl
  simp only [rd, e1, lk]
  -- texts
  refine .seq (Q1 := fun z => z = (false, h3)) ?_ fun z hz => ?_
  · by_cases h5 : col.kind = 5
    · simp only [rd, show (col.kind == 5) = true by simp [h5], lS]
      refine .seq (valid_spec ht3 (by unfold roomy; omega)) fun q ⟨q1, q2⟩ => ?_
      simp only [rd, q1, q2, f.f5 h5, Bool.not_true]
      exact .ret rfl
    · simp only [rd, show (col.kind == 5) = false by simp [h5]]
      exact .ret rfl
  simp only [rd, hz, lk]
  -- points
  refine .seq (Q1 := fun z => z = (false, h3)) ?_ fun z hz => ?_
  · by_cases h6 : col.kind = 6
    · simp only [rd, show (col.kind == 6) = true by simp [h6], lP, realV]
      refine .seq (rWhole_spec c.re h3) fun q ⟨q1, q2⟩ => ?_
      simp only [rd, q1, q2, (f.f6 h6).1, Bool.not_true, lP, imagV]
      refine .seq (Q1 := fun z => z = (false, h3)) (.seq (rWhole_spec c.im h3) fun q ⟨q1, q2⟩ => ?_) fun z hz => ?_
      · simp only [rd, q1, q2, (f.f6 h6).2, Bool.not_true]
        exact .ret rfl
      · rw [hz]
        exact .ret rfl
    · simp only [rd, show (col.kind == 6) = false by simp [h6]]
      exact .ret rfl
  have cor : ∀ (b x : Bool), (cond b (some (true, h3)) (some (x, h3)) : Option (Bool × H)) = some (b || x, h3) := fun b x => by cases b <;> rfl
  have cand : ∀ (b x : Bool), (b = true → x = false) → (cond b (some (x, h3)) (some (false, h3)) : Option (Bool × H)) = some (false, h3) := fun b x hx => by
    cases b with
    | true => rw [hx rfl]; rfl
    | false => rfl
  have bI : (c.null || col.kind != 2) = true → (c.i != 0) = false := fun h => by rw [f.f2 h]; rfl
  have bU : (c.null || col.kind != 3) = true → (c.u != 0) = false := fun h => by rw [f.f3 h]; rfl
  have bS : (c.null || (cond (col.kind != 4) (col.kind != 5) false)) = true → (!(seq c.s (bs []))) = false := fun h => by
    have : (c.null || (col.kind != 4 && col.kind != 5)) = true := by
      cases h4 : (col.kind != 4) <;> rw [h4] at h <;> simpa [h4] using h
    rw [f.f4 this, seq_iff.2 rfl]; rfl
  have e45 : (cond (col.kind != 4) (some (col.kind != 5, h3)) (some (false, h3)) : Option (Bool × H)) = some (cond (col.kind != 4) (col.kind != 5) false, h3) := by cases (col.kind != 4) <;> rfl
  have eP : (cond (!c.null) (some ((col.kind == 6), h3)) (some (false, h3)) : Option (Bool × H)) = some ((!c.null && col.kind == 6), h3) := by cases c.null <;> rfl
  simp only [rd, hz, lnull, lk, cor, lB, cand _ _ f.f1, lI, cand _ _ bI, lU, cand _ _ bU, e45, lS, cand _ _ bS, eP, lP, cop_eql]
  cases hp : (!c.null && col.kind == 6) with
  | true =>
    simp only [rd, Bool.true_or]
    exact .ret ⟨k3, rfl⟩
  | false =>
    simp only [rd, f.fp hp, Bool.false_or]
    exact .ret ⟨k3, rfl⟩

/-! ## places -/
theorem colEq_comm (a b : Col) : colEq a b = colEq b a := by
  rw [Bool.eq_iff_iff, colEq_iff, colEq_iff]
  exact ⟨Eq.symm, Eq.symm⟩
theorem place_loop {h : H} {v : Value} {m0 b : Nat} {c : Col} (g : h.get b = some (.cells (colV c) 55 true false)) : ∀ (post pre : List Col), Sl 3 55 m0 h v (pre ++ post).length ((pre ++ post).flatMap colV) → (pre ++ post).length < 2 ^ 40 →
    RetL E 48 2 [v, ptr b 0, .int .i64 (pre.length : Nat)] h fun x vals h' => h' = h ∧ if post.any (colEq c) then x = 1 ∧ ∃ i : Nat, vals = [.int .i64 (i : Nat)] else x = 0
  | [], pre, hs, hn => by
    refine .of_lp rfl (fun C L => armariumref21_Place_L2_eq C L _ h) ?_
    simp only [armariumref21_Place_L2]
    simp only [rd, asP_ptr, hs.len, List.append_nil, Int.lt_irrefl, decide_false]
    exact .ret ⟨rfl, rfl⟩
  | d :: post, pre, hs, hn => by
    refine .of_lp rfl (fun C L => armariumref21_Place_L2_eq C L _ h) ?_
    have hi : pre.length < (pre ++ d :: post).length := by simp
    obtain ⟨bb, _, hix, hce⟩ := hs.curC
    simp only [armariumref21_Place_L2]
    simp only [rd, asP_ptr, hs.len, lt_dec hi, ldA3 g, hix, hce, eqT_col, wsucc (x := d) (show pre.length < 2 ^ 62 by omega)]
    rw [List.any_cons, colEq_comm d c]
    cases colEq c d with
    | true =>
      simp only [rd]
      exact .ret ⟨rfl, rfl, pre.length, rfl⟩
    | false =>
      simp only [rd, Bool.false_or]
      rw [app_assoc1] at hs hn
      exact place_loop g post (pre ++ [d]) hs hn
theorem place_spec {h : H} {v : Value} {m0 : Nat} {l : List Col} {c : Col} (hs : Sl 3 55 m0 h v l.length (l.flatMap colV)) (hn : l.length < 2 ^ 40) :
    Ret E 48 [v, colA c] h fun r h' => Kp None' h h' ∧ ∃ i : Int, r = .int .i64 i ∧ decide (i ≥ 0) = l.any (colEq c) := by
  refine .of_fn rfl rfl (fun C L => armariumref21_Place_eq C L _ h) ?_
  obtain ⟨h2, hh2⟩ : ∃ h2, h2 = h.new (.cells (colV c) 55 true false) := ⟨_, rfl⟩
  have k2 : Kp None' h h2 := by rw [hh2]; exact .new _ _
  have g2 : h2.get h.next = some (.cells (colV c) 55 true false) := by rw [hh2]; exact get_new_self _ _
  simp only [armariumref21_Place]
  simp only [rd, oneL_col, ← hh2]
  refine .seq (place_loop g2 l [] (hs.kpN k2) hn) fun q ⟨q1, q2⟩ => ?_
  cases ha : l.any (colEq c) with
  | true =>
    rw [ha] at q2
    obtain ⟨q2, i, q3⟩ := q2
    simp only [rd, q1, q2, q3, show ((1 : Nat) == 0) = false from rfl]
    exact .ret ⟨k2, i, rfl, by simp⟩
  | false =>
    rw [ha] at q2
    have q2 : q.1 = 0 := q2
    simp only [rd, q1, q2, show ((0 : Nat) == 0) = true from rfl]
    exact .ret ⟨k2, -1, rfl, by decide⟩

/-! ## edits, told again -/
theorem bldT_104 (r : Nat) (c : Cel) : bldT E 104 [(0, .int .i64 (r : Nat)), (1, celA c)] = some (edtA ⟨r, c⟩) := by kernel_rfl
theorem bldS_71 (e : Edt) : bldS E 71 1 [(0, edtA e)] = some (edtV e) := by kernel_rfl
theorem cellsAt_sub {h : H} {b o n : Nat} {vs : List Value} (e : cellsAt h b o n = some vs) {i k : Nat} (hi : i + k ≤ n) : cellsAt h b (o + i) k = some ((vs.drop i).take k) := by
  unfold cellsAt at e ⊢
  split at e
  · rename_i cs t o' l hg
    split at e
    · rename_i hle
      rw [if_pos (by omega)]
      simp only [Option.some.injEq] at e ⊢
      subst e
      rw [List.drop_take, List.take_take, List.drop_drop, Nat.min_eq_left (by omega)]
    · cases e
  · cases e
theorem Sl.curE {h : H} {v : Value} {m : Nat} {t : TypeId} {pre post : List Edt} {e : Edt} (s : Sl 7 t m h v (pre ++ e :: post).length ((pre ++ e :: post).flatMap edtV)) :
    ∃ b, m ≤ b ∧ idx 7 v (pre.length : Nat) = some (b, pre.length * 7) ∧ ldI .i64 h b (pre.length * 7 + 0) = some (e.row : Int) ∧ ldA 6 h b (pre.length * 7 + 1) = some (celA e.cel) := by
  have hi : pre.length < (pre ++ e :: post).length := by simp
  obtain ⟨b, hm, hix, hce⟩ := s.get edtV_len hi
  have hget : (pre ++ e :: post)[pre.length] = e := by simp
  rw [hget] at hce
  refine ⟨b, hm, hix, ?_, ?_⟩
  · have := cellAt_cells hce (i := 0) (by decide)
    exact ldI_cell (by rw [this]; rfl)
  · exact ldA_cells (cellsAt_sub hce (i := 1) (k := 6) (by decide))

theorem edits2_loop {h0 : H} {ev : Value} : ∀ (post pre : List Edt) {h : H} {o : Value}, Sl 7 49 0 h0 ev (pre ++ post).length ((pre ++ post).flatMap edtV) → (pre ++ post).length < 2 ^ 30 → Kp None' h0 h → Sl 7 104 h0.next h o pre.length (pre.flatMap edtV) →
    RetL E 23 3 [ev, o, .int .i64 (pre.length : Nat)] h fun b vals h' => Kp None' h0 h' ∧ ∃ o', vals = [o'] ∧ Sl 7 104 h0.next h' o' (pre ++ post).length ((pre ++ post).flatMap edtV)
  | [], pre, h, o, hs, hn, kk, so => by
    refine .of_lp rfl (fun C L => armariumlaw21_edits_L3_eq C L _ h) ?_
    simp only [armariumlaw21_edits_L3]
    simp only [rd, hs.len, List.append_nil, Int.lt_irrefl, decide_false]
    exact .ret ⟨kk, o, rfl, by simpa using so⟩
  | e :: post, pre, h, o, hs, hn, kk, so => by
    refine .of_lp rfl (fun C L => armariumlaw21_edits_L3_eq C L _ h) ?_
    have hi : pre.length < (pre ++ e :: post).length := by simp
    obtain ⟨h3, hh3⟩ : ∃ h3, h3 = holes 1 h := ⟨_, rfl⟩
    have k3 : Kp None' h h3 := by rw [hh3]; exact .new _ _
    have n3 : h3.next = h.next + 1 := by rw [hh3]; rfl
    obtain ⟨b, _, hix, lr, lc⟩ := (hs.kpN (kk.then k3)).curE
    obtain ⟨h4, hh4⟩ : ∃ h4, h4 = h3.put h.next (some (.cells (edtV e) 104 true false)) := ⟨_, rfl⟩
    have g4 : h4.get h.next = some (.cells (edtV e) 104 true false) := by rw [hh4]; exact H.get_put_same _ _ _ (by omega)
    have k4 : Kp None' h h4 := by rw [hh4]; exact k3.putNew _ (Nat.le_refl _)
    have n4 : h4.next = h.next + 1 := by rw [hh4]; exact n3
    have hk := kk.1
    obtain ⟨v', h', a1, a2, a3⟩ := (so.kpN k4).app1 (bytes := 64) (x := e) edtV_len edtV_one g4 (by omega) (by unfold roomy; omega) (by omega)
    have hee : (⟨e.row, e.cel⟩ : Edt) = e := rfl
    simp only [armariumlaw21_edits_L3]
    simp only [rd, hs.len, lt_dec hi, ← hh3, hix, lr, lc, bldT_104, hee, bldS_71, Nat.add_zero (h.next), ← hh4, a1, wsucc (x := e) (show pre.length < 2 ^ 62 by omega)]
    rw [app_assoc1 pre post e] at hs hn ⊢
    exact edits2_loop post (pre ++ [e]) hs hn ((kk.then k4).hi a3 fun b hb => .inr hb) a2
theorem edits2_spec {h : H} {ev : Value} {l : List Edt} (hs : Sl 7 49 0 h ev l.length (l.flatMap edtV)) (hn : l.length < 2 ^ 30) : Ret E 23 [ev] h fun r h' => Kp None' h h' ∧ Sl 7 104 h.next h' r l.length (l.flatMap edtV) := by
  refine .of_fn rfl rfl (fun C L => armariumlaw21_edits_eq C L _ h) ?_
  simp only [armariumlaw21_edits]
  simp only [rd]
  refine .seq (edits2_loop (h0 := h) l [] hs hn (.refl _ _) .nil) fun q ⟨q1, o, q2, q3⟩ => ?_
  simp only [rd, q2]
  exact .ret ⟨q1, q3⟩

/-! ## a part -/
theorem may_ed {c : Col} {e : Cel} (h : checkD c [e] ≠ 30) : (1 ≤ c.kind ∧ c.kind ≤ 6) ∧ mayD c e = true := by
  unfold checkD at h
  split at h
  · exact absurd rfl h
  rename_i h1
  split at h
  · exact absurd rfl h
  rename_i h2
  refine ⟨colsD_kind (by simpa using h1), ?_⟩
  simpa using h2
theorem may_cells {c : Col} {l : List Cel} (h : checkD c l = 0) : (1 ≤ c.kind ∧ c.kind ≤ 6) ∧ ∀ d ∈ l, mayD c d = true := by
  unfold checkD at h
  split at h
  · cases h
  rename_i h1
  split at h
  · cases h
  rename_i h2
  refine ⟨colsD_kind (by simpa using h1), fun d hd => ?_⟩
  have : l.all (mayD c) = true := by simpa using h2
  exact List.all_eq_true.1 this d hd

theorem may9_loop {h0 : H} {ev cv : Value} {cb rows tov : Nat} {c : Col} (ht : Tabs h0) : ∀ (post pre : List Edt) {last : Int} {h : H}, Sl 7 104 0 h0 ev (pre ++ post).length ((pre ++ post).flatMap edtV) → (pre ++ post).length < 2 ^ 40 → (∀ e ∈ post, CelOK e.cel) → Kp None' h0 h → h.get cb = some (.cells (colV c) 55 true false) → edGo c (min rows tov) last post = true →
    RetL E 22 9 [.int .i64 (rows : Nat), .int .i64 (tov : Nat), ev, cv, ptr cb 0, .int .i64 last, .int .i64 (pre.length : Nat)] h fun b vals h' => Kp None' h h' ∧ b = 0 ∧ vals = [cv, ptr cb 0]
  | [], pre, last, h, hs, hn, hok, kk, gc, hed => by
    refine .of_lp rfl (fun C L => armariumref21_May_L9_eq C L _ h) ?_
    simp only [armariumref21_May_L9]
    simp only [rd, asP_ptr, hs.len, List.append_nil, Int.lt_irrefl, decide_false]
    exact .ret ⟨.refl _ _, rfl, rfl⟩
  | e :: post, pre, last, h, hs, hn, hok, kk, gc, hed => by
    refine .of_lp rfl (fun C L => armariumref21_May_L9_eq C L _ h) ?_
    have hi : pre.length < (pre ++ e :: post).length := by simp
    obtain ⟨b, _, hix, lr, lc⟩ := (hs.kpN kk).curE
    unfold edGo at hed
    split at hed
    · cases hed
    rename_i hlast
    split at hed
    · cases hed
    rename_i hM
    split at hed
    · cases hed
    rename_i hck
    obtain ⟨hk, hmay⟩ := may_ed hck
    simp only [armariumref21_May_L9]
    simp only [rd, asP_ptr, hs.len, lt_dec hi, hix, lr, show decide (((e.row : Nat) : Int) ≤ last) = false from decide_eq_false hlast, show decide (((e.row : Nat) : Int) ≥ ((rows : Nat) : Int)) = false from decide_eq_false (by omega), show decide (((e.row : Nat) : Int) ≥ ((tov : Nat) : Int)) = false from decide_eq_false (by omega), ldA3 gc, lc]
    refine .seq (rcell_spec hk (ht.kp kk (fun h => h) (fun h => h)) (hok e (by simp)) hmay) fun q ⟨kq, q1⟩ => ?_
    obtain ⟨b', _, hix', lr', _⟩ := (hs.kpN (kk.then kq)).curE
    have hbb : b' = b := by rw [hix] at hix'; simp at hix'; exact hix'.symm
    rw [hbb] at lr'
    simp only [rd, q1, Bool.not_true, lr', wsucc (x := e) (show pre.length < 2 ^ 62 by omega)]
    rw [app_assoc1] at hs hn
    exact W.mono (may9_loop ht post (pre ++ [e]) hs hn (fun d hd => hok d (by simp [hd])) (kk.then kq) (kq.get gc (fun h => h)) hed) fun r ⟨r1, r2⟩ => ⟨kq.then r1, r2⟩

theorem may15_loop {h0 : H} {cv : Value} {m0 cb : Nat} {c : Col} (ht : Tabs h0) (hk : 1 ≤ c.kind ∧ c.kind ≤ 6) : ∀ (post pre : List Cel) {h : H}, Sl 6 47 m0 h0 cv (pre ++ post).length ((pre ++ post).flatMap celV) → (pre ++ post).length < 2 ^ 40 → (∀ d ∈ post, CelOK d ∧ mayD c d = true) → Kp None' h0 h → h.get cb = some (.cells (colV c) 55 true false) →
    RetL E 22 15 [cv, ptr cb 0, .int .i64 (pre.length : Nat)] h fun b _ h' => Kp None' h h' ∧ b = 0
  | [], pre, h, hs, hn, hok, kk, gc => by
    refine .of_lp rfl (fun C L => armariumref21_May_L15_eq C L _ h) ?_
    simp only [armariumref21_May_L15]
    simp only [rd, asP_ptr, hs.len, List.append_nil, Int.lt_irrefl, decide_false]
    exact .ret ⟨.refl _ _, rfl⟩
  | d :: post, pre, h, hs, hn, hok, kk, gc => by
    refine .of_lp rfl (fun C L => armariumref21_May_L15_eq C L _ h) ?_
    have hi : pre.length < (pre ++ d :: post).length := by simp
    obtain ⟨b, _, hix, hce⟩ := (hs.kpN kk).cur
    obtain ⟨hd1, hd2⟩ := hok d (by simp)
    simp only [armariumref21_May_L15]
    simp only [rd, asP_ptr, hs.len, lt_dec hi, ldA3 gc, hix, hce]
    refine .seq (rcell_spec hk (ht.kp kk (fun h => h) (fun h => h)) hd1 hd2) fun q ⟨kq, q1⟩ => ?_
    simp only [rd, q1, Bool.not_true, wsucc (x := d) (show pre.length < 2 ^ 62 by omega)]
    rw [app_assoc1] at hs hn
    exact W.mono (may15_loop ht hk post (pre ++ [d]) hs hn (fun x hx => hok x (by simp [hx])) (kk.then kq) (kq.get gc (fun h => h))) fun r ⟨r1, r2⟩ => ⟨kq.then r1, r2⟩

theorem fitB_inv {before : List Col} {rows tov : Nat} {c : Col} {x : PP} (h : fitB before rows tov c x = true) : x.same = before.any (colEq c) ∧ x.cells.length = (if before.any (colEq c) then tov - rows else tov) ∧ (before.any (colEq c) = false → x.edits.length = 0) ∧ edGo c (min rows tov) (-1) x.edits = true := by
  unfold fitB at h
  by_cases h1 : x.same ≠ before.any (colEq c)
  · rw [if_pos h1] at h; cases h
  rw [if_neg h1] at h
  by_cases h2 : x.cells.length ≠ (if before.any (colEq c) then tov - rows else tov)
  · rw [if_pos h2] at h; cases h
  rw [if_neg h2] at h
  by_cases h3 : before.any (colEq c) = false ∧ 0 < x.edits.length
  · rw [if_pos h3] at h; cases h
  rw [if_neg h3] at h
  by_cases h4 : checkD c x.cells = 30
  · rw [if_pos h4] at h; cases h
  rw [if_neg h4] at h
  refine ⟨Decidable.not_not.1 h1, Decidable.not_not.1 h2, fun hk => ?_, h⟩
  rcases Nat.eq_zero_or_pos x.edits.length with h5 | h5
  · exact h5
  · exact absurd ⟨hk, h5⟩ h3
theorem rmay_spec {h : H} {bv ev cv : Value} {before : List Col} {rows tov m0 : Nat} {c : Col} {x : PP} (ht : Tabs h) (sb : Sl 3 55 m0 h bv before.length (before.flatMap colV)) (hb : before.length < 2 ^ 40) (hr : rows ≤ 10000) (htv : tov ≤ 10000)
    (se : Sl 7 104 0 h ev x.edits.length (x.edits.flatMap edtV)) (sc : Sl 6 47 0 h cv x.cells.length (x.cells.flatMap celV)) (po : PartOK before (min rows tov) c x) (pf : fitB before rows tov c x = true) :
    Ret E 22 [bv, colA c, .int .i64 (rows : Nat), .int .i64 (tov : Nat), .bool x.same, ev, cv] h fun v h' => Kp None' h h' ∧ v = .bool true := by
  refine .of_fn rfl rfl (fun C L => armariumref21_May_eq C L _ h) ?_
  obtain ⟨p1, p2, p3, p4⟩ := fitB_inv pf
  obtain ⟨hk, hmc⟩ := may_cells po.ck
  obtain ⟨_, hcl, _⟩ := enc_ok po.ck po.cl
  have hel := po.el
  obtain ⟨h4, hh4⟩ : ∃ h4, h4 = h.new (.cells (colV c) 55 true false) := ⟨_, rfl⟩
  have k4 : Kp None' h h4 := by rw [hh4]; exact .new _ _
  have g4 : h4.get h.next = some (.cells (colV c) 55 true false) := by rw [hh4]; exact get_new_self _ _
  simp only [armariumref21_May]
  simp only [rd, oneL_col, ← hh4, ldA3 g4]
  refine .seq (place_spec (sb.kpN k4) hb) fun q ⟨kq, i, q1, q2⟩ => ?_
  have kk := k4.then kq
  have gq := kq.get g4 (fun h => h)
  obtain ⟨kept, hkept⟩ : ∃ kept, kept = before.any (colEq c) := ⟨_, rfl⟩
  rw [← hkept] at p1 p2 p3 q2
  have tail : ∀ want : Nat, x.cells.length = want → W E (fun C L => ((cond (!(x.same == kept)) (some (true, q.2)) ((lenV cv).bind fun n20 => some ((((n20 : Nat) : Int) != ((want : Nat) : Int)), q.2))) : Option (Bool × H)).bind fun p21 =>
      ((cond p21.1 (some (true, p21.2)) (((cond (!kept) ((lenV ev).bind fun n22 => some ((decide (((n22 : Nat) : Int) > (0 : Int))), p21.2)) (some (false, p21.2))) : Option (Bool × H)).bind fun p23 => some (p23.1, p23.2))) : Option (Bool × H)).bind fun p24 =>
      cond p24.1 (some ((Value.bool false), p24.2)) ((L 22 9 [(.int .i64 (rows : Nat)), (.int .i64 (tov : Nat)), ev, cv, (ptr h.next 0), (.int .i64 (-1 : Int)), (.int .i64 (0 : Int))] p24.2).bind fun p25 =>
        cond (p25.1 == 0) ((asP (lget p25.2.1 1)).bind fun p26 => (L 22 15 [(lget p25.2.1 0), (ptr p26.1 p26.2), (.int .i64 (0 : Int))] p25.2.2).bind fun p27 => cond (p27.1 == 0) (some ((.bool true), p27.2.2)) ((asB (lget p27.2.1 0)).bind fun b28 => some ((.bool b28), p27.2.2)))
          ((asB (lget p25.2.1 0)).bind fun b29 => some ((.bool b29), p25.2.2)))) fun z => Kp None' h z.2 ∧ z.1 = .bool true := by
    intro want hwant
    have e2 : (cond (!kept) (some ((decide (((x.edits.length : Nat) : Int) > (0 : Int))), q.2)) (some (false, q.2)) : Option (Bool × H)) = some (false, q.2) := by
      cases hk : kept with
      | true => rfl
      | false => rw [p3 hk]; rfl
    simp only [rd, show (!(x.same == kept)) = false by simp [p1], sc.len, show ((((x.cells.length : Nat) : Int)) != ((want : Nat) : Int)) = false by simp [hwant], se.len, e2]
    refine .seq (may9_loop (h0 := h) (c := c) (rows := rows) (tov := tov) (cv := cv) ht x.edits [] se (by simp; omega) (fun e he => (po.ed e he).1) kk gq p4) fun r ⟨kr, r1, r2⟩ => ?_
    simp only [rd, r1, r2, show ((0 : Nat) == 0) = true from rfl, asP_ptr]
    refine .seq (may15_loop (h0 := h) (c := c) ht hk x.cells [] sc (by simp; omega) (fun d hd => ⟨po.cl d hd, hmc d hd⟩) (kk.then kr) (kr.get gq (fun h => h))) fun s ⟨ks, s1⟩ => ?_
    simp only [rd, s1, show ((0 : Nat) == 0) = true from rfl]
    exact .ret ⟨(kk.then kr).then ks, rfl⟩
  simp only [rd, q1, q2]
  cases hkv : kept with
  | true =>
    rw [hkv] at p2 tail
    simp only [rd, wrap_sub htv hr]
    exact tail (tov - rows) (by simpa using p2)
  | false =>
    rw [hkv] at p2 tail
    simp only [rd]
    exact tail tov (by simpa using p2)
end Go.Arm
