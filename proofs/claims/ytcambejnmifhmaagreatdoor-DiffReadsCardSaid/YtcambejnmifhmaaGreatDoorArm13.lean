/- The law answers true, by the evaluator.
   The law DiffReads of the layer 'diff' holds: for every string the function answers true (bytes that tell a patch are its own, others have an error that may be), and the argument reads as it did. Conditions: none on the input; the two tables of package unicode/utf8 read as the program's text lays them (the card ties them). -/
import Derived.Test.YtcambejnmifhmaaGreatDoorArm12
import Derived.Test.YtcambejnmifhmaaGreatDoorCards
import Derived.Test.YtcambejnmifhmaaGreatDoorTie
import Derived.ProofKit
import Derived.Lib.LaidU8T
import Derived.Lay
import Derived.SevenTiedAt
import Derived.ChangeMaps5
namespace Go.Arm
open Go.Proofs

theorem veq_col (c : Col) : veq (colA c) (colA c) = true := by simp [veq, colA, colV, veqL, veq1]
theorem veq_bool (b : Bool) : veq (.bool b) (.bool b) = true := by simp [veq, veq1]
theorem Sl.curP {h : H} {v : Value} {m : Nat} {l : List PP} (s : Sl 3 43 m h v l.length (l.flatMap ppV)) {i : Nat} (hi : i < l.length) (h1 : Go.Arm.one l[i].ev = true) (h2 : Go.Arm.one l[i].cv = true) : ∃ b, idx 3 v (i : Nat) = some (b, i * 3) ∧ ldB h b (i * 3 + 0) = some l[i].same ∧ ldV h b (i * 3 + 1) = some l[i].ev ∧ ldV h b (i * 3 + 2) = some l[i].cv := by
  obtain ⟨b, _, hix, hce⟩ := s.get ppV_len hi
  refine ⟨b, hix, ?_, ?_, ?_⟩
  · have := cellAt_cells hce (i := 0) (by decide)
    exact ldB_cell (by rw [this]; rfl)
  · have := cellAt_cells hce (i := 1) (by decide)
    unfold ldV
    rw [this]
    show (some l[i].ev).bind (fun v => if Go.Arm.one v then some v else none) = _
    rw [Option.bind_some, if_pos h1]
  · have := cellAt_cells hce (i := 2) (by decide)
    unfold ldV
    rw [this]
    show (some l[i].cv).bind (fun v => if Go.Arm.one v then some v else none) = _
    rw [Option.bind_some, if_pos h2]

theorem law_loop {h0 : H} {P : Nat} {bv av pv : Value} {before after : List Col} {rows tov : Nat} {parts : List PP} (ht : Tabs h0) (pm : PatM h0 bv av pv before after parts) (pn : PatN before after rows tov parts) (hpa : parts.length = after.length)
    (hok : ∀ q ∈ after.zip parts, PartOK before (min rows tov) q.1 q.2) (hfit : (after.zip parts).all (fun q => fitB before rows tov q.1 q.2) = true) : ∀ (j i : Nat) {h : H}, i + j = parts.length → Kp None' h0 h → h.get P = some (.cells (patL bv rows av tov pv) 26 true false) →
    RetL E 7 8 [ptr P 0, .int .i64 (i : Nat)] h fun b _ h' => Kp None' h0 h' ∧ b = 0
  | 0, i, h, hi, kk, gP => by
    refine .of_lp rfl (fun C L => armariumlaw21_check_L8_eq C L _ h) ?_
    have lp : ldV h P (0 + 4) = some pv := ldV_of gP rfl pm.p.one
    simp only [armariumlaw21_check_L8]
    simp only [rd, asP_ptr, lp, pm.p.len, ge_dec (show parts.length ≤ i by omega)]
    exact .ret ⟨kk, rfl⟩
  | j + 1, i, h, hi, kk, gP => by
    refine .of_lp rfl (fun C L => armariumlaw21_check_L8_eq C L _ h) ?_
    have hip : i < parts.length := by omega
    have hia : i < after.length := by omega
    have hzi : i < (after.zip parts).length := by rw [List.length_zip]; omega
    obtain ⟨c, hc⟩ : ∃ c, c = after[i] := ⟨_, rfl⟩
    obtain ⟨x, hx⟩ : ∃ x, x = parts[i] := ⟨_, rfl⟩
    have hz : (after.zip parts)[i] = (c, x) := by rw [List.getElem_zip, ← hc, ← hx]
    have hmem : (c, x) ∈ after.zip parts := by rw [← hz]; exact List.getElem_mem _
    have po : PartOK before (min rows tov) c x := hok _ hmem
    have pf : fitB before rows tov c x = true := List.all_eq_true.1 hfit _ hmem
    have hxm : x ∈ parts := by rw [hx]; exact List.getElem_mem _
    have px := pm.x x hxm
    have mh := pm.kpN kk
    have lp : ldV h P (0 + 4) = some pv := ldV_of gP rfl pm.p.one
    have lb : ldV h P (0 + 0) = some bv := ldV_of gP rfl pm.b.one
    have la : ldV h P (0 + 2) = some av := ldV_of gP rfl pm.a.one
    have lr : ldI .i64 h P (0 + 1) = some (rows : Int) := ldI_of gP rfl
    have lt : ldI .i64 h P (0 + 3) = some (tov : Int) := ldI_of gP rfl
    obtain ⟨bc, _, ixc, ldc⟩ := mh.a.getC hia
    rw [← hc] at ldc
    obtain ⟨bp, ixp, ls, le, lc⟩ := mh.p.curP hip (by rw [← hx]; exact px.e.one) (by rw [← hx]; exact px.c.one)
    rw [← hx] at ls le lc
    simp only [armariumlaw21_check_L8]
    simp only [rd, asP_ptr, lp, pm.p.len, lt_dec hip, lb, la, ixc, ldc, lr, lt, ixp, ls, le]
    refine .seq (edits2_spec (px.e.kpN kk) (by have := po.el; omega)) fun q ⟨kq, q1⟩ => ?_
    have kk2 := kk.then kq
    have gP2 := kq.get gP (fun h => h)
    have mq := pm.kpN kk2
    have lp2 : ldV q.2 P (0 + 4) = some pv := ldV_of gP2 rfl pm.p.one
    have lb2 : ldV q.2 P (0 + 0) = some bv := ldV_of gP2 rfl pm.b.one
    have la2 : ldV q.2 P (0 + 2) = some av := ldV_of gP2 rfl pm.a.one
    have lr2 : ldI .i64 q.2 P (0 + 1) = some (rows : Int) := ldI_of gP2 rfl
    have lt2 : ldI .i64 q.2 P (0 + 3) = some (tov : Int) := ldI_of gP2 rfl
    obtain ⟨bc', _, ixc', ldc'⟩ := mq.a.getC hia
    have hbc : bc' = bc := by rw [ixc] at ixc'; simp at ixc'; exact ixc'.symm
    rw [← hc, hbc] at ldc'
    obtain ⟨bp', ixp', ls', le', lc'⟩ := mq.p.curP hip (by rw [← hx]; exact px.e.one) (by rw [← hx]; exact px.c.one)
    have hbp : bp' = bp := by rw [ixp] at ixp'; simp at ixp'; exact ixp'.symm
    rw [← hx, hbp] at ls' lc'
    simp only [rd, ls', veq_bool, lp2, pm.p.veq, lt2, veq_i64, lr2, ldc', veq_col, la2, pm.a.veq, lb2, pm.b.veq, ixp, lc', lc, px.c.veq]
    refine .seq (rmay_spec (ht.kp kk2 (fun h => h) (fun h => h)) mq.b pn.b pn.r pn.t (q1.low (Nat.zero_le _)) (px.c.kpN kk2) po pf) fun z ⟨kz, z1⟩ => ?_
    have wi : IntKind.wrap .i64 (((i : Nat) : Int) + 1) = ((i + 1 : Nat) : Int) := wrap_succ (by have := pn.p; omega)
    simp only [rd, z1, Bool.not_true, wi]
    exact law_loop ht pm pn hpa hok hfit j (i + 1) (by omega) (kk2.then kz) (kz.get gP2 (fun h => h))

theorem checkP_inv {before after : List Col} {rows tov : Nat} {parts : List PP} (h : checkP before after rows tov parts = 0) : colsD before = true ∧ colsD after = true ∧ parts.length = after.length ∧ (after.zip parts).all (fun q => fitB before rows tov q.1 q.2) = true := by
  unfold checkP at h
  split at h
  · cases h
  rename_i hcols
  split at h
  · cases h
  split at h
  · cases h
  rename_i hpa
  split at h
  rotate_left
  · cases h
  rename_i hfit
  refine ⟨?_, ?_, by omega, hfit⟩
  · cases h : colsD before with
    | true => rfl
    | false => exact absurd (.inl h) hcols
  · cases h : colsD after with
    | true => rfl
    | false => exact absurd (.inr h) hcols

theorem lcheck_spec {h : H} {bv av pv : Value} {before after : List Col} {rows tov : Nat} {parts : List PP} (ht : Tabs h) (pm : PatM h bv av pv before after parts) (pn : PatN before after rows tov parts) (hck : checkP before after rows tov parts = 0)
    (hok : ∀ q ∈ after.zip parts, PartOK before (min rows tov) q.1 q.2) : Ret E 7 [.agg ⟨patL bv rows av tov pv⟩] h fun v h' => Kp None' h h' ∧ v = .int .i64 0 := by
  refine .of_fn rfl rfl (fun C L => armariumlaw21_check_eq C L _ h) ?_
  obtain ⟨hbd, had, hpa, hfit⟩ := checkP_inv hck
  have hr := pn.r
  have htv := pn.t
  obtain ⟨h1, hh1⟩ : ∃ h1, h1 = h.new (.cells (patL bv rows av tov pv) 26 true false) := ⟨_, rfl⟩
  have k1 : Kp None' h h1 := by rw [hh1]; exact .new _ _
  have g1 : h1.get h.next = some (.cells (patL bv rows av tov pv) 26 true false) := by rw [hh1]; exact get_new_self _ _
  have ht1 := ht.kp k1 (fun h => h) (fun h => h)
  have lp : ldV h1 h.next (0 + 4) = some pv := ldV_of g1 rfl pm.p.one
  have lb : ldV h1 h.next (0 + 0) = some bv := ldV_of g1 rfl pm.b.one
  have la : ldV h1 h.next (0 + 2) = some av := ldV_of g1 rfl pm.a.one
  have lr : ldI .i64 h1 h.next (0 + 1) = some (rows : Int) := ldI_of g1 rfl
  have lt : ldI .i64 h1 h.next (0 + 3) = some (tov : Int) := ldI_of g1 rfl
  simp only [armariumlaw21_check]
  simp only [rd, oneL_pat pm.b.one pm.a.one pm.p.one, ← hh1, lb]
  refine .seq (rcols_spec ht1 (pm.b.kpN k1) hbd) fun q ⟨q1, q2⟩ => ?_
  simp only [rd, q1, q2, Bool.not_true, la]
  refine .seq (Q1 := fun z => z = (false, h1)) (.seq (rcols_spec ht1 (pm.a.kpN k1) had) fun z ⟨z1, z2⟩ => by simp only [rd, z1, z2, Bool.not_true]; exact .ret rfl) fun z hz => ?_
  simp only [rd, hz, lr, lt, show decide (((rows : Nat) : Int) > 10000) = false from decide_eq_false (by omega), show decide (((tov : Nat) : Int) > 10000) = false from decide_eq_false (by omega), show decide (((rows : Nat) : Int) < 0) = false from decide_eq_false (by omega), show decide (((tov : Nat) : Int) < 0) = false from decide_eq_false (by omega), lp, la, pm.p.len, pm.a.len,
    show ((((parts.length : Nat) : Int)) != ((after.length : Nat) : Int)) = false by simp [hpa]]
  refine .seq (law_loop (h0 := h) ht pm pn hpa hok hfit parts.length 0 (by omega) k1 g1) fun y ⟨ky, y1⟩ => ?_
  simp only [rd, y1, show ((0 : Nat) == 0) = true from rfl]
  exact .ret ⟨ky, rfl⟩

theorem awake_spec {h : H} (ht : Tabs h) : Ret E 4 [] h fun v h' => v = .bool true ∧ h' = h := by
  have hs : E.sums.get 4 = some g4 := Tr.get_set_same 48 _ 4 _ (by omega)
  exact .of_sum hs (by unfold g4; rw [ht.ok]; rfl) ⟨rfl, rfl⟩

theorem diffReads_spec {h : H} {s : ByteArray} (ht : Tabs h) : Ret E 3 [.string s] h fun v _ => v = .bool true := by
  refine .of_fn rfl rfl (fun C L => armariumlaw21_DiffReads_eq C L _ h) ?_
  have aw : ∀ {h' : H}, Kp None' h h' → W E (fun C _ => (C 4 [] h').bind fun p => (asB p.1).bind fun b => some (b, p.2)) fun z => z.1 = true := fun k =>
    .seq (awake_spec (ht.kp k (fun h => h) (fun h => h))) fun q ⟨q1, q2⟩ => by simp only [rd, q1]; exact .ret rfl
  have hz : ([(.slice none 0 0), (.int .i64 (0)), (.slice none 0 0), (.int .i64 (0)), (.slice none 0 0)] : List Value) = patZ := rfl
  simp only [armariumlaw21_DiffReads]
  simp only [rd]
  by_cases hsz : s.size ≤ 600
  · simp only [rd, show decide (((s.size : Nat) : Int) > 600) = false from decide_eq_false (by omega)]
    refine .seq (decode_spec (by omega) ht) fun q ⟨kq, hq⟩ => ?_
    obtain ⟨h7, hh7⟩ : ∃ h7, h7 = q.2.new (.cells patZ 26 true false) := ⟨_, rfl⟩
    have g7 : h7.get q.2.next = some (.cells patZ 26 true false) := by rw [hh7]; exact get_new_self _ _
    have fin : ∀ ys : List Value, ys.length = 5 → ys.all one = true → ∃ h8, stV 5 h7 q.2.next 0 (.agg ⟨ys⟩) = some h8 ∧ h8.get q.2.next = some (.cells ys 26 true false) ∧ Kp None' q.2 h8 := by
      intro ys hy h1
      refine ⟨_, (patZ_fin g7 rfl hy h1).1, H.get_put_same _ _ _ (H.get_lt g7), ?_⟩
      rw [hh7]; exact (Kp.new _ _).putNew _ (Nat.le_refl _)
    rcases hq with ⟨e, he, hv⟩ | ⟨bv, av, pv, before, after, rows, tov, parts, hv, pm, pn, hck, hok, hE⟩
    · obtain ⟨h8, e1, g8, k8⟩ := fin patZ rfl rfl
      have lp : ldV h8 q.2.next (0 + 4) = some (.slice none 0 0) := ldV_of g8 rfl rfl
      simp only [rd, hv, hz, ← hh7, e1, he.bne]
      have tail : W E (fun C L => (((ldV h8 q.2.next (0 + 4)).bind fun v14 => (lenV v14).bind fun n15 => some ((((n15 : Nat) : Int) == (0 : Int)), h8)) : Option (Bool × H)).bind fun p16 => ((cond p16.1 ((C 4 [] p16.2).bind fun p17 => (asB p17.1).bind fun b18 => some (b18, p17.2)) (some (false, p16.2))) : Option (Bool × H)).bind fun p19 => some (Value.bool p19.1, p19.2)) fun z => z.1 = .bool true := by
        simp only [rd, lp, show lenV (.slice none 0 0) = some 0 from rfl, show ((((0 : Nat) : Int)) == 0) = true from rfl]
        refine .seq (aw (kq.then k8)) fun z hz => ?_
        exact .ret (by rw [hz])
      rcases he with rfl | rfl | rfl | rfl | rfl | rfl
      · exact tail
      · exact tail
      · exact tail
      · exact tail
      · exact tail
      · exact tail
    · obtain ⟨h8, e1, g8, k8⟩ := fin (patL bv rows av tov pv) rfl (patL_one pm.b.one pm.a.one pm.p.one)
      have ld8 : ldA 5 h8 q.2.next 0 = some (.agg ⟨patL bv rows av tov pv⟩) := ldA_full g8 rfl
      have k08 := kq.then k8
      simp only [rd, hv, hz, ← hh7, e1, show ((0 : Int) != 0) = false from rfl, ld8]
      have hlE : (patchE before rows after tov parts).length ≤ 2 ^ 28 := by rw [← hE, size_toList]; omega
      refine .seq (encode_spec (ht.kp k08 (fun h => h) (fun h => h)) (pm.kpN k8) pn hck hok hlE) fun z ⟨kz, z1⟩ => ?_
      have gz := kz.get g8 (fun h => h)
      have ldz : ldA 5 z.2 q.2.next 0 = some (.agg ⟨patL bv rows av tov pv⟩) := ldA_full gz rfl
      simp only [rd, z1, ldz]
      refine .seq (lcheck_spec (ht.kp (k08.then kz) (fun h => h) (fun h => h)) (pm.kpN (k8.then kz)) pn hck hok) fun y ⟨ky, y1⟩ => ?_
      have hseq : seq ⟨⟨patchE before rows after tov parts⟩⟩ s = true := seq_iff.2 (by rw [ba_eq s, hE])
      simp only [rd, y1, show ((0 : Int) == 0) = true from rfl, hseq]
      refine .seq (aw ((k08.then kz).then ky)) fun x hx => ?_
      exact .ret (by rw [hx])
  · simp only [rd, show decide (((s.size : Nat) : Int) > 600) = true from decide_eq_true (by omega)]
    refine .seq (awake_spec ht) fun q ⟨q1, q2⟩ => ?_
    simp only [rd, q1]
    exact .ret rfl
end Go.Arm
namespace Go.Arm
open Go.Proofs Go.RowKit

/-- where the tables lie -/
def β0 : Beta := fun b => if b = 0 then some ⟨0, 0, 256, 256, 0, false⟩ else if b = 1 then some ⟨1, 0, 32, 32, 0, false⟩ else none
def S0 (w : World) : Sc := ⟨fun k => w.heap.size ≤ k, fun _ => False, fun _ => False⟩
theorem cell_lt {w : World} {b o : Nat} {v : Value} (h : w.cell? ⟨b, o, none⟩ = some v) : b < w.heap.size := by
  rcases Nat.lt_or_ge b w.heap.size with h1 | h1
  · exact h1
  · have : w.heap[b]? = none := by simp [h1]
    simp [World.cell?, this] at h
theorem rh0 {w : World} (ht : Lib.Utf8Tabs 0 1 w) : RH E β0 H0 (S0 w) w := by
  have hb0 : (0 : Nat) < w.heap.size := cell_lt (ht.1 0 (by decide))
  have hb1 : (1 : Nat) < w.heap.size := cell_lt (ht.2 0 (by decide)).1
  have get0 : H0.get 0 = some (.cells firstC 0 false false) := rfl
  have get1 : H0.get 1 = some (.cells accC 0 false false) := rfl
  have cases2 : ∀ b k, H0.get b = some k → b = 0 ∧ k = .cells firstC 0 false false ∨ b = 1 ∧ k = .cells accC 0 false false := by
    intro b k hg
    have hlt : b < 2 := H.get_lt hg
    have : b = 0 ∨ b = 1 := by omega
    rcases this with rfl | rfl
    · rw [get0] at hg; cases hg; exact .inl ⟨rfl, rfl⟩
    · rw [get1] at hg; cases hg; exact .inr ⟨rfl, rfl⟩
  refine ⟨fun g hg => ?_, fun k hk => hk, fun b hb => ?_, fun b x hx => ?_, fun b k hg _ => ?_, fun b c k l x y h1 h2 hne ho hx hy => ?_, fun b hb => hb.elim, fun b hb => hb.elim⟩
  · have hg2 : g < 2 := hg
    have : g = 0 ∨ g = 1 := by omega
    rcases this with rfl | rfl
    · exact ⟨_, rfl, rfl, rfl⟩
    · exact ⟨_, rfl, rfl, rfl⟩
  · have hb2 : 2 ≤ b := hb
    unfold β0
    rw [if_neg (by omega), if_neg (by omega)]
  · unfold β0 at hx
    split at hx
    · cases hx; exact hb0
    · split at hx
      · cases hx; exact hb1
      · cases hx
  · rcases cases2 b k hg with ⟨rfl, rfl⟩ | ⟨rfl, rfl⟩
    · refine ⟨_, rfl, by simp [firstC], by decide, rfl, by simp, fun i v hv => ?_, by simp⟩
      have hi : i < 256 := by
        have := (List.getElem?_eq_some_iff.1 hv).1
        simpa [firstC] using this
      have hv2 : v = .int .u8 (Lib.firstT i) := by
        simp [firstC, hi] at hv
        exact hv.symm
      subst hv2
      exact ⟨_, by rw [Nat.zero_add]; exact ht.1 i hi, .clit _ rfl⟩
    · refine ⟨_, rfl, by rfl, by decide, rfl, by simp, fun i v hv => ?_, by simp⟩
      have hi : i < 32 := (List.getElem?_eq_some_iff.1 hv).1
      have key : ∀ j, j < 16 → accC[2 * j]? = some (.int .u8 (Lib.accLo j)) ∧ accC[2 * j + 1]? = some (.int .u8 (Lib.accHi j)) := by
        intro j hj
        match j, hj with
        | 0, _ => exact ⟨rfl, rfl⟩
        | 1, _ => exact ⟨rfl, rfl⟩
        | 2, _ => exact ⟨rfl, rfl⟩
        | 3, _ => exact ⟨rfl, rfl⟩
        | 4, _ => exact ⟨rfl, rfl⟩
        | 5, _ => exact ⟨rfl, rfl⟩
        | 6, _ => exact ⟨rfl, rfl⟩
        | 7, _ => exact ⟨rfl, rfl⟩
        | 8, _ => exact ⟨rfl, rfl⟩
        | 9, _ => exact ⟨rfl, rfl⟩
        | 10, _ => exact ⟨rfl, rfl⟩
        | 11, _ => exact ⟨rfl, rfl⟩
        | 12, _ => exact ⟨rfl, rfl⟩
        | 13, _ => exact ⟨rfl, rfl⟩
        | 14, _ => exact ⟨rfl, rfl⟩
        | 15, _ => exact ⟨rfl, rfl⟩
        | j + 16, hj => omega
      obtain ⟨k1, k2⟩ := key (i / 2) (by omega)
      obtain ⟨t1, t2⟩ := ht.2 (i / 2) (by omega)
      rcases Nat.mod_two_eq_zero_or_one i with hm | hm
      · have e : 2 * (i / 2) = i := by omega
        rw [e] at k1 t1
        rw [hv] at k1; cases k1
        exact ⟨_, by rw [Nat.zero_add]; exact t1, .clit _ rfl⟩
      · have e : 2 * (i / 2) + 1 = i := by omega
        rw [e] at k2 t2
        rw [hv] at k2; cases k2
        exact ⟨_, by rw [Nat.zero_add]; exact t2, .clit _ rfl⟩
  · rcases cases2 b k h1 with ⟨rfl, rfl⟩ | ⟨rfl, rfl⟩ <;> cases ho

/-- what the program does -/
theorem law_walk (s : ByteArray) (w : World) (ht : Lib.Utf8Tabs 0 1 w) : Calls Tryz.prog 3 #[.string s] w fun e w' => e = .returned (.bool true) ∧ Below w.heap.size w w' := by
  have tabs : Tabs H0 := ⟨0, 0, rfl, rfl⟩
  obtain ⟨⟨v, h'⟩, ⟨N, hN⟩, hq⟩ := diffReads_spec (s := s) tabs
  have hev := hN N (Nat.le_refl _)
  obtain ⟨_, hc⟩ := eval_ok N 3 [.string s] H0 v h' hev
  have hv : v = .bool true := hq
  have := hc β0 (S0 w) w [.string s] (.cons (.clit _ rfl) (.nil _)) (rh0 ht)
  refine this.mono fun e w' he => ?_
  cases e with
  | returned v' =>
    obtain ⟨β', _, _, hf, hvr⟩ := he
    rw [hv] at hvr
    obtain rfl := hvr.bool_inv
    exact ⟨rfl, hf.os, hf.tape, hf.output, hf.size, fun k hk => hf.keep k (fun h => by have : w.heap.size ≤ k := h; omega)⟩
  | _ => exact he.elim
end Go.Arm

namespace Go.Proofs.YtcambejnmifhmaaGreatDoor
open Go Go.RowKit Go.Shelf Go.Lib Go.ChangeShapes Go.WideShapes Go.ChangeAt Go.ChangeMaps
set_option maxRecDepth 100000

theorem first_eq : Go.Pinned.utf8First = Go.Lib.firstData := by kernel_rfl
theorem accept_eq : (Rows.laid_unicode_utf8_acceptRanges : DataW Unit) = Go.Lib.acceptData := by kernel_rfl
theorem u8x : U8Extra Tryz.prog Tryz.laysValid_ren := ⟨by kernel_rfl, by kernel_rfl, by kernel_rfl, by kernel_rfl, by kernel_rfl, by kernel_rfl, by kernel_rfl⟩
theorem tabs_of_laid {W : World} (hL : laidMet Tryz.prog [("unicode/utf8.acceptRanges", Rows.laid_unicode_utf8_acceptRanges), ("unicode/utf8.first", Rows.laid_unicode_utf8_first)] W) : Lib.Utf8Tabs 0 1 W := by
  have h := utf8Tabs_of_readsT (U8Types.of196 Tryz.laysValid) u8x (first_eq ▸ Lib.laidMet.reads hL (.tail _ (.head _))) (accept_eq ▸ Lib.laidMet.reads hL (.head _))
  rw [Go.Arm.ren_g3, Go.Arm.ren_g4] at h
  exact h

theorem own : ownKnob Tryz.prog.godebug = none := by kernel_rfl
theorem lifted (os : Os) (started : os.Started) (H : Type) (enc : TypeId × Value → H) :
    ReturnsInHanded {} Tryz.checked os 3 .any (fun w args => (Rows.diffReadsSpec.pre enc Tryz.prog Tryz.f3 [] false w args ∧ laidMetH Tryz.prog Rows.diffReadsRow.laid w) ∧ sizedMet enc Tryz.prog Tryz.f3 (OpenSpec.ofChange Rows.diffReadsSpec) false w args)
      (Rows.diffReadsSpec.post enc Tryz.prog Tryz.f3 false true false false) := by
  refine returnsInHanded_of_change_and (C := Tryz.checked) (X := fun w _ => laidMetH Tryz.prog Rows.diffReadsRow.laid w) (fun _ _ _ hh h => h.of_heap hh) own started (by kernel_rfl) Tryz.func3
    (ChangeSpec.witness_shaped (enc := enc) (C := Tryz.checked) (os := os) (X := fun w _ => laidMetH Tryz.prog Rows.diffReadsRow.laid w) false (World.laidAll Tryz.prog os Rows.diffReadsRow.laid) #[.string ⟨#[]⟩] 8 (World.laidAll_os _ _ _)
      (World.shaped_of_ZipB (by kernel_rfl) (by kernel_rfl)) (by kernel_rfl) (by kernel_rfl) (by kernel_rfl)
      (by rw [MakeChecks.laidMetH_plain _ _ _ (by kernel_rfl)]; exact laidMet_laidAll _ (by kernel_rfl) (by kernel_rfl))) ?_
  intro W base args ds gs before hval0 hW _ _ hL _
  have hval : ∀ (j : Nat) t v, Tryz.f3.params[j]? = some t → args[j]? = some v → Value.okWide Tryz.prog W .any base t v := hval0
  have hW' := hW
  obtain ⟨p, q, hA0, hV, rfl, _, _⟩ := hW
  have hA : DataW.TrodAll enc Tryz.prog W 0 (fun _ => true) true Tryz.f3.params.toList args.toList ds p := hA0
  rw [Tryz.params3] at hA hval
  obtain ⟨v0, d0, rfl, rfl, h0⟩ := trodAll_one hA
  obtain ⟨rfl, rfl⟩ := trodVars_none hV
  obtain ⟨s, rfl, rfl, rfl, ws⟩ := open_string Tryz.underlying9 (hval 0 9 v0 rfl rfl) h0
  simp only [List.append_nil] at hW'
  rw [MakeChecks.laidMetH_plain _ _ _ (by kernel_rfl)] at hL
  refine (Go.Arm.law_walk s W (tabs_of_laid hL)).mono fun e W' ⟨he, hb⟩ => ?_
  subst he
  exact ⟨_, rfl, _, _, _, [], [], [], hW', trodAll_mk1 (shut_bool Tryz.underlying4 _), trodAll_mk1 (shut_string Tryz.underlying9 ws), rfl, hb.frame _, fun h => by cases h⟩

theorem diffReads_said : Rows.DiffReadsSaid :=
  OpenClaim.holds_of_wide 3 Tryz.f3 rfl rfl rfl rfl rfl rfl rfl ⟨rfl, rfl, rfl, rfl, rfl⟩ rfl rfl rfl rfl rfl (by kernel_rfl) Tryz.func3 (by kernel_rfl)
    (of_decide_eq_true (by kernel_rfl)) (by unfold Func.isWrapper; first | (rw [if_pos (by decide +kernel)]; kernel_rfl) | (rw [if_neg (by decide +kernel)]; exact ⟨rfl, rfl⟩))
    (fun os started H enc _ => lifted os started H enc)

theorem diffReads_holds : Rows.DiffReadsCardSaid :=
  Claim7.holds_tied_plain_at .later [] [.data, .pinned] true (true, "6d9eb640827c5a46a49729b101e61281c83ca119a6a62d6926f6b9e1de25ea36") false
    diffReads_said (fun _ h => by cases h) (by kernel_rfl) (fun _ h => by cases h) diffReads_row_tie rfl ⟨rfl, rfl⟩ (by kernel_rfl) rfl
    (fun f fn hf hfn => by
      obtain rfl : f = 3 := Option.some.inj ((show Tryz.prog.funcNamed "armarium/armariumlaw21.DiffReads" = some 3 by kernel_rfl).symm.trans hf) |>.symm
      obtain rfl : fn = Tryz.f3 := (Option.some.inj (Tryz.func3.symm.trans hfn)).symm
      exact ⟨by kernel_rfl, fun j t ht => by
        rw [Tryz.params3] at ht
        have hm : t ∈ [9] := by simpa using Array.mem_of_getElem? ht
        have hall : ([9].all fun u => !Tryz.prog.wantsStandIn u) = true := by kernel_rfl
        exact (show Tryz.prog.wantsStandIn t = false by simpa using List.all_eq_true.1 hall t hm)⟩)
    (by kernel_rfl)
#print axioms diffReads_holds
end Go.Proofs.YtcambejnmifhmaaGreatDoor
