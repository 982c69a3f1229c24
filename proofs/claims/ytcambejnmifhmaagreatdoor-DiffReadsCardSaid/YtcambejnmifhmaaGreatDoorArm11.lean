/- Specs: cells by a dictionary are written.
   Specs: cells by a dictionary are read.
   Specs: ways to encode cells.
   Specs: a column is encoded.
   Specs: the best way; column.Encode.
   Specs: column.Decode.
   Specs: the edits of a patch are read. -/
import Derived.Test.YtcambejnmifhmaaGreatDoorArm10
namespace Go.Arm
open Go.Proofs

def makeGo (k : Int) : List Cel → List Cel → List Cel × List Nat
  | D, [] => (D, [])
  | D, c :: l => match dictAt k D c with
    | some i => ((makeGo k D l).1, i :: (makeGo k D l).2)
    | none => ((makeGo k (D ++ [c]) l).1, D.length :: (makeGo k (D ++ [c]) l).2)
theorem dictAt_lt {k : Int} {l : List Cel} {c : Cel} {i : Nat} (h : dictAt k l c = some i) : i < l.length := by
  unfold dictAt at h
  split at h
  · rename_i ha
    simp only [Option.some.injEq] at h
    rw [← h]
    have := List.findIdx_lt_length_of_exists (p := keyEq (keyC k c)) (xs := l.map (keyC k)) (List.any_eq_true.1 ha)
    simpa using this
  · cases h
theorem makeGo_len (k : Int) : ∀ (l D : List Cel), (makeGo k D l).2.length = l.length ∧ (makeGo k D l).1.length ≤ D.length + l.length
  | [], D => by simp [makeGo]
  | c :: l, D => by
    unfold makeGo
    cases h : dictAt k D c with
    | some i => have := makeGo_len k l D; simp; omega
    | none => have := makeGo_len k l (D ++ [c]); simp at this ⊢; omega
theorem makeGo_lt (k : Int) : ∀ (l D : List Cel), ∀ i ∈ (makeGo k D l).2, i < D.length + l.length
  | [], D, i, hi => by simp [makeGo] at hi
  | c :: l, D, i, hi => by
    unfold makeGo at hi
    cases h : dictAt k D c with
    | some j =>
      rw [h] at hi
      simp only [List.mem_cons] at hi
      rcases hi with rfl | hi
      · have := dictAt_lt h; simp; omega
      · have := makeGo_lt k l D i hi; simp; omega
    | none =>
      rw [h] at hi
      simp only [List.mem_cons] at hi
      rcases hi with rfl | hi
      · simp
      · have := makeGo_lt k l (D ++ [c]) i hi; simp at this ⊢; omega
theorem makeGo_mem (k : Int) {P : Cel → Prop} : ∀ (l D : List Cel), (∀ c ∈ l, P c) → (∀ c ∈ D, P c) → ∀ c ∈ (makeGo k D l).1, P c
  | [], D, _, hD, x, hx => hD x hx
  | c :: l, D, hl, hD, x, hx => by
    unfold makeGo at hx
    cases h : dictAt k D c with
    | some j => rw [h] at hx; exact makeGo_mem k l D (fun y hy => hl y (by simp [hy])) hD x hx
    | none =>
      rw [h] at hx
      exact makeGo_mem k l (D ++ [c]) (fun y hy => hl y (by simp [hy])) (fun y hy => by
        rcases List.mem_append.1 hy with hy | hy
        · exact hD y hy
        · rw [List.mem_singleton.1 hy]; exact hl c (by simp)) x hx
theorem makeGo_size (k : Int) : ∀ (l D : List Cel), sizeD (makeGo k D l).1 ≤ sizeD D + sizeD l
  | [], D => by simp [makeGo, sizeD]
  | c :: l, D => by
    unfold makeGo
    cases h : dictAt k D c with
    | some i => have := makeGo_size k l D; simp [sizeD]; omega
    | none => have := makeGo_size k l (D ++ [c]); rw [sizeD_append] at this; simp [sizeD] at this ⊢; omega

abbrev nV (l : List Nat) : List Value := l.map fun (i : Nat) => .int .i64 (i : Int)
theorem nV_at {l : List Nat} {i : Nat} (hi : i < l.length) : (nV l)[i]? = some (.int .i64 (l[i] : Nat)) := by simp [nV, hi]

theorem make_loop {h0 : H} {v av : Value} {m0 m d mb n : Nat} {k : Int} (hk : 1 ≤ k ∧ k ≤ 6) (hd0 : h0.next ≤ d) (hmb0 : h0.next ≤ mb) (hd : d < m) (hmb : mb < m) (ha : ∃ ab, av = .slice (some ⟨ab, 0, none⟩) n n ∧ h0.next ≤ ab ∧ ab ≠ d ∧ ab ≠ mb ∧ ab < m) : ∀ (post pre D : List Cel) (al : List Nat) {h : H},
    Sl 6 47 m0 h0 v (pre ++ post).length ((pre ++ post).flatMap celV) → (∀ c ∈ post, Kd k c) → (pre ++ post).length = n → n < 2 ^ 29 → Kp None' h0 h → m ≤ h.next → Dt m h d mb k D → D.length ≤ pre.length → al.length = n →
    Sl 1 3 h0.next h av n (nV al) →
    RetL E 121 6 [ptr d 0, av, v, .int .i64 (n : Nat), .int .i64 (pre.length : Nat)] h fun b vals h' => Kp None' h0 h' ∧ vals = [ptr d 0, av] ∧ Dt m h' d mb k (makeGo k D post).1 ∧ Sl 1 3 h0.next h' av n (nV (al.take pre.length ++ (makeGo k D post).2))
  | [], pre, D, al, h, hs, hok, hn, hn2, kk, hm, dt, hD, hal, sa => by
    refine .of_lp rfl (fun C L => dict_Make_L6_eq C L _ h) ?_
    have e : pre.length = n := by simpa using hn
    simp only [dict_Make_L6]
    simp only [rd, ge_dec (show n ≤ pre.length by omega)]
    refine .ret ⟨kk, rfl, dt, ?_⟩
    have : al.take pre.length ++ (makeGo k D []).2 = al := by rw [e, ← hal, List.take_length]; simp [makeGo]
    rw [this]; exact sa
  | c :: post, pre, D, al, h, hs, hok, hn, hn2, kk, hm, dt, hD, hal, sa => by
    refine .of_lp rfl (fun C L => dict_Make_L6_eq C L _ h) ?_
    have hlen : (pre ++ c :: post).length = pre.length + 1 + post.length := by simp; omega
    have hi : pre.length < n := by omega
    obtain ⟨b, _, hix, hce⟩ := (hs.kpN kk).cur
    have k2 := tmp_kp h c
    obtain ⟨ab, hav, ha0, had, hamb, ham⟩ := ha
    simp only [dict_Make_L6]
    simp only [rd, lt_dec hi, hix, hce, tmp_st, cel_ld (tmp_get h c)]
    refine .seq (add_spec hk (hok c (by simp)) (dt.kpN k2) hd hmb (by rw [tmp_next]; omega) (by omega)) fun q ⟨kq, hq⟩ => ?_
    have hk2 := kk.1
    have hkq := kq.1
    rw [tmp_next] at hkq
    have kkq : Kp None' h0 q.2 := (kk.then k2).hi kq fun b hb => .inr (by omega)
    have saq : Sl 1 3 h0.next q.2 av n (nV al) := by
      rcases sa.kpN k2 with ⟨h1, _⟩ | ⟨b2, l2, hb2, hv2, hg2, hl2⟩
      · rw [hav] at h1; cases h1
      · have : b2 = ab := by
          have := hv2.symm.trans hav
          simp at this
          exact this
        subst this
        exact .inr ⟨b2, l2, hb2, hv2, kq.get hg2 (fun h => by rcases h with h | h | h <;> omega), hl2⟩
    have wr : IntKind.wrap .i64 (((pre.length : Nat) : Int) + 1) = (((pre ++ [c]).length : Nat) : Int) := wsucc (x := c) (by omega)
    -- the place is written
    have fin : ∀ (x : Nat) (D' : List Cel), Dt m q.2 d mb k D' → D'.length ≤ pre.length + 1 → W E (fun _ L => (idx 1 av (pre.length : Nat)).bind fun p12 => (stV 1 q.2 p12.1 p12.2 (.int .i64 (x : Nat))).bind fun h13 => L 121 6 [ptr d 0, av, v, .int .i64 (n : Nat), .int .i64 (IntKind.wrap .i64 ((pre.length : Nat) + (1 : Int)))] h13) fun z =>
        Kp None' h0 z.2.2 ∧ z.2.1 = [ptr d 0, av] ∧ Dt m z.2.2 d mb k (makeGo k D' post).1 ∧ Sl 1 3 h0.next z.2.2 av n (nV (al.take pre.length ++ x :: (makeGo k D' post).2)) := by
      intro x D' dt' hD'
      obtain ⟨ob, h3, o1, o2, o3, o4⟩ := saq.set1 hi (.int .i64 (x : Nat)) rfl
      have hob : ob = ab := by
        rw [hav, idx_at hi] at o1
        simp at o1
        exact o1.symm
      subst hob
      have hg := saq
      rcases hg with ⟨h1, _⟩ | ⟨b2, l2, hb2, hv2, hg2, hl2⟩
      · rw [hav] at h1; cases h1
      have hbb : b2 = ob := by
        have := hv2.symm.trans hav
        simp at this
        exact this
      subst hbb
      have e3 : h3 = q.2.put b2 (some (.cells ((nV al).set pre.length (.int .i64 (x : Nat))) 3 true l2)) := by
        have := stV1_of (v := .int .i64 (x : Nat)) (o := pre.length) hg2 (by rw [hl2]; omega) rfl
        rw [this] at o2
        exact (Option.some.inj o2).symm
      have k3 : Kp (Only b2) q.2 h3 := by rw [e3]; exact .put _ _ rfl
      have e1 : (nV al).set pre.length (.int .i64 (x : Nat)) = nV (al.set pre.length x) := by simp [nV, List.map_set]
      rw [e1] at o3
      simp only [rd, o1, o2, wr]
      have := make_loop hk hd0 hmb0 hd hmb ⟨b2, hav, ha0, had, hamb, ham⟩ post (pre ++ [c]) D' (al.set pre.length x) (h := h3) (by rw [app_assoc1] at hs; exact hs) (fun y hy => hok y (by simp [hy])) (by rw [app_assoc1] at hn; exact hn) hn2 (kkq.hi o4 fun b hb => .inr hb) (by have := k3.1; omega)
        (dt'.kp k3 (by simp only [Only]; exact fun h => had h.symm) (by simp only [Only]; exact fun h => hamb h.symm) (fun b hb => by simp only [Only]; omega)) (by simp; omega) (by simpa using hal) o3
      refine W.mono this fun r ⟨r1, r2, r3, r4⟩ => ⟨r1, r2, r3, ?_⟩
      have et : (al.set pre.length x).take (pre ++ [c]).length = al.take pre.length ++ [x] := by
        have hlt : pre.length < al.length := by omega
        simp only [List.length_append, List.length_singleton]
        rw [List.take_add_one, List.take_set_of_le (Nat.le_refl _), List.getElem?_set_self hlt]
        rfl
      rw [et, List.append_assoc] at r4
      exact r4
    unfold makeGo
    cases hda : dictAt k D c with
    | some i =>
      rw [hda] at hq
      obtain ⟨q1, _, q3⟩ := hq
      simp only [rd, q1]
      exact fin i D q3 (by omega)
    | none =>
      rw [hda] at hq
      obtain ⟨q1, q3⟩ := hq
      simp only [rd, q1]
      exact fin D.length (D ++ [c]) q3 (by simp; omega)

theorem make_spec {h : H} {v : Value} {m0 : Nat} {k : Int} {l : List Cel} (hk : 1 ≤ k ∧ k ≤ 6) (hs : Sl 6 47 m0 h v l.length (l.flatMap celV)) (hok : ∀ c ∈ l, Kd k c) (hn : l.length < 2 ^ 29) :
    Ret E 121 [.int .i64 k, v] h fun r h' => Kp None' h h' ∧ ∃ d mb m av, r = .tuple #[ptr d 0, av] ∧ Dt m h' d mb k (makeGo k [] l).1 ∧ Sl 1 3 h.next h' av l.length (nV (makeGo k [] l).2) := by
  refine .of_fn rfl rfl (fun C L => dict_Make_eq C L _ h) ?_
  have d1 : decide (k < 1) = false := by simp; omega
  have d2 : decide (k > 6) = false := by simp; omega
  simp only [dict_Make]
  simp only [rd, d1, d2]
  refine .seq (dnone_spec k h) fun q ⟨kq, q1, q2, q3⟩ => ?_
  simp only [rd, q1, hs.len, mkS_of (bytes := 8) (n := l.length) (e := 3) (zero := [.int .i64 0]) (h := q.2) (by unfold roomy; omega) rfl]
  obtain ⟨h3, hh3⟩ : ∃ h3, h3 = q.2.new (.cells (rep l.length [.int .i64 0]) 3 true false) := ⟨_, rfl⟩
  have k3 : Kp None' q.2 h3 := by rw [hh3]; exact .new _ _
  have hmk : Sl 1 3 q.2.next h3 (.slice (some ⟨q.2.next, 0, none⟩) l.length l.length) l.length (List.replicate l.length (.int .i64 0)) := by rw [hh3]; exact Sl.mk1 (h := q.2)
  have e1 : List.replicate l.length (Value.int .i64 0) = nV (List.replicate l.length 0) := by simp [nV]
  rw [e1] at hmk
  rw [← hh3]
  have n3 : h3.next = h.next + 3 := by rw [hh3, H.next_new]; omega
  refine .seq (make_loop (h0 := h) (m := h.next + 3) (d := h.next + 1) (mb := h.next) (n := l.length) hk (by omega) (by omega) (by omega) (by omega) ⟨q.2.next, rfl, by omega, by omega, by omega, by omega⟩ l [] [] (List.replicate l.length 0) hs hok rfl hn (kq.then k3) (by omega) ((q3 _).kpN k3) (Nat.zero_le _) (by simp) (hmk.low (by omega))) fun r ⟨r1, r2, r3, r4⟩ => ?_
  simp only [rd, r2]
  exact .ret ⟨r1, h.next + 1, h.next, h.next + 3, _, rfl, r3, by simpa using r4⟩

/-! ## Encode -/
def dictE (k : Int) (l : List Cel) : List UInt8 := uvarE (makeGo k [] l).1.length ++ (makeGo k [] l).1.flatMap (putE k) ++ (makeGo k [] l).2.flatMap uvarE
theorem dictE_loop {h0 : H} {v x : Value} {m0 p : Nat} {k : Int} : ∀ (post pre : List Cel) {h : H} {l : List UInt8}, Sl 6 47 m0 h0 v (pre ++ post).length ((pre ++ post).flatMap celV) → (∀ c ∈ post, CelOK c) → (pre ++ post).length < 2 ^ 40 → WA h0 h p l → l.length + sizeD post ≤ 2 ^ 37 →
    RetL E 108 7 [.int .i64 k, x, ptr p 0, v, .int .i64 ((pre ++ post).length : Nat), .int .i64 (pre.length : Nat)] h fun b vals h' => vals = [x, ptr p 0] ∧ WA h0 h' p (l ++ post.flatMap (putE k))
  | [], pre, h, l, hs, hok, hn, w, hl => by
    refine .of_lp rfl (fun C L => dict_Encode_L7_eq C L _ h) ?_
    simp only [dict_Encode_L7]
    simp only [rd, asP_ptr, List.append_nil, Int.lt_irrefl, decide_false]
    exact .ret ⟨rfl, by simpa using w⟩
  | c :: post, pre, h, l, hs, hok, hn, w, hl => by
    refine .of_lp rfl (fun C L => dict_Encode_L7_eq C L _ h) ?_
    have hi : pre.length < (pre ++ c :: post).length := by simp
    obtain ⟨b, _, hix, hce⟩ := (hs.kpN w.k).cur
    have hc := hok c (by simp)
    have hpl := putE_len (k := k) hc
    have hcs := hc.s
    simp only [sizeD] at hl
    simp only [dict_Encode_L7]
    simp only [rd, asP_ptr, lt_dec hi, hix, hce, tmp_st, cel_ld (tmp_get h c), wsucc (x := c) (show pre.length < 2 ^ 62 by omega)]
    have w2 := w.other (tmp_kp h c)
    refine .seq (cPut_spec (k := k) hc w2.w (by omega)) fun q ⟨_, q2, q3⟩ => ?_
    have w3 := w2.step q2 q3
    rw [app_assoc1] at hs hn ⊢
    refine W.mono (dictE_loop post (pre ++ [c]) hs (fun d hd => hok d (by simp [hd])) hn w3 (by rw [List.length_append]; omega)) fun r ⟨r2, r3⟩ => ⟨r2, ?_⟩
    rw [List.flatMap_cons, ← List.append_assoc]
    exact r3
theorem dictE_loop2 {h0 : H} {av : Value} {m0 p : Nat} : ∀ (post pre : List Nat) {h : H} {l : List UInt8}, Sl 1 3 m0 h0 av (pre ++ post).length (nV (pre ++ post)) → (∀ i ∈ post, i < 2 ^ 62) → (pre ++ post).length < 2 ^ 40 → WA h0 h p l → l.length + post.length * 10 ≤ 2 ^ 37 →
    RetL E 108 12 [ptr p 0, av, .int .i64 ((pre ++ post).length : Nat), .int .i64 (pre.length : Nat)] h fun b vals h' => vals = [ptr p 0] ∧ WA h0 h' p (l ++ post.flatMap uvarE)
  | [], pre, h, l, hs, hok, hn, w, hl => by
    refine .of_lp rfl (fun C L => dict_Encode_L12_eq C L _ h) ?_
    simp only [dict_Encode_L12]
    simp only [rd, asP_ptr, List.append_nil, Int.lt_irrefl, decide_false]
    exact .ret ⟨rfl, by simpa using w⟩
  | i :: post, pre, h, l, hs, hok, hn, w, hl => by
    refine .of_lp rfl (fun C L => dict_Encode_L12_eq C L _ h) ?_
    have hi : pre.length < (pre ++ i :: post).length := by simp
    obtain ⟨b, _, hix, hce⟩ := (hs.kpN w.k).get1 hi
    have hget : (pre ++ i :: post)[pre.length] = i := by simp
    rw [nV_at hi, hget] at hce
    have hi62 := hok i (by simp)
    have hul : (uvarE i).length ≤ 10 := uvarE_len (by omega)
    simp only [List.length_cons] at hl
    simp only [dict_Encode_L12]
    simp only [rd, asP_ptr, lt_dec hi, hix, ldI_cell hce, wrap_u64 (x := i) (by omega), wsucc (x := i) (show pre.length < 2 ^ 62 by omega)]
    refine .seq (uvar_spec (x := i) (by omega) w.w (by omega)) fun q ⟨_, q2, q3⟩ => ?_
    have w3 := w.step q2 q3
    rw [app_assoc1] at hs hn ⊢
    refine W.mono (dictE_loop2 post (pre ++ [i]) hs (fun d hd => hok d (by simp [hd])) hn w3 (by rw [List.length_append]; omega)) fun r ⟨r2, r3⟩ => ⟨r2, ?_⟩
    rw [List.flatMap_cons, ← List.append_assoc]
    exact r3

theorem dictE_spec {h : H} {v : Value} {m0 : Nat} {k : Int} {l : List Cel} (hk : 1 ≤ k ∧ k ≤ 6) (hs : Sl 6 47 m0 h v l.length (l.flatMap celV)) (hok : ∀ c ∈ l, CelOK c ∧ Kd k c) (hn : l.length < 2 ^ 28) (hz : sizeD l ≤ 2 ^ 34) :
    Ret E 108 [.int .i64 k, v] h fun r h' => Kp None' h h' ∧ r = .string ⟨⟨dictE k l⟩⟩ := by
  refine .of_fn rfl rfl (fun C L => dict_Encode_eq C L _ h) ?_
  simp only [dict_Encode]
  simp only [rd]
  refine .seq (make_spec hk hs (fun c hc => (hok c hc).2) (by omega)) fun q ⟨kq, d, mb, m, av, q1, dt, sa⟩ => ?_
  obtain ⟨h1, hh1⟩ : ∃ h1, h1 = q.2.new (.cells [.slice none 0 0] 61 true false) := ⟨_, rfl⟩
  have k1 : Kp None' q.2 h1 := by rw [hh1]; exact .new _ _
  have wa : WA q.2 h1 q.2.next [] := by rw [hh1]; exact .make (.refl _ _)
  have dt1 := dt.kpN k1
  simp only [rd, q1, nilT, Option.isNone_some, ← hh1]
  refine .seq (dlen_spec dt1) fun y ⟨y1, y2⟩ => ?_
  have hml := makeGo_len k l []
  have hsz := makeGo_size k l []
  simp only [List.length_nil, Nat.zero_add, sizeD] at hml hsz
  simp only [rd, y1, y2, wrap_u64 (x := (makeGo k [] l).1.length) (by omega)]
  have hul : (uvarE (makeGo k [] l).1.length).length ≤ 10 := uvarE_len (by omega)
  refine .seq (uvar_spec (x := (makeGo k [] l).1.length) (by omega) wa.w (by simp; omega)) fun z ⟨_, z2, z3⟩ => ?_
  have wz := wa.step z2 z3
  obtain ⟨lv, es, cl, g1, sl, g2, _⟩ := dt
  have gz := wz.k.get g1 (fun h => h)
  have ll : ldV z.2 d (0 + 1) = some lv := ldV_of gz rfl sl.one
  simp only [rd, asP_ptr, ll, sl.len]
  refine .seq (dictE_loop (h0 := q.2) (x := av) (pre := []) (makeGo k [] l).1 sl (makeGo_mem k l [] (fun c hc => (hok c hc).1) (by simp)) (by simp; omega) wz (by simp; omega)) fun r ⟨r2, r3⟩ => ?_
  simp only [rd, r2, asP_ptr, sa.len]
  have hsa : Sl 1 3 h.next q.2 av (makeGo k [] l).2.length (nV (makeGo k [] l).2) := by rw [hml.1]; exact sa
  have hlp := dictE_loop2 (h0 := q.2) (p := q.2.next) (pre := []) (makeGo k [] l).2 hsa (fun i hi => by have := makeGo_lt k l [] i hi; simp at this; omega) (by simp; omega) r3 (by
    rw [hml.1]
    have : ((makeGo k [] l).1.flatMap (putE k)).length ≤ sizeD (makeGo k [] l).1 := by
      have gen : ∀ D : List Cel, (∀ c ∈ D, CelOK c) → (D.flatMap (putE k)).length ≤ sizeD D := by
        intro D
        induction D with
        | nil => intro _; simp [sizeD]
        | cons c D ih =>
          intro hD
          have h1 := putE_len (k := k) (hD c (by simp))
          have h2 := ih (fun x hx => hD x (by simp [hx]))
          simp only [List.flatMap_cons, List.length_append, sizeD]
          omega
      exact gen _ (makeGo_mem k l [] (fun c hc => (hok c hc).1) (by simp))
    simp only [List.length_append, List.length_nil]
    omega)
  rw [List.nil_append, hml.1] at hlp
  refine .seq hlp fun s ⟨s2, s3⟩ => ?_
  simp only [rd, s2, asP_ptr]
  refine .seq (string_spec s3.w) fun t ⟨t1, t2⟩ => ?_
  simp only [rd, t1, t2]
  exact .ret ⟨kq.then s3.k, by simp [dictE]⟩
end Go.Arm
namespace Go.Arm
open Go.Proofs

theorem rGet_kd {k : Int} {h : H} {p : Nat} {s : ByteArray} {a : Nat} (hk : 1 ≤ k ∧ k ≤ 6) (r : Rd h p s a 0) (ha : a ≤ s.size) (hs : s.size ≤ 2 ^ 38) (ht : Tabs h) (hp : 2 ≤ p) :
    Ret E 61 [ptr p 0, .int .i64 k] h fun v h' => Kp (Only p) h h' ∧ ((∃ e, DErr e ∧ v = .tuple #[celA zCel, .int .i64 e]) ∨
      (∃ (c : Cel) (n : Nat), v = .tuple #[celA c, .int .i64 0] ∧ Rd h' p s (a + n) 0 ∧ a + n ≤ s.size ∧ CelOK c ∧ Kd k c)) := by
  refine (get_spec hk r ha hs ht hp).mono fun v h' ⟨k1, hq⟩ => ⟨k1, ?_⟩
  cases hg : getD k (rest s a) with
  | error e =>
    rw [hg] at hq
    refine .inl ⟨e, ?_, hq.1⟩
    rcases getD_err hg with h | h <;> simp [DErr, h]
  | ok cn =>
    obtain ⟨c, n⟩ := cn
    rw [hg] at hq
    have hgo := getD_ok hk hg
    refine .inr ⟨c, n, hq.1, hq.2, ?_, hgo.1, fun h6 => ?_⟩
    · have := hgo.2.2.1
      rw [rest_length] at this
      omega
    · subst h6
      obtain ⟨x, y, hp⟩ := getD_pv hg
      exact hp.kd (k := 6) rfl

theorem lt_decU {i n : Nat} (h : i < n) : decide (((i : Nat) : Int) < ((n : Nat) : Int)) = true := lt_dec h
theorem dread_loop {h0 : H} {p d mb m many : Nat} {s : ByteArray} {k : Int} (hk : 1 ≤ k ∧ k ≤ 6) (hN : many ≤ 10000) (hs : s.size ≤ 2 ^ 38) (ht : Tabs h0) (hp : h0.next ≤ p) (hp2 : 2 ≤ p) (hpd : p < d) (hpm : p < mb) (hd : d < m) (hmb : mb < m) : ∀ (n : Nat) (D : List Cel) {a : Nat} {h : H}, D.length + n = many → a ≤ s.size → Rd h p s a 0 → Kp None' h0 h →
    Dt m h d mb k D → m ≤ h.next → (∀ c ∈ D, CelOK c) →
    RetL E 123 8 [ptr p 0, .int .i64 k, ptr d 0, .int .u64 (many : Nat), .int .u64 (D.length : Nat)] h fun b vals h' => Kp None' h0 h' ∧ ((∃ (a' : Nat) (D' : List Cel), b = 0 ∧ vals = [ptr d 0] ∧ a' ≤ s.size ∧ Rd h' p s a' 0 ∧ D'.length = many ∧ (∀ c ∈ D', CelOK c) ∧ Dt m h' d mb k D') ∨
      (∃ e, DErr e ∧ b = 1 ∧ vals = [.pointer none, .int .i64 e]))
  | 0, D, a, h, hn, ha, r, kk, dt, hm, hok => by
    refine .of_lp rfl (fun C L => dict_read_L8_eq C L _ h) ?_
    simp only [dict_read_L8]
    simp only [rd, ge_dec (show many ≤ D.length by omega)]
    exact .ret ⟨kk, .inl ⟨a, D, rfl, rfl, ha, r, by omega, hok, dt⟩⟩
  | n + 1, D, a, h, hn, ha, r, kk, dt, hm, hok => by
    refine .of_lp rfl (fun C L => dict_read_L8_eq C L _ h) ?_
    simp only [dict_read_L8]
    simp only [rd, lt_dec (show D.length < many by omega)]
    refine .seq (rGet_kd hk r ha hs (ht.kp kk (fun h => h) (fun h => h)) hp2) fun q ⟨kq, hq⟩ => ?_
    have kk1 := kk.hiO kq hp
    rcases hq with ⟨e, he, hv⟩ | ⟨c, j, hv, r', hj, hc, hkd⟩
    · simp only [rd, hv, tmp_stA, he.bne]
      exact .ret ⟨kk1.then (tmp_kp _ _), .inr ⟨e, he, rfl, rfl⟩⟩
    · have kt := tmp_kp q.2 c
      have hkq := kq.1
      have hk1 := kk1.1
      have dt1 : Dt m (tmp q.2 c) d mb k D := (dt.kp kq (by simp only [Only]; omega) (by simp only [Only]; omega) (fun b hb => by simp only [Only]; omega)).kpN kt
      simp only [rd, hv, tmp_stA, show ((0 : Int) != 0) = false from rfl, cel_ld (tmp_get _ _)]
      refine .seq (add_spec hk hkd dt1 hd hmb (by rw [tmp_next]; omega) (by omega)) fun z ⟨kz, hz⟩ => ?_
      have hkz := kz.1
      rw [tmp_next] at hkz
      have kkz : Kp None' h0 z.2 := (kk1.then kt).hi kz fun b hb => .inr (by omega)
      cases hda : dictAt k D c with
      | some i =>
        rw [hda] at hz
        simp only [rd, hz.1, Bool.not_false]
        exact .ret ⟨kkz, .inr ⟨12, by simp [DErr], rfl, rfl⟩⟩
      | none =>
        rw [hda] at hz
        have wr : IntKind.wrap .u64 (((D.length : Nat) : Int) + 1) = (((D ++ [c]).length : Nat) : Int) := by rw [wrap_u64s (by omega)]; simp
        simp only [rd, hz.1, Bool.not_true, wr]
        refine dread_loop hk hN hs ht hp hp2 hpd hpm hd hmb n (D ++ [c]) (a := a + j) (by simp; omega) hj ((r'.kpX kt (fun h => h)).kpX kz (fun h => by rcases h with h | h | h <;> omega)) kkz hz.2 (by omega) ?_
        intro x hx
        rcases List.mem_append.1 hx with hx | hx
        · exact hok x hx
        · rw [List.mem_singleton.1 hx]; exact hc

theorem dread_spec {h0 h : H} {p : Nat} {s : ByteArray} {a N : Nat} {k : Int} (hk : 1 ≤ k ∧ k ≤ 6) (hN : N ≤ 10000) (hs : s.size ≤ 2 ^ 38) (ht : Tabs h0) (hp : h0.next ≤ p) (hp2 : 2 ≤ p) (ha : a ≤ s.size) (r : Rd h p s a 0) (kk : Kp None' h0 h) :
    Ret E 123 [ptr p 0, .int .i64 k, .int .i64 (N : Nat)] h fun v h' => Kp None' h0 h' ∧ ((∃ e, DErr e ∧ v = .tuple #[.pointer none, .int .i64 e]) ∨
      (∃ (a' d mb m : Nat) (D : List Cel), v = .tuple #[ptr d 0, .int .i64 0] ∧ a' ≤ s.size ∧ Rd h' p s a' 0 ∧ D.length ≤ 10000 ∧ (∀ c ∈ D, CelOK c) ∧ Dt m h' d mb k D ∧ p < d ∧ p < m)) := by
  refine .of_fn rfl rfl (fun C L => dict_read_eq C L _ h) ?_
  simp only [dict_read]
  simp only [rd]
  refine .seq (rUvar_ok r ha hs) fun q ⟨kq, hq⟩ => ?_
  have kk1 := kk.hiO kq hp
  rcases hq with ⟨e, he, hv, r'⟩ | ⟨y, n, hv, r', hn, hy, _, _⟩
  · simp only [rd, hv]
    refine .seq (err_spec r') fun z ⟨z1, z2⟩ => ?_
    simp only [rd, z1, z2, he.bne]
    refine .seq (err_spec r') fun z ⟨z1, z2⟩ => ?_
    simp only [rd, z1, z2]
    exact .ret ⟨kk1, .inl ⟨e, he.derr, rfl⟩⟩
  · simp only [rd, hv]
    refine .seq (err_spec r') fun z ⟨z1, z2⟩ => ?_
    simp only [rd, z1, z2, show ((0 : Int) != 0) = false from rfl, wrap_u64 (x := N) (by omega)]
    by_cases hy2 : y ≤ N
    · have d1 : decide (((y : Nat) : Int) > ((N : Nat) : Int)) = false := by simp; omega
      simp only [rd, d1]
      refine .seq (dnone_spec k q.2) fun x ⟨kx, x1, x2, x3⟩ => ?_
      have hkx := kx.1
      have hlt := r'.lt
      have hk0 := kk1.1
      simp only [rd, x1]
      have hloop := dread_loop (h0 := h0) (p := p) (d := q.2.next + 1) (mb := q.2.next) (m := q.2.next + 2) (many := y) (h := x.2) hk (by omega) hs ht hp hp2 (by omega) (by omega) (by omega) (by omega) y [] (a := a + n) (by simp) hn (r'.kpX kx (fun h => h)) (kk1.then kx) (x3 _) (by omega) (by simp)
      refine .seq hloop fun w ⟨w1, hw⟩ => ?_
      rcases hw with ⟨a', D, b0, hv2, ha', ra', hD, hok, dt⟩ | ⟨e, he, b1, hv2⟩
      · simp only [rd, b0, hv2, show ((0 : Nat) == 0) = true from rfl]
        exact .ret ⟨w1, .inr ⟨a', _, _, _, D, rfl, ha', ra', by omega, hok, dt, by omega, by omega⟩⟩
      · simp only [rd, b1, hv2, show ((1 : Nat) == 0) = false from rfl]
        exact .ret ⟨w1, .inl ⟨e, he, rfl⟩⟩
    · have d1 : decide (((y : Nat) : Int) > ((N : Nat) : Int)) = true := by simp; omega
      simp only [rd, d1]
      exact .ret ⟨kk1, .inl ⟨12, by simp [DErr], rfl⟩⟩

/-! ## places -/
theorem places_loop {hD : H} {p d mb m : Nat} {s : ByteArray} {k : Int} {N : Nat} {D : List Cel} (hN : N ≤ 10000) (hs : s.size ≤ 2 ^ 38) (hDl : D.length ≤ 10000) (hDok : ∀ c ∈ D, CelOK c) (dt : Dt m hD d mb k D) (hpd : p < d) (hpm : p < m) (hpn : p < hD.next) : ∀ (n : Nat) (pre : List Cel) {a seen : Nat} {h : H} {v : Value}, pre.length + n = N → a ≤ s.size → Rd h p s a 0 → Kp (Only p) hD h → seen ≤ D.length →
    Sl 6 47 hD.next h v pre.length (pre.flatMap celV) → (∀ c ∈ pre, CelOK c) →
    RetL E 124 2 [ptr d 0, ptr p 0, v, .int .i64 (seen : Nat), .int .i64 (N : Nat), .int .i64 (pre.length : Nat)] h fun b vals h' => Kp (Only p) hD h' ∧ ((∃ (a' seen' : Nat) (v' : Value) (l : List Cel), b = 0 ∧ vals = [ptr p 0, v', .int .i64 (seen' : Nat)] ∧ a' ≤ s.size ∧ Rd h' p s a' 0 ∧ l.length = N ∧ (∀ c ∈ l, CelOK c) ∧ Sl 6 47 hD.next h' v' l.length (l.flatMap celV)) ∨
      (∃ e, DErr e ∧ b = 1 ∧ vals = [.slice none 0 0, .int .i64 0, .int .i64 e]))
  | 0, pre, a, seen, h, v, hn, ha, r, kk, hse, sl, hok => by
    refine .of_lp rfl (fun C L => __dict_Dict__places_L2_eq C L _ h) ?_
    simp only [__dict_Dict__places_L2]
    simp only [rd, ge_dec (show N ≤ pre.length by omega)]
    exact .ret ⟨kk, .inl ⟨a, seen, v, pre, rfl, rfl, ha, r, by omega, hok, sl⟩⟩
  | n + 1, pre, a, seen, h, v, hn, ha, r, kk, hse, sl, hok => by
    refine .of_lp rfl (fun C L => __dict_Dict__places_L2_eq C L _ h) ?_
    simp only [__dict_Dict__places_L2]
    simp only [rd, lt_dec (show pre.length < N by omega)]
    refine .seq (rUvar_ok r ha hs) fun q ⟨kq, hq⟩ => ?_
    have kk1 : Kp (Only p) hD q.2 := kk.then kq
    rcases hq with ⟨e, he, hv, r'⟩ | ⟨y, j, hv, r', hj, hy, _, _⟩
    · simp only [rd, hv]
      refine .seq (err_spec r') fun z ⟨z1, z2⟩ => ?_
      simp only [rd, z1, z2, he.bne]
      refine .seq (err_spec r') fun z ⟨z1, z2⟩ => ?_
      simp only [rd, z1, z2]
      exact .ret ⟨kk1, .inr ⟨e, he.derr, rfl, rfl⟩⟩
    · obtain ⟨lv, es, cl, g1, slD, g2, _⟩ := dt
      have gd := kk1.get g1 (by simp only [Only]; omega)
      have slq := slD.kpO kk1 hpm
      have ll : ldV q.2 d (0 + 1) = some lv := ldV_of gd rfl slD.one
      simp only [rd, hv]
      refine .seq (err_spec r') fun z ⟨z1, z2⟩ => ?_
      simp only [rd, z1, z2, show ((0 : Int) != 0) = false from rfl, wrap_u64 (x := seen) (by omega), asP_ptr]
      by_cases hy1 : y ≤ seen
      · have d1 : decide (((y : Nat) : Int) > ((seen : Nat) : Int)) = false := by simp; omega
        simp only [rd, d1, ll, slD.len, wrap_u64 (x := D.length) (by omega)]
        by_cases hy2 : y < D.length
        · have d2 : decide (((y : Nat) : Int) ≥ ((D.length : Nat) : Int)) = false := by simp; omega
          simp only [rd, d2]
          obtain ⟨b, _, hix, hce⟩ := slq.get celV_len hy2
          have hld : ldA 6 q.2 b (y * 6) = some (celA D[y]) := ldA_cells hce
          have kn : Kp None' q.2 (q.2.new (.cells (celV D[y]) 47 true false)) := .new _ _
          have hk1 := kk1.1
          obtain ⟨v', h', a1, a2, a3⟩ := ((sl.kpO kq (by omega)).kpN kn).app1 (bytes := 56) (x := D[y]) celV_len celV_one (get_new_self _ _) (by omega) (by unfold roomy; omega) (by rw [H.next_new]; omega)
          have hrest : ∀ seen' : Nat, seen' ≤ D.length → W E (fun _ L => L 124 2 [ptr d 0, ptr p 0, v', .int .i64 (seen' : Nat), .int .i64 (N : Nat), .int .i64 (((pre ++ [D[y]]).length : Nat) : Int)] h') _ := fun seen' hse' =>
            places_loop hN hs hDl hDok ⟨lv, es, cl, g1, slD, g2, by assumption⟩ hpd hpm hpn n (pre ++ [D[y]]) (a := a + j) (seen := seen') (h := h') (by simp; omega) hj ((r'.kpX kn (fun h => h)).kpX a3 (by omega)) ((kk1.hi kn fun b hb => hb.elim).hi a3 fun b hb => .inr hb) hse' a2 (by
              intro x hx
              rcases List.mem_append.1 hx with hx | hx
              · exact hok x hx
              · rw [List.mem_singleton.1 hx]; exact hDok _ (List.getElem_mem _))
          by_cases hys : y = seen
          · have d3 : (((y : Nat) : Int) == ((seen : Nat) : Int)) = true := by simp [hys]
            have wse : IntKind.wrap .i64 (((seen : Nat) : Int) + 1) = ((seen + 1 : Nat) : Int) := wrap_succ (by omega)
            simp only [rd, d3, ll, hix, hld, bldS_41, a1, wsucc (x := D[y]) (show pre.length < 2 ^ 62 by omega), wse]
            exact hrest (seen + 1) (by omega)
          · have d3 : (((y : Nat) : Int) == ((seen : Nat) : Int)) = false := by simp; omega
            simp only [rd, d3, ll, hix, hld, bldS_41, a1, wsucc (x := D[y]) (show pre.length < 2 ^ 62 by omega)]
            exact hrest seen hse
        · have d2 : decide (((y : Nat) : Int) ≥ ((D.length : Nat) : Int)) = true := by simp; omega
          simp only [rd, d2]
          exact .ret ⟨kk1, .inr ⟨12, by simp [DErr], rfl, rfl⟩⟩
      · have d1 : decide (((y : Nat) : Int) > ((seen : Nat) : Int)) = true := by simp; omega
        simp only [rd, d1]
        exact .ret ⟨kk1, .inr ⟨12, by simp [DErr], rfl, rfl⟩⟩

theorem places_spec {h : H} {p d mb m : Nat} {s : ByteArray} {a N : Nat} {k : Int} {D : List Cel} (hN : N ≤ 10000) (hs : s.size ≤ 2 ^ 38) (hDl : D.length ≤ 10000) (hDok : ∀ c ∈ D, CelOK c) (dt : Dt m h d mb k D) (hpd : p < d) (hpm : p < m) (ha : a ≤ s.size) (r : Rd h p s a 0) :
    Ret E 124 [ptr d 0, ptr p 0, .int .i64 (N : Nat)] h fun v h' => Kp (Only p) h h' ∧ ∃ (lv : Value) (seen : Nat) (e : Int), v = .tuple #[lv, .int .i64 (seen : Nat), .int .i64 e] ∧ (DErr e ∨ e = 0 ∧ ∃ l : List Cel, l.length = N ∧ (∀ c ∈ l, CelOK c) ∧ Sl 6 47 h.next h' lv l.length (l.flatMap celV)) := by
  refine .of_fn rfl rfl (fun C L => __dict_Dict__places_eq C L _ h) ?_
  simp only [__dict_Dict__places]
  simp only [rd]
  refine .seq (places_loop (hD := h) hN hs hDl hDok dt hpd hpm r.lt N [] (a := a) (seen := 0) (by simp) ha r (.refl _ _) (Nat.zero_le _) .nil (by simp)) fun w ⟨w1, hw⟩ => ?_
  rcases hw with ⟨a', seen', v', l, b0, hv2, ha', ra', hl, hok, sl⟩ | ⟨e, he, b1, hv2⟩
  · simp only [rd, b0, hv2, show ((0 : Nat) == 0) = true from rfl]
    refine .seq (done_spec ra' ha' (by omega)) fun y ⟨hy, hq⟩ => ?_
    rcases hq with ⟨he, _⟩ | ⟨_, _, hv3⟩ | ⟨_, _, hv3⟩
    · exact absurd rfl he
    · simp only [rd, hv3, hy]
      exact .ret ⟨w1, v', seen', 11, rfl, .inl (by simp [DErr])⟩
    · simp only [rd, hv3, hy]
      exact .ret ⟨w1, v', seen', 0, rfl, .inr ⟨rfl, l, hl, hok, sl⟩⟩
  · simp only [rd, b1, hv2, show ((1 : Nat) == 0) = false from rfl]
    exact .ret ⟨w1, .slice none 0 0, 0, e, rfl, .inl he⟩

theorem tup3_mk (a b c : Value) : tup3 (.tuple #[a, b, c]) = some (a, b, c) := rfl
theorem dictD_spec {h : H} {s : ByteArray} {k : Int} {N : Nat} (hk : 1 ≤ k ∧ k ≤ 6) (hN : N ≤ 10000) (hs : s.size < 2 ^ 38) (ht : Tabs h) : Ret E 109 [.int .i64 k, .string s, .int .i64 (N : Nat)] h fun v h' => Kp None' h h' ∧ DecR h h' v := by
  have h2 : 2 ≤ h.next := by
    obtain ⟨t, t', _, h1⟩ := ht
    have := H.get_lt h1; omega
  refine .of_fn rfl rfl (fun C L => dict_Decode_eq C L _ h) ?_
  have c1 : decide (k < 1) = false := by simp; omega
  have c2 : decide (k > 6) = false := by simp; omega
  have d1 : decide (((N : Nat) : Int) < 0) = false := by simp
  have d2 : decide (((N : Nat) : Int) > 10000) = false := by simp; omega
  simp only [dict_Decode]
  simp only [rd, c1, c2, d1, d2]
  refine .seq (read_spec s h) fun q1 ⟨hv1, r1, k1⟩ => ?_
  simp only [rd, hv1]
  refine .seq (dread_spec (h0 := h) hk hN (by omega) ht (Nat.le_refl _) h2 (Nat.zero_le _) r1 k1) fun z ⟨z1, hz⟩ => ?_
  rcases hz with ⟨e, he, hv⟩ | ⟨a', d, mb, m, D, hv, ha', r', hDl, hDok, dt, hpd, hpm⟩
  · simp only [rd, hv, he.bne]
    exact .ret ⟨z1, .inl ⟨e, he, rfl⟩⟩
  · simp only [rd, hv, show ((0 : Int) != 0) = false from rfl]
    refine .seq (places_spec hN (by omega) hDl hDok dt hpd hpm ha' r') fun y ⟨ky, lv, seen, e, hv2, hy⟩ => ?_
    have kk := z1.hiO ky (Nat.le_refl _)
    have hz1 := z1.1
    rcases hy with he | ⟨he, l, hl, hok, sl⟩
    · simp only [rd, hv2, tup3_mk, he.bne]
      exact .ret ⟨kk, .inl ⟨e, he, rfl⟩⟩
    · subst he
      simp only [rd, hv2, tup3_mk, show ((0 : Int) != 0) = false from rfl]
      have dty := dt.kp ky (by simp only [Only]; omega) (by
        simp only [Only]
        intro he
        obtain ⟨_, _, _, _, _, g2, _⟩ := dt
        unfold Rd at r'
        rw [he, r'] at g2; cases g2) (fun b hb => by simp only [Only]; omega)
      refine .seq (dlen_spec dty) fun x ⟨x1, x2⟩ => ?_
      simp only [rd, x1, x2]
      by_cases hse : seen < D.length
      · simp only [rd, lt_dec hse]
        exact .ret ⟨kk, .inl ⟨12, by simp [DErr], rfl⟩⟩
      · simp only [rd, ge_dec (show D.length ≤ seen by omega)]
        exact .ret ⟨kk, .inr ⟨lv, l, rfl, by omega, hok, sl.low hz1⟩⟩
end Go.Arm
namespace Go.Arm
open Go.Proofs

abbrev cl (b : Nat) : Value := .func (.func 110) #[] #[ptr b 0]
/-- a closure over a function that has no errors -/
def Cl (h : H) (b f : Nat) : Prop := h.get b = some (.cells [fn f] 160 true false)
theorem Cl.kp {h h' : H} {b f : Nat} (c : Cl h b f) (k : Kp None' h h') : Cl h' b f := k.get c (fun h => h)
theorem sure_spec (f : Nat) (h : H) : Ret E 101 [fn f] h fun v h' => v = cl h.next ∧ Kp None' h h' ∧ Cl h' h.next f ∧ h'.next = h.next + 1 := by
  refine .of_fn rfl rfl (fun C L => column_sure_eq C L _ h) ?_
  have h1 : one (fn f) = true := rfl
  simp only [column_sure]
  simp only [rd, h1]
  exact .ret ⟨rfl, .new _ _, get_new_self _ _, rfl⟩
theorem callV_cl (C : CF) (L : LF) (b : Nat) (x y : Value) (h : H) : callV C L (cl b) [x, y] h = C 110 [x, y, ptr b 0] h := rfl
theorem sure1_spec {h : H} {b f : Nat} {k : Int} {lv : Value} {s : ByteArray} (c : Cl h b f) (hf : Ret E f [.int .i64 k, lv] h fun r h' => Kp None' h h' ∧ r = .string s) :
    W E (fun C L => callV C L (cl b) [.int .i64 k, lv] h) fun q => Kp None' h q.2 ∧ q.1 = .tuple #[.string s, .int .i64 0] := by
  refine .congr (fun C L => callV_cl C L b _ _ h) ?_
  refine Ret.of_fn (Q := fun v h' => Kp None' h h' ∧ v = .tuple #[.string s, .int .i64 0]) rfl rfl (fun C L => column_sure_1_eq C L _ h) ?_
  have lf : ldV h b 0 = some (fn f) := ldV_of c rfl rfl
  simp only [column_sure_1]
  simp only [rd, asP_ptr, lf, callV_fn]
  refine .seq hf fun q ⟨q1, q2⟩ => ?_
  simp only [rd, q2]
  exact .ret ⟨q1, rfl⟩

def wayL (a b d : Nat) : List Value := [.nilFunc, .nilFunc, cl a, fn 103, cl b, fn 105, fn 106, fn 107, cl d, fn 109]
theorem bldT_147c (a f : Nat) : bldT E 147 [(0, cl a), (1, fn f)] = some (.agg ⟨[cl a, fn f]⟩) := by kernel_rfl
theorem bldT_147f (a f : Nat) : bldT E 147 [(0, fn a), (1, fn f)] = some (.agg ⟨[fn a, fn f]⟩) := by kernel_rfl
abbrev wz : List Value := [.nilFunc, .nilFunc, .nilFunc, .nilFunc, .nilFunc, .nilFunc, .nilFunc, .nilFunc, .nilFunc, .nilFunc]
theorem ways_spec (h : H) : Ret E 90 [] h fun v h' => Kp None' h h' ∧ ∃ a b d, v = .agg ⟨wayL a b d⟩ ∧ Cl h' a 102 ∧ Cl h' b 104 ∧ Cl h' d 108 := by
  refine .of_fn rfl rfl (fun C L => column_ways_eq C L _ h) ?_
  obtain ⟨h1, hh1⟩ : ∃ h1, h1 = h.new (.cells wz 148 true false) := ⟨_, rfl⟩
  obtain ⟨h2, hh2⟩ : ∃ h2, h2 = h1.new (.cells wz 148 true false) := ⟨_, rfl⟩
  have n1 : h1.next = h.next + 1 := by rw [hh1]; rfl
  have k2 : Kp None' h h2 := by rw [hh2, hh1]; exact (Kp.new _ _).thenNew _
  have g2 : h2.get h1.next = some (.cells wz 148 true false) := by rw [hh2]; exact get_new_self _ _
  have g0 : h2.get h.next = some (.cells wz 148 true false) := by rw [hh2]; exact H.get_new_old (by rw [hh1]; exact get_new_self _ _)
  have i1 : (decide (0 ≤ (1 : Int)) && decide ((1 : Int) < ((5 : Nat) : Int))) = true := rfl
  have i2 : (decide (0 ≤ (2 : Int)) && decide ((2 : Int) < ((5 : Nat) : Int))) = true := rfl
  have i3 : (decide (0 ≤ (3 : Int)) && decide ((3 : Int) < ((5 : Nat) : Int))) = true := rfl
  have i4 : (decide (0 ≤ (4 : Int)) && decide ((4 : Int) < ((5 : Nat) : Int))) = true := rfl
  -- a way is set
  have step : ∀ {h' : H} {x : List Value} (o : Nat) (a b : Value), Kp None' h h' → h'.get h1.next = some (.cells x 148 true false) → h'.get h.next = some (.cells wz 148 true false) → x.length = 10 → o + 2 ≤ 10 → [a, b].all one = true →
      ∃ h'', stV 2 h' h1.next o (.agg ⟨[a, b]⟩) = some h'' ∧ Kp None' h h'' ∧ Kp (Only h1.next) h' h'' ∧ h''.get h1.next = some (.cells (setAt x o [a, b]) 148 true false) ∧ h''.get h.next = some (.cells wz 148 true false) := by
    intro h' x o a b k g g0 hl ho hone
    refine ⟨_, st_at g rfl (by omega) hone, k.putNew _ (by omega), .put _ _ rfl, H.get_put_same _ _ _ (H.get_lt g), ?_⟩
    rw [H.get_put_ne _ _ _ _ (by omega)]; exact g0
  simp only [column_ways]
  simp only [rd, ← hh1, ← hh2, i1, i2, i3, i4]
  refine .seq (sure_spec 102 h2) fun q1 ⟨v1, kq1, c1, nq1⟩ => ?_
  obtain ⟨x1, e1, a1, b1, d1, f1⟩ := step (0 + (Int.toNat (1 : Int)) * 2) (cl h2.next) (fn 103) (k2.then kq1) (kq1.get g2 (fun h => h)) (kq1.get g0 (fun h => h)) rfl (by decide) rfl
  have hk2 := k2.1
  have hlt2 := H.get_lt g2
  have ca : Cl x1 h2.next 102 := b1.get c1 (by simp only [Only]; omega)
  simp only [rd, v1, bldT_147c, e1]
  refine .seq (sure_spec 104 x1) fun q2 ⟨v2, kq2, c2, nq2⟩ => ?_
  have hb1 := b1.1
  obtain ⟨x2, e2, a2, b2, d2, f2⟩ := step (0 + (Int.toNat (2 : Int)) * 2) (cl x1.next) (fn 105) (a1.then kq2) (kq2.get d1 (fun h => h)) (kq2.get f1 (fun h => h)) rfl (by decide) rfl
  have cb : Cl x2 x1.next 104 := b2.get c2 (by simp only [Only]; omega)
  have ca2 : Cl x2 h2.next 102 := b2.get (ca.kp kq2) (by simp only [Only]; omega)
  obtain ⟨x3, e3, a3, b3, d3, f3⟩ := step (0 + (Int.toNat (3 : Int)) * 2) (fn 106) (fn 107) a2 d2 f2 rfl (by decide) rfl
  have hb2 := b2.1
  have hb3 := b3.1
  have cb3 : Cl x3 x1.next 104 := b3.get cb (by simp only [Only]; omega)
  have ca3 : Cl x3 h2.next 102 := b3.get ca2 (by simp only [Only]; omega)
  simp only [rd, v2, bldT_147c, e2, bldT_147f, e3]
  refine .seq (sure_spec 108 x3) fun q4 ⟨v4, kq4, c4, nq4⟩ => ?_
  obtain ⟨x4, e4, a4, b4, d4, f4⟩ := step (0 + (Int.toNat (4 : Int)) * 2) (cl x3.next) (fn 109) (a3.then kq4) (kq4.get d3 (fun h => h)) (kq4.get f3 (fun h => h)) rfl (by decide) rfl
  have cd : Cl x4 x3.next 108 := b4.get c4 (by simp only [Only]; omega)
  have cb4 : Cl x4 x1.next 104 := b4.get (cb3.kp kq4) (by simp only [Only]; omega)
  have ca4 : Cl x4 h2.next 102 := b4.get (ca3.kp kq4) (by simp only [Only]; omega)
  have fin : ldA 10 x4 h1.next 0 = some (.agg ⟨wayL h2.next x1.next x3.next⟩) := ldA_full d4 rfl
  have s7 : stV 10 x4 h.next 0 (.agg ⟨wayL h2.next x1.next x3.next⟩) = some (x4.put h.next (some (.cells (wayL h2.next x1.next x3.next) 148 true false))) := stV_full (n := 10) f4 rfl rfl rfl
  have l7 : ldA 10 (x4.put h.next (some (.cells (wayL h2.next x1.next x3.next) 148 true false))) h.next 0 = some (.agg ⟨wayL h2.next x1.next x3.next⟩) := ldA_full (H.get_put_same _ _ _ (H.get_lt f4)) rfl
  have kf : Kp (Only h.next) x4 (x4.put h.next (some (.cells (wayL h2.next x1.next x3.next) 148 true false))) := .put _ _ rfl
  have hlt0 := H.get_lt g0
  have hlt4 := H.get_lt d4
  simp only [rd, v4, bldT_147c, e4, fin, s7, l7]
  exact .ret ⟨a4.putNew _ (Nat.le_refl _), _, _, _, rfl, kf.get ca4 (by simp only [Only]; omega), kf.get cb4 (by simp only [Only]; omega), kf.get cd (by simp only [Only]; omega)⟩

/-! ## all ways -/
def waysS (k : Int) (l : List Cel) : List ByteArray := [bs [], ⟨⟨plainE k l⟩⟩, ⟨⟨runsE k l⟩⟩, ⟨⟨(deltaE k l).getD []⟩⟩, ⟨⟨dictE k l⟩⟩]
def waysB (k : Int) (l : List Cel) : List Bool := [false, true, true, (deltaE k l).isSome, true]
abbrev sV (l : List ByteArray) : List Value := l.map .string
theorem sV_one (l : List ByteArray) : (sV l).all one = true := by simp [sV, one]
theorem bV_one (l : List Bool) : (bV l).all one = true := by simp [bV, one]

/-- what cells are asked that are to be encoded -/
structure EncOK (k : Int) (l : List Cel) : Prop where
  kd : 1 ≤ k ∧ k ≤ 6
  ok : ∀ c ∈ l, CelOK c ∧ PtOK k c
  n : l.length ≤ 10000
  z : sizeD l ≤ 1048576
theorem EncOK.way {k : Int} {l : List Cel} (e : EncOK k l) {h : H} {lv : Value} {m0 : Nat} (hs : Sl 6 47 m0 h lv l.length (l.flatMap celV)) :
    (Ret E 102 [.int .i64 k, lv] h fun r h' => Kp None' h h' ∧ r = .string ⟨⟨plainE k l⟩⟩) ∧ (Ret E 104 [.int .i64 k, lv] h fun r h' => Kp None' h h' ∧ r = .string ⟨⟨runsE k l⟩⟩) ∧
    (Ret E 106 [.int .i64 k, lv] h fun r h' => Kp None' h h' ∧ ∃ e, r = .tuple #[.string ⟨⟨(deltaE k l).getD []⟩⟩, .int .i64 e] ∧ (e == 0) = (deltaE k l).isSome) ∧ (Ret E 108 [.int .i64 k, lv] h fun r h' => Kp None' h h' ∧ r = .string ⟨⟨dictE k l⟩⟩) := by
  have h1 := e.n
  have h2 := e.z
  refine ⟨plainE_spec hs (fun c hc => (e.ok c hc).1) (by omega) (by omega), runsE_spec e.kd hs (fun c hc => (e.ok c hc).1) (by omega) (by omega), (deltaE_spec hs (fun c hc => (e.ok c hc).2) (by omega)).mono fun v h' ⟨x1, x2⟩ => ⟨x1, ?_⟩, dictE_spec e.kd hs (fun c hc => ⟨(e.ok c hc).1, (e.ok c hc).2.kd⟩) (by omega) (by omega)⟩
  cases hd : deltaE k l with
  | some t => rw [hd] at x2; exact ⟨0, x2, rfl⟩
  | none =>
    rw [hd] at x2
    exact ⟨_, by rw [x2, bs_nil]; rfl, by split <;> rfl⟩

theorem part2 (a b d i : Nat) (hi : i < 5) : partV true ((Int.toNat ((i : Nat) : Int)) * 2) 2 (.agg ⟨wayL a b d⟩) = some (.agg ⟨((wayL a b d).drop (i * 2)).take 2⟩) := by
  have hl : (wayL a b d).length = 10 := rfl
  simp only [partV, Int.toNat_natCast, if_true]
  rw [if_pos (by rw [hl]; omega)]

/-- one way -/
theorem all_step {h0 h : H} {k : Int} {lv w0 w1 : Value} {a b d i : Nat} {p2 p3 ps pb : Nat} {S : List ByteArray} {B : List Bool} {s : ByteArray} {e : Int} (hi1 : 1 ≤ i) (hi5 : i < 5) (hw : ((wayL a b d).drop (i * 2)).take 2 = [w0, w1]) (hw1 : one w0 = true) (hw2 : one w1 = true)
    (kk : Kp None' h0 h) (gs : h.get ps = some (.cells (sV S) 127 true false)) (gb : h.get pb = some (.cells (bV B) 128 true false)) (hS : S.length = 5) (hB : B.length = 5) (hps : h0.next ≤ ps) (hpb : h0.next ≤ pb) (hne : ps ≠ pb)
    (hcall : ∀ h', Kp None' h h' → W E (fun C L => callV C L w0 [.int .i64 k, lv] h') fun q => Kp None' h' q.2 ∧ q.1 = .tuple #[.string s, .int .i64 e])
    {Q : Nat × List Value × H → Prop} (next : ∀ h', Kp None' h0 h' → (∀ b, b < h.next → b ≠ ps → b ≠ pb → h'.get b = h.get b) → h.next ≤ h'.next → h'.get ps = some (.cells (sV (S.set i s)) 127 true false) → h'.get pb = some (.cells (bV (B.set i (e == 0))) 128 true false) →
      W E (fun _ L => L 68 6 [.int .i64 k, lv, ptr p2 0, ptr p3 0, ptr ps 0, ptr pb 0, .agg ⟨wayL a b d⟩, .int .i64 ((i + 1 : Nat) : Int)] h') Q) :
    RetL E 68 6 [.int .i64 k, lv, ptr p2 0, ptr p3 0, ptr ps 0, ptr pb 0, .agg ⟨wayL a b d⟩, .int .i64 (i : Nat)] h fun x y z => Q (x, y, z) := by
  refine .of_lp rfl (fun C L => column_all_L6_eq C L _ h) ?_
  have c0 : decide (((i : Nat) : Int) < 5) = true := by simp; omega
  have c1 : (decide (0 ≤ ((i : Nat) : Int)) && decide (((i : Nat) : Int) < ((5 : Nat) : Int))) = true := by simp; omega
  have c2 : decide (((i : Nat) : Int) < 1) = false := by simp; omega
  obtain ⟨h1, hh1⟩ : ∃ h1, h1 = h.new (.cells [.nilFunc, .nilFunc] 147 true false) := ⟨_, rfl⟩
  have g1 : h1.get h.next = some (.cells [.nilFunc, .nilFunc] 147 true false) := by rw [hh1]; exact get_new_self _ _
  have hone : [w0, w1].all one = true := by simp [hw1, hw2]
  have s1 : stV 2 h1 h.next 0 (.agg ⟨[w0, w1]⟩) = some (h1.put h.next (some (.cells [w0, w1] 147 true false))) := stV_full (n := 2) g1 rfl rfl hone
  obtain ⟨h2, hh2⟩ : ∃ h2, h2 = h1.put h.next (some (.cells [w0, w1] 147 true false)) := ⟨_, rfl⟩
  have g2 : h2.get h.next = some (.cells [w0, w1] 147 true false) := by rw [hh2]; exact H.get_put_same _ _ _ (H.get_lt g1)
  have k2 : Kp None' h h2 := by rw [hh2, hh1]; exact (Kp.new _ _).putNew _ (Nat.le_refl _)
  have lw : ldV h2 h.next (0 + 0) = some w0 := ldV_of g2 rfl hw1
  simp only [column_all_L6]
  simp only [rd, asP_ptr, c0, c1, c2, part2 a b d i hi5, hw, ← hh1, s1, ← hh2, lw]
  refine .seq (hcall h2 k2) fun q ⟨kq, q1⟩ => ?_
  have kq2 := k2.then kq
  have gs2 := kq2.get gs (fun h => h)
  have gb2 := kq2.get gb (fun h => h)
  have hix : 0 + Int.toNat ((i : Nat) : Int) * 1 = i := by simp
  have st1 : stV 1 q.2 ps i (.string s) = some (q.2.put ps (some (.cells ((sV S).set i (.string s)) 127 true false))) := stV1_of gs2 (by simp [hS]; omega) rfl
  have es : (sV S).set i (.string s) = sV (S.set i s) := by simp [sV, List.map_set]
  rw [es] at st1
  obtain ⟨h3, hh3⟩ : ∃ h3, h3 = q.2.put ps (some (.cells (sV (S.set i s)) 127 true false)) := ⟨_, rfl⟩
  have k3 : Kp (Only ps) q.2 h3 := by rw [hh3]; exact .put _ _ rfl
  have gs3 : h3.get ps = some (.cells (sV (S.set i s)) 127 true false) := by rw [hh3]; exact H.get_put_same _ _ _ (H.get_lt gs2)
  have gb3 := k3.get gb2 (by simp only [Only]; exact Ne.symm hne)
  have st2 : stV 1 h3 pb i (.bool (e == 0)) = some (h3.put pb (some (.cells ((bV B).set i (.bool (e == 0))) 128 true false))) := stV1_of gb3 (by simp [hB]; omega) rfl
  have eb : (bV B).set i (.bool (e == 0)) = bV (B.set i (e == 0)) := by simp [bV, List.map_set]
  rw [eb] at st2
  obtain ⟨h4, hh4⟩ : ∃ h4, h4 = h3.put pb (some (.cells (bV (B.set i (e == 0))) 128 true false)) := ⟨_, rfl⟩
  have k4 : Kp (Only pb) h3 h4 := by rw [hh4]; exact .put _ _ rfl
  have gb4 : h4.get pb = some (.cells (bV (B.set i (e == 0))) 128 true false) := by rw [hh4]; exact H.get_put_same _ _ _ (H.get_lt gb3)
  have gs4 := k4.get gs3 (by simp only [Only]; exact hne)
  have w1 : IntKind.wrap .i64 (((i : Nat) : Int) + 1) = ((i + 1 : Nat) : Int) := wrap_succ (by omega)
  have hk2 := kq2.1
  have hk3 := k3.1
  have hk4 := k4.1
  simp only [rd, q1, hix, c1, st1, ← hh3, st2, ← hh4, w1]
  refine next h4 (((kk.then kq2).hi k3 fun b hb => .inr (by rw [hb]; exact hps)).hi k4 fun b hb => .inr (by rw [hb]; exact hpb)) (fun b hb h1 h2 => ?_) (by omega) gs4 gb4
  rw [k4.2 b (by omega) h2, k3.2 b (by omega) h1, kq2.2 b hb (fun h => h)]
end Go.Arm
namespace Go.Arm
open Go.Proofs

abbrev sz5 : List Value := [(.string (bs [])), (.string (bs [])), (.string (bs [])), (.string (bs [])), (.string (bs []))]
abbrev bz5 : List Value := [(.bool false), (.bool false), (.bool false), (.bool false), (.bool false)]
theorem veq_b5 (a b c d e : Bool) : veq (.agg ⟨bV [a, b, c, d, e]⟩) (.agg ⟨bV [a, b, c, d, e]⟩) = true := by simp [veq, veqL, veq1]

/-- where the ways' loop stands -/
structure WSt (h0 x : H) (q a b d : Nat) (S : List ByteArray) (B : List Bool) : Prop where
  kk : Kp None' h0 x
  q0 : h0.next ≤ q
  g0 : x.get q = some (.cells sz5 127 true false)
  g1 : x.get (q + 1) = some (.cells bz5 128 true false)
  gs : x.get (q + 2) = some (.cells (sV S) 127 true false)
  gb : x.get (q + 3) = some (.cells (bV B) 128 true false)
  ca : Cl x a 102
  cb : Cl x b 104
  cd : Cl x d 108
theorem all_step2 {h0 h : H} {k : Int} {lv w0 w1 : Value} {a b d i q : Nat} {S : List ByteArray} {B : List Bool} {s : ByteArray} {e : Int} (hi1 : 1 ≤ i) (hi5 : i < 5) (hw : ((wayL a b d).drop (i * 2)).take 2 = [w0, w1]) (hw1 : one w0 = true) (hw2 : one w1 = true)
    (st : WSt h0 h q a b d S B) (hS : S.length = 5) (hB : B.length = 5)
    (hcall : ∀ h', Kp None' h h' → W E (fun C L => callV C L w0 [.int .i64 k, lv] h') fun q => Kp None' h' q.2 ∧ q.1 = .tuple #[.string s, .int .i64 e])
    {Q : Nat × List Value × H → Prop} (next : ∀ h', WSt h0 h' q a b d (S.set i s) (B.set i (e == 0)) → W E (fun _ L => L 68 6 [.int .i64 k, lv, ptr q 0, ptr (q + 1) 0, ptr (q + 2) 0, ptr (q + 3) 0, .agg ⟨wayL a b d⟩, .int .i64 ((i + 1 : Nat) : Int)] h') Q) :
    W E (fun _ L => L 68 6 [.int .i64 k, lv, ptr q 0, ptr (q + 1) 0, ptr (q + 2) 0, ptr (q + 3) 0, .agg ⟨wayL a b d⟩, .int .i64 (i : Nat)] h) Q := by
  have q0 := st.q0
  refine W.mono (all_step (h0 := h0) (s := s) (e := e) (Q := Q) hi1 hi5 hw hw1 hw2 st.kk st.gs st.gb hS hB (by omega) (by omega) (by omega) hcall fun h' kk hk hn gs gb => next h' ?_) fun r hr => hr
  have key : ∀ {y f : Nat}, Cl h y f → Cl h' y f := fun {y f} cy => by
    have h1 : y ≠ q + 2 := by rintro rfl; have := st.gs; unfold Cl at cy; rw [cy] at this; simp only [Option.some.injEq, Blk.cells.injEq] at this; exact absurd this.2.1 (by decide)
    have h2 : y ≠ q + 3 := by rintro rfl; have := st.gb; unfold Cl at cy; rw [cy] at this; simp only [Option.some.injEq, Blk.cells.injEq] at this; exact absurd this.2.1 (by decide)
    unfold Cl at cy ⊢
    rw [hk _ (H.get_lt cy) h1 h2]; exact cy
  exact ⟨kk, q0, by rw [hk _ (H.get_lt st.g0) (by omega) (by omega)]; exact st.g0, by rw [hk _ (H.get_lt st.g1) (by omega) (by omega)]; exact st.g1, gs, gb, key st.ca, key st.cb, key st.cd⟩

theorem all_spec {h : H} {lv : Value} {m0 : Nat} {k : Int} {l : List Cel} (eo : EncOK k l) (hs : Sl 6 47 m0 h lv l.length (l.flatMap celV)) :
    Ret E 68 [.int .i64 k, lv] h fun v h' => Kp None' h h' ∧ v = .tuple #[.agg ⟨sV (waysS k l)⟩, .agg ⟨bV (waysB k l)⟩] := by
  refine .of_fn rfl rfl (fun C L => column_all_eq C L _ h) ?_
  have hkd := eo.kd
  have d1 : decide (k < 1) = false := by simp; omega
  have d2 : decide (k > 6) = false := by simp; omega
  obtain ⟨h2, hh2⟩ : ∃ h2, h2 = h.new (.cells sz5 127 true false) := ⟨_, rfl⟩
  obtain ⟨h3, hh3⟩ : ∃ h3, h3 = h2.new (.cells bz5 128 true false) := ⟨_, rfl⟩
  obtain ⟨h4, hh4⟩ : ∃ h4, h4 = h3.new (.cells sz5 127 true false) := ⟨_, rfl⟩
  obtain ⟨h5, hh5⟩ : ∃ h5, h5 = h4.new (.cells bz5 128 true false) := ⟨_, rfl⟩
  have n2 : h2.next = h.next + 1 := by rw [hh2]; rfl
  have n3 : h3.next = h.next + 2 := by rw [hh3, H.next_new, n2]
  have n4 : h4.next = h.next + 3 := by rw [hh4, H.next_new, n3]
  have n5 : h5.next = h.next + 4 := by rw [hh5, H.next_new, n4]
  have k5 : Kp None' h h5 := by rw [hh5, hh4, hh3, hh2]; exact (((Kp.new _ _).thenNew _).thenNew _).thenNew _
  have g0 : h5.get h.next = some (.cells sz5 127 true false) := by rw [hh5, hh4, hh3]; exact H.get_new_old (H.get_new_old (H.get_new_old (by rw [hh2]; exact get_new_self _ _)))
  have g1 : h5.get (h.next + 1) = some (.cells bz5 128 true false) := by rw [hh5, hh4, ← n2]; exact H.get_new_old (H.get_new_old (by rw [hh3]; exact get_new_self _ _))
  have g2 : h5.get (h.next + 2) = some (.cells (sV [bs [], bs [], bs [], bs [], bs []]) 127 true false) := by rw [hh5, ← n3]; exact H.get_new_old (by rw [hh4]; exact get_new_self _ _)
  have g3 : h5.get (h.next + 3) = some (.cells (bV [false, false, false, false, false]) 128 true false) := by rw [hh5, ← n4]; exact get_new_self _ _
  simp only [column_all]
  simp only [rd, ← hh2, ← hh3, ← hh4, ← hh5, n2, n3, n4, d1, d2]
  refine .seq (ways_spec h5) fun w ⟨kw, a, b, d, w1, ca, cb, cd⟩ => ?_
  simp only [rd, w1]
  have st0 : WSt h w.2 h.next a b d [bs [], bs [], bs [], bs [], bs []] [false, false, false, false, false] := ⟨k5.then kw, Nat.le_refl _, kw.get g0 (fun h => h), kw.get g1 (fun h => h), kw.get g2 (fun h => h), kw.get g3 (fun h => h), ca, cb, cd⟩
  have wy : ∀ h', Kp None' h h' → _ := fun h' kh => eo.way (hs.kpN kh)
  -- the loop
  have loop : W E (fun _ L => L 68 6 [.int .i64 k, lv, ptr h.next 0, ptr (h.next + 1) 0, ptr (h.next + 2) 0, ptr (h.next + 3) 0, .agg ⟨wayL a b d⟩, .int .i64 0] w.2) fun r => r.2.1 = [ptr h.next 0, ptr (h.next + 1) 0, ptr (h.next + 2) 0, ptr (h.next + 3) 0] ∧ WSt h r.2.2 h.next a b d (waysS k l) (waysB k l) := by
    -- at nought nothing is done
    have first : ∀ h', WSt h h' h.next a b d [bs [], bs [], bs [], bs [], bs []] [false, false, false, false, false] → W E (fun _ L => L 68 6 [.int .i64 k, lv, ptr h.next 0, ptr (h.next + 1) 0, ptr (h.next + 2) 0, ptr (h.next + 3) 0, .agg ⟨wayL a b d⟩, .int .i64 ((1 : Nat) : Int)] h') fun r => r.2.1 = [ptr h.next 0, ptr (h.next + 1) 0, ptr (h.next + 2) 0, ptr (h.next + 3) 0] ∧ WSt h r.2.2 h.next a b d (waysS k l) (waysB k l) := by
      intro h' st
      refine all_step2 (i := 1) (w0 := cl a) (w1 := fn 103) (s := ⟨⟨plainE k l⟩⟩) (e := 0) (by decide) (by decide) rfl rfl rfl st rfl rfl (fun x kx => sure1_spec (st.ca.kp kx) (wy x (st.kk.then kx)).1) fun h' st => ?_
      refine all_step2 (i := 2) (w0 := cl b) (w1 := fn 105) (s := ⟨⟨runsE k l⟩⟩) (e := 0) (by decide) (by decide) rfl rfl rfl st rfl rfl (fun x kx => sure1_spec (st.cb.kp kx) (wy x (st.kk.then kx)).2.1) fun h' st => ?_
      have hdl : ∃ e : Int, (e == 0) = (deltaE k l).isSome ∧ ∀ x, Kp None' h' x → W E (fun C L => callV C L (fn 106) [.int .i64 k, lv] x) fun q => Kp None' x q.2 ∧ q.1 = .tuple #[.string ⟨⟨(deltaE k l).getD []⟩⟩, .int .i64 e] := by
        refine ⟨if (deltaE k l).isSome then 0 else if k = 2 ∨ k = 3 ∨ k = 6 then 12 else 14, ?_, fun x kx => ?_⟩
        · cases (deltaE k l).isSome <;> simp
          split <;> decide
        · refine .congr (fun C L => callV_fn C L 106 _ x) ?_
          have h1 := eo.n
          refine W.mono (deltaE_spec (hs.kpN (st.kk.then kx)) (fun c hc => (eo.ok c hc).2) (by omega)) fun r ⟨r1, r2⟩ => ⟨r1, ?_⟩
          cases hd : deltaE k l with
          | some t => rw [hd] at r2; exact r2
          | none =>
            rw [hd] at r2
            rw [r2, bs_nil]
            rfl
      obtain ⟨e, he, hc⟩ := hdl
      refine all_step2 (i := 3) (w0 := fn 106) (w1 := fn 107) (s := ⟨⟨(deltaE k l).getD []⟩⟩) (e := e) (by decide) (by decide) rfl rfl rfl st rfl rfl hc fun h' st => ?_
      refine all_step2 (i := 4) (w0 := cl d) (w1 := fn 109) (s := ⟨⟨dictE k l⟩⟩) (e := 0) (by decide) (by decide) rfl rfl rfl st rfl rfl (fun x kx => sure1_spec (st.cd.kp kx) (wy x (st.kk.then kx)).2.2.2) fun h' st => ?_
      refine W.mono (RetL.of_lp (Q := fun _ vals h'' => vals = _ ∧ h'' = h') rfl (fun C L => column_all_L6_eq C L _ h') ?_) fun r ⟨r1, r2⟩ => ⟨r1, ?_⟩
      · simp only [column_all_L6]
        simp only [rd, asP_ptr, show decide (((4 + 1 : Nat) : Int) < 5) = false from rfl]
        exact .ret ⟨rfl, rfl⟩
      · rw [r2]
        have := st
        rw [he] at this
        exact this
    refine W.mono (RetL.of_lp (Q := fun _ vals h'' => vals = [ptr h.next 0, ptr (h.next + 1) 0, ptr (h.next + 2) 0, ptr (h.next + 3) 0] ∧ WSt h h'' h.next a b d (waysS k l) (waysB k l)) rfl (fun C L => column_all_L6_eq C L _ w.2) ?_) fun r hr => hr
    have hw : ((wayL a b d).drop (0 * 2)).take 2 = [.nilFunc, .nilFunc] := rfl
    obtain ⟨h6, hh6⟩ : ∃ h6, h6 = w.2.new (.cells [.nilFunc, .nilFunc] 147 true false) := ⟨_, rfl⟩
    have g6 : h6.get w.2.next = some (.cells [.nilFunc, .nilFunc] 147 true false) := by rw [hh6]; exact get_new_self _ _
    have s1 : stV 2 h6 w.2.next 0 (.agg ⟨[.nilFunc, .nilFunc]⟩) = some (h6.put w.2.next (some (.cells [.nilFunc, .nilFunc] 147 true false))) := stV_full (n := 2) g6 rfl rfl rfl
    obtain ⟨h7, hh7⟩ : ∃ h7, h7 = h6.put w.2.next (some (.cells [.nilFunc, .nilFunc] 147 true false)) := ⟨_, rfl⟩
    have k7 : Kp None' w.2 h7 := by rw [hh7, hh6]; exact (Kp.new _ _).putNew _ (Nat.le_refl _)
    have p0 := part2 a b d 0 (by decide)
    simp only [column_all_L6]
    simp only [rd, asP_ptr, show decide ((0 : Int) < 5) = true from rfl, show (decide (0 ≤ (0 : Int)) && decide ((0 : Int) < ((5 : Nat) : Int))) = true from rfl, show decide ((0 : Int) < 1) = true from rfl, show partV true ((Int.toNat (0 : Int)) * 2) 2 (.agg ⟨wayL a b d⟩) = some (.agg ⟨[.nilFunc, .nilFunc]⟩) from p0, ← hh6, s1, ← hh7, show IntKind.wrap .i64 ((0 : Int) + 1) = ((1 : Nat) : Int) from rfl]
    exact first h7 ⟨st0.kk.then k7, st0.q0, k7.get st0.g0 (fun h => h), k7.get st0.g1 (fun h => h), k7.get st0.gs (fun h => h), k7.get st0.gb (fun h => h), st0.ca.kp k7, st0.cb.kp k7, st0.cd.kp k7⟩
  refine .seq loop fun r ⟨r1, st⟩ => ?_
  have l1 : ldA 5 r.2.2 (h.next + 2) 0 = some (.agg ⟨sV (waysS k l)⟩) := ldA_full st.gs rfl
  have l2 : ldA 5 r.2.2 (h.next + 3) 0 = some (.agg ⟨bV (waysB k l)⟩) := ldA_full st.gb rfl
  have s1 : stV 5 r.2.2 h.next 0 (.agg ⟨sV (waysS k l)⟩) = some (r.2.2.put h.next (some (.cells (sV (waysS k l)) 127 true false))) := stV_full (n := 5) st.g0 rfl rfl (sV_one _)
  obtain ⟨h6, hh6⟩ : ∃ h6, h6 = r.2.2.put h.next (some (.cells (sV (waysS k l)) 127 true false)) := ⟨_, rfl⟩
  have k6 : Kp (Only h.next) r.2.2 h6 := by rw [hh6]; exact .put _ _ rfl
  have g60 : h6.get h.next = some (.cells (sV (waysS k l)) 127 true false) := by rw [hh6]; exact H.get_put_same _ _ _ (H.get_lt st.g0)
  have l3 : ldA 5 h6 (h.next + 3) 0 = some (.agg ⟨bV (waysB k l)⟩) := ldA_full (k6.get st.gb (by simp only [Only]; omega)) rfl
  have s2 : stV 5 h6 (h.next + 1) 0 (.agg ⟨bV (waysB k l)⟩) = some (h6.put (h.next + 1) (some (.cells (bV (waysB k l)) 128 true false))) := stV_full (n := 5) (k6.get st.g1 (by simp only [Only]; omega)) rfl rfl (bV_one _)
  obtain ⟨h7, hh7⟩ : ∃ h7, h7 = h6.put (h.next + 1) (some (.cells (bV (waysB k l)) 128 true false)) := ⟨_, rfl⟩
  have k7 : Kp (Only (h.next + 1)) h6 h7 := by rw [hh7]; exact .put _ _ rfl
  have l4 : ldA 5 h7 h.next 0 = some (.agg ⟨sV (waysS k l)⟩) := ldA_full (k7.get g60 (by simp only [Only]; omega)) rfl
  have l5 : ldA 5 h7 (h.next + 1) 0 = some (.agg ⟨bV (waysB k l)⟩) := ldA_full (by rw [hh7]; exact H.get_put_same _ _ _ (H.get_lt (k6.get st.g1 (by simp only [Only]; omega)))) rfl
  have hv : veq (.agg ⟨bV (waysB k l)⟩) (.agg ⟨bV (waysB k l)⟩) = true := veq_b5 _ _ _ _ _
  simp only [rd, r1, asP_ptr, l1, l2, s1, ← hh6, l3, hv, s2, ← hh7, l4, l5]
  exact .ret ⟨(st.kk.hiO k6 (Nat.le_refl _)).hiO k7 (Nat.le_succ _), rfl⟩
end Go.Arm
namespace Go.Arm
open Go.Proofs

def selB (S : List ByteArray) (B : List Bool) (x i : Nat) : Nat := if B.getD i false = true then (if x = 0 then i else if (S.getD i (bs [])).size < (S.getD x (bs [])).size then i else x) else x
def selGo (S : List ByteArray) (B : List Bool) : Nat → Nat → Nat → Nat
  | 0, _, x => x
  | n + 1, i, x => selGo S B n (i + 1) (selB S B x i)
theorem selB_lt {S : List ByteArray} {B : List Bool} {x i : Nat} (hx : x < 5) (hi : i < 5) : selB S B x i < 5 := by
  unfold selB
  split
  · split
    · exact hi
    · split <;> assumption
  · exact hx
theorem selGo_lt {S : List ByteArray} {B : List Bool} : ∀ (n i x : Nat), i + n ≤ 5 → x < 5 → selGo S B n i x < 5
  | 0, _, _, _, h => h
  | n + 1, i, x, hi, hx => selGo_lt n (i + 1) _ (by omega) (selB_lt hx (by omega))

theorem best_loop {p q : Nat} {S : List ByteArray} {B : List Bool} (hS : S.length = 5) (hB : B.length = 5) {h : H} (g1 : h.get p = some (.cells (sV S) 127 true false)) (g2 : h.get q = some (.cells (bV B) 128 true false)) : ∀ (n i x : Nat), i + n = 5 → x < 5 →
    RetL E 45 4 [ptr p 0, ptr q 0, .int .i64 (x : Nat), .int .i64 (i : Nat)] h fun _ vals h' => h' = h ∧ vals = [ptr p 0, .int .i64 (selGo S B n i x : Nat)]
  | 0, i, x, hi, hx => by
    refine .of_lp rfl (fun C L => column_best_L4_eq C L _ h) ?_
    have c0 : decide (((i : Nat) : Int) < 5) = false := by simp; omega
    simp only [column_best_L4]
    simp only [rd, asP_ptr, c0]
    exact .ret ⟨rfl, rfl⟩
  | n + 1, i, x, hi, hx => by
    refine .of_lp rfl (fun C L => column_best_L4_eq C L _ h) ?_
    have hi5 : i < 5 := by omega
    have c0 : decide (((i : Nat) : Int) < 5) = true := by simp; omega
    have c1 : (decide (0 ≤ ((i : Nat) : Int)) && decide (((i : Nat) : Int) < ((5 : Nat) : Int))) = true := by simp; omega
    have c2 : (decide (0 ≤ ((x : Nat) : Int)) && decide (((x : Nat) : Int) < ((5 : Nat) : Int))) = true := by simp; omega
    have hix : ∀ j : Nat, 0 + Int.toNat ((j : Nat) : Int) * 1 = j := fun j => by simp
    have lb : ldB h q i = some (B.getD i false) := ldB_of g2 (by simp [bV, List.getElem?_eq_getElem (show i < B.length by omega), List.getD])
    have ls : ∀ j, j < 5 → ldS h p j = some (S.getD j (bs [])) := fun j hj => ldS_of g1 (by simp [sV, List.getElem?_eq_getElem (show j < S.length by omega), List.getD])
    have w1 : IntKind.wrap .i64 (((i : Nat) : Int) + 1) = ((i + 1 : Nat) : Int) := wrap_succ (by omega)
    simp only [column_best_L4]
    simp only [rd, asP_ptr, c0, c1, c2, hix, lb, ls i hi5, ls x hx, w1]
    have ih := best_loop hS hB g1 g2 n (i + 1) (selB S B x i) (by omega) (selB_lt hx hi5)
    have e : selGo S B (n + 1) i x = selGo S B n (i + 1) (selB S B x i) := rfl
    rw [e]
    unfold selB at ih ⊢
    cases hb : B.getD i false with
    | false =>
      rw [hb] at ih
      simp only [rd]
      simp only [Bool.false_eq_true, if_false] at ih ⊢
      exact ih
    | true =>
      rw [hb] at ih
      simp only [if_true] at ih ⊢
      by_cases hx0 : x = 0
      · simp only [rd, show (((x : Nat) : Int) == 0) = true by simp [hx0]]
        simp only [hx0, if_true] at ih ⊢
        exact ih
      · simp only [rd, show (((x : Nat) : Int) == 0) = false by simp [hx0]]
        simp only [hx0, if_false] at ih ⊢
        by_cases hlt : (S.getD i (bs [])).size < (S.getD x (bs [])).size
        · simp only [rd, lt_dec hlt]
          simp only [hlt, if_true] at ih ⊢
          exact ih
        · simp only [rd, ge_dec (Nat.not_lt.1 hlt)]
          simp only [hlt, if_false] at ih ⊢
          exact ih

def bestI (k : Int) (l : List Cel) : Nat := selGo (waysS k l) (waysB k l) 5 0 0
def bestS (k : Int) (l : List Cel) : ByteArray := (waysS k l).getD (bestI k l) (bs [])
theorem bestI_lt (k : Int) (l : List Cel) : bestI k l < 5 := selGo_lt 5 0 0 (by omega) (by omega)

theorem best_spec {h : H} {lv : Value} {m0 : Nat} {k : Int} {l : List Cel} (eo : EncOK k l) (hs : Sl 6 47 m0 h lv l.length (l.flatMap celV)) :
    Ret E 45 [.int .i64 k, lv] h fun v h' => Kp None' h h' ∧ v = .tuple #[.int .i64 (bestI k l : Nat), .string (bestS k l)] := by
  refine .of_fn rfl rfl (fun C L => column_best_eq C L _ h) ?_
  simp only [column_best]
  simp only [rd]
  refine .seq (all_spec eo hs) fun w ⟨kw, w1⟩ => ?_
  obtain ⟨h2, hh2⟩ : ∃ h2, h2 = w.2.new (.cells sz5 127 true false) := ⟨_, rfl⟩
  obtain ⟨h3, hh3⟩ : ∃ h3, h3 = h2.new (.cells bz5 128 true false) := ⟨_, rfl⟩
  have n2 : h2.next = w.2.next + 1 := by rw [hh2]; rfl
  have k3 : Kp None' w.2 h3 := by rw [hh3, hh2]; exact (Kp.new _ _).thenNew _
  have g0 : h3.get w.2.next = some (.cells sz5 127 true false) := by rw [hh3]; exact H.get_new_old (by rw [hh2]; exact get_new_self _ _)
  have g1 : h3.get (w.2.next + 1) = some (.cells bz5 128 true false) := by rw [hh3, ← n2]; exact get_new_self _ _
  have s1 : stV 5 h3 w.2.next 0 (.agg ⟨sV (waysS k l)⟩) = some (h3.put w.2.next (some (.cells (sV (waysS k l)) 127 true false))) := stV_full (n := 5) g0 rfl rfl (sV_one _)
  obtain ⟨h6, hh6⟩ : ∃ h6, h6 = h3.put w.2.next (some (.cells (sV (waysS k l)) 127 true false)) := ⟨_, rfl⟩
  have k6 : Kp (Only w.2.next) h3 h6 := by rw [hh6]; exact .put _ _ rfl
  have g60 : h6.get w.2.next = some (.cells (sV (waysS k l)) 127 true false) := by rw [hh6]; exact H.get_put_same _ _ _ (H.get_lt g0)
  have s2 : stV 5 h6 (w.2.next + 1) 0 (.agg ⟨bV (waysB k l)⟩) = some (h6.put (w.2.next + 1) (some (.cells (bV (waysB k l)) 128 true false))) := stV_full (n := 5) (k6.get g1 (by simp only [Only]; omega)) rfl rfl (bV_one _)
  obtain ⟨h7, hh7⟩ : ∃ h7, h7 = h6.put (w.2.next + 1) (some (.cells (bV (waysB k l)) 128 true false)) := ⟨_, rfl⟩
  have k7 : Kp (Only (w.2.next + 1)) h6 h7 := by rw [hh7]; exact .put _ _ rfl
  have g70 := k7.get g60 (by simp only [Only]; omega)
  have g71 : h7.get (w.2.next + 1) = some (.cells (bV (waysB k l)) 128 true false) := by rw [hh7]; exact H.get_put_same _ _ _ (H.get_lt (k6.get g1 (by simp only [Only]; omega)))
  have kf : Kp None' w.2 h7 := (k3.hiO k6 (Nat.le_refl _)).hiO k7 (Nat.le_succ _)
  simp only [rd, w1, ← hh2, ← hh3, n2, s1, ← hh6, s2, ← hh7]
  refine .seq (best_loop (S := waysS k l) (B := waysB k l) rfl rfl g70 g71 5 0 0 rfl (by decide)) fun r ⟨r1, r2⟩ => ?_
  have hb := bestI_lt k l
  have e5 : selGo (waysS k l) (waysB k l) 5 0 0 = bestI k l := rfl
  rw [e5] at r2
  have c1 : (decide (0 ≤ ((bestI k l : Nat) : Int)) && decide (((bestI k l : Nat) : Int) < ((5 : Nat) : Int))) = true := by simp; omega
  have hix : 0 + Int.toNat ((bestI k l : Nat) : Int) * 1 = bestI k l := by simp
  have ls : ldS h7 w.2.next (bestI k l) = some (bestS k l) := ldS_of g70 (by
    have : (waysS k l).length = 5 := rfl
    unfold bestS
    simp [sV, List.getElem?_eq_getElem (show bestI k l < (waysS k l).length by omega), List.getD])
  simp only [rd, r2, r1, asP_ptr, c1, hix, ls]
  exact .ret ⟨kw.then kf, rfl⟩

/-! ## column.Encode -/
def columnE (col : Col) (l : List Cel) : List UInt8 := uvarE l.length ++ (if col.null then packE (l.map (·.null)) else []) ++ [UInt8.ofNat (bestI col.kind (denseD l))] ++ (bestS col.kind (denseD l)).data.toList
theorem sizeD_filter (f : Cel → Bool) : ∀ l : List Cel, sizeD (l.filter f) ≤ sizeD l
  | [] => Nat.le_refl _
  | c :: l => by
    have := sizeD_filter f l
    rw [List.filter_cons]
    split <;> simp only [sizeD] <;> omega
theorem enc_ok {col : Col} {l : List Cel} (h : checkD col l = 0) (hok : ∀ c ∈ l, CelOK c) : EncOK col.kind (denseD l) ∧ l.length ≤ 10000 ∧ sizeD l ≤ 1048576 := by
  unfold checkD at h
  split at h
  · cases h
  · rename_i h1
    split at h
    · cases h
    · rename_i h2
      split at h
      · cases h
      · rename_i h3
        have h1' : colsD [col] = true := by simpa using h1
        have h2' : l.all (mayD col) = true := by simpa using h2
        have hf : (denseD l).length ≤ l.length := List.length_filter_le _ _
        have hz := sizeD_filter (fun c => !c.null) l
        refine ⟨⟨colsD_kind h1', fun c hc => ?_, by omega, by unfold denseD; omega⟩, by omega, by omega⟩
        obtain ⟨hc1, hc2⟩ := List.mem_filter.1 hc
        refine ⟨hok c hc1, fun h6 => ?_⟩
        have hm := List.all_eq_true.1 h2' c hc1
        have hn : c.null = false := by simpa using hc2
        unfold mayD at hm
        rw [hn] at hm
        simp only [Bool.false_eq_true, if_false, Bool.and_eq_true] at hm
        have := hm.1
        unfold mayC at this
        rw [h6] at this
        simpa using this
theorem flatPut_len (k : Int) : ∀ D : List Cel, (∀ c ∈ D, CelOK c) → (D.flatMap (putE k)).length ≤ sizeD D
  | [], _ => by simp [sizeD]
  | c :: D, hD => by
    have h1 := putE_len (k := k) (hD c (by simp))
    have h2 := flatPut_len k D (fun x hx => hD x (by simp [hx]))
    simp only [List.flatMap_cons, List.length_append, sizeD]
    omega
theorem flatUv_len : ∀ D : List Nat, (∀ i ∈ D, i < 2 ^ 64) → (D.flatMap uvarE).length ≤ 10 * D.length
  | [], _ => by simp
  | i :: D, hD => by
    have h1 := uvarE_len (hD i (by simp))
    have h2 := flatUv_len D (fun x hx => hD x (by simp [hx]))
    simp only [List.flatMap_cons, List.length_append, List.length_cons]
    omega
theorem runsE_len (k : Int) : ∀ (N : Nat) (l : List Cel), l.length ≤ N → N < 2 ^ 60 → (∀ c ∈ l, CelOK c) → (runsE k l).length ≤ 2 * sizeD l
  | _, [], _, _, _ => by simp [runsE]
  | 0, c :: l, hN, _, _ => by simp at hN
  | N + 1, c :: l, hN, hN2, hok => by
    have hle := runLen_le k l c
    simp only [List.length_cons] at hN
    have hpl := putE_len (k := k) (hok c (by simp))
    have hul : (uvarE (runLen k c l + 1)).length ≤ 10 := uvarE_len (by omega)
    have hsd : sizeD (l.drop (runLen k c l)) ≤ sizeD l := by
      have := sizeD_append (l.take (runLen k c l)) (l.drop (runLen k c l))
      rw [List.take_append_drop] at this; omega
    have ih := runsE_len k N (l.drop (runLen k c l)) (by simp; omega) (by omega) (fun x hx => hok x (by simp [List.mem_of_mem_drop hx]))
    rw [runsE]
    simp only [List.length_append, sizeD]
    omega
theorem deltaGo_len (k : Int) : ∀ (l : List Cel) (last : Cel) (t : List UInt8), deltaGo k last l = some t → t.length ≤ 100 * l.length
  | [], last, t, h => by simp [deltaGo] at h; subst h; simp
  | c :: l, last, t, h => by
    unfold deltaGo at h
    split at h
    · split at h
      · obtain ⟨r, hr, rfl⟩ := Option.map_eq_some_iff.1 h
        have h1 := putE_len (k := 6) (stepOK 6 last c)
        have h2 := stepS 6 last c
        have ih := deltaGo_len k l c r hr
        simp only [List.length_append, List.length_cons]
        omega
      · cases h
    · obtain ⟨r, hr, rfl⟩ := Option.map_eq_some_iff.1 h
      have h1 := uvarE_len (zigI_eq (stepC k last c).i).2
      have ih := deltaGo_len k l c r hr
      simp only [List.length_append, List.length_cons]
      omega
theorem bestS_len {k : Int} {l : List Cel} (eo : EncOK k l) : (bestS k l).size ≤ 2 ^ 30 := by
  have hn := eo.n
  have hz := eo.z
  have hok : ∀ c ∈ l, CelOK c := fun c hc => (eo.ok c hc).1
  have h1 : (plainE k l).length ≤ 2 ^ 30 := by
    unfold plainE
    split
    · rw [packE_length, List.length_map]; unfold sizeN; omega
    · have := flatPut_len k l hok; omega
  have h2 : (runsE k l).length ≤ 2 ^ 30 := by have := runsE_len k l.length l (Nat.le_refl _) (by omega) hok; omega
  have h3 : ((deltaE k l).getD []).length ≤ 2 ^ 30 := by
    cases hd : deltaE k l with
    | none => simp
    | some t =>
      unfold deltaE at hd
      split at hd
      · have := deltaGo_len k l zCel t hd
        simp only [Option.getD_some]; omega
      · cases hd
  have h4 : (dictE k l).length ≤ 2 ^ 30 := by
    have m1 := makeGo_len k l []
    have m2 := makeGo_size k l []
    have m3 := flatPut_len k (makeGo k [] l).1 (makeGo_mem k l [] hok (by simp))
    have m4 := flatUv_len (makeGo k [] l).2 (fun i hi => by have := makeGo_lt k l [] i hi; simp at this; omega)
    have m5 : (uvarE (makeGo k [] l).1.length).length ≤ 10 := uvarE_len (by simp at m1; omega)
    simp only [List.length_nil, Nat.zero_add, sizeD] at m1 m2
    unfold dictE
    simp only [List.length_append]
    omega
  have hb := bestI_lt k l
  unfold bestS
  have : bestI k l = 0 ∨ bestI k l = 1 ∨ bestI k l = 2 ∨ bestI k l = 3 ∨ bestI k l = 4 := by omega
  rcases this with h | h | h | h | h <;> rw [h]
  · exact Nat.zero_le _
  · exact h1
  · exact h2
  · exact h3
  · exact h4
theorem cEncode_spec {h : H} {lv : Value} {m0 : Nat} {col : Col} {l : List Cel} (ht : Tabs h) (hs : Sl 6 47 m0 h lv l.length (l.flatMap celV)) (hl : l.length < 2 ^ 33) (hok : ∀ c ∈ l, CelOK c) :
    Ret E 19 [colA col, lv] h fun v h' => Kp None' h h' ∧ v = if checkD col l = 0 then .tuple #[.string ⟨⟨columnE col l⟩⟩, .int .i64 0] else .tuple #[.string (bs []), .int .i64 (checkD col l)] := by
  refine .of_fn rfl rfl (fun C L => column_Encode_eq C L _ h) ?_
  obtain ⟨h1, hh1⟩ : ∃ h1, h1 = h.new (.cells (colV col) 55 true false) := ⟨_, rfl⟩
  have k1 : Kp None' h h1 := by rw [hh1]; exact .new _ _
  have g1 : h1.get h.next = some (.cells (colV col) 55 true false) := by rw [hh1]; exact get_new_self _ _
  simp only [column_Encode]
  simp only [rd, oneL_col, ← hh1, ldA3 g1]
  refine .seq (alone_spec (col := col) (hs.kpN k1)) fun q ⟨kq, cv, xv, q1, sc, sx, sl⟩ => ?_
  simp only [rd, q1]
  refine .seq (check_spec ((ht.kp k1 (fun h => h) (fun h => h)).kp kq (fun h => h) (fun h => h)) sc sx sl hl hok) fun w ⟨kw, w1⟩ => ?_
  have kkw := (k1.then kq).then kw
  simp only [rd, w1]
  by_cases h0 : checkD col l = 0
  · obtain ⟨eo, hlen, hsz⟩ := enc_ok h0 hok
    obtain ⟨h7, hh7⟩ : ∃ h7, h7 = w.2.new (.cells [.slice none 0 0] 61 true false) := ⟨_, rfl⟩
    have wa : WA h h7 w.2.next [] := by rw [hh7]; exact .make kkw
    have g7 := (kq.then kw).get g1 (fun h => h)
    have g77 : h7.get h.next = some (.cells (colV col) 55 true false) := by rw [hh7]; exact H.get_new_old g7
    have hul : (uvarE l.length).length ≤ 10 := uvarE_len (by omega)
    simp only [rd, h0, show ((0 : Int) != 0) = false from rfl, ← hh7, hs.len, wrap_u64 (x := l.length) (by omega), if_true]
    refine .seq (uvar_spec (x := l.length) (by omega) wa.w (by simp; omega)) fun z ⟨_, z2, z3⟩ => ?_
    have wz := wa.step z2 z3
    have hnp : h.next ≠ w.2.next := by have := H.get_lt g7; omega
    have hnb : ∀ b, Buf h7 w.2.next b → b ≠ h.next := fun b hb he => by
      subst he
      have := (wa.w.buf hb).1
      rw [g77] at this
      simp only [Option.some.injEq, Blk.cells.injEq] at this
      exact absurd this.2.1 (by decide)
    have gz : z.2.get h.next = some (.cells (colV col) 55 true false) := by
      rw [z3.keep _ (H.get_lt g77) hnp (fun hb => hnb _ hb rfl)]; exact g77
    have lnull : ldB z.2 h.next (0 + 2) = some col.null := ldB_of gz rfl
    -- from the nulls on
    have tail : ∀ (h8 : H) (pre : List UInt8), WA h h8 w.2.next pre → h8.get h.next = some (.cells (colV col) 55 true false) → pre.length ≤ 2 ^ 30 → W E (fun C L => (ldI .i64 h8 h.next (0 + 1)).bind fun x17 => (C 46 [lv] h8).bind fun p18 =>
        (((ldI .i64 p18.2 h.next (0 + 1)).bind fun x20 => some (veq (.int .i64 x17) (.int .i64 x20))) : Option Bool).bind fun b19 => cond b19 ((C 45 [(.int .i64 x17), p18.1] p18.2).bind fun p21 => (tup2 p21.1).bind fun p22 => (asI .i64 p22.1).bind fun x23 => (asS p22.2).bind fun s24 =>
          (C 39 [(ptr w.2.next 0), (.int .u8 (IntKind.wrap .u8 x23))] p21.2).bind fun p25 => (C 38 [(ptr w.2.next 0), (.string s24)] p25.2).bind fun p26 => (C 20 [(ptr w.2.next 0)] p26.2).bind fun p27 => (asS p27.1).bind fun s28 => some (Value.tuple #[(.string s28), (.int .i64 (0 : Int))], p27.2)) none)
        fun r => Kp None' h r.2 ∧ r.1 = .tuple #[.string ⟨⟨pre ++ [UInt8.ofNat (bestI col.kind (denseD l))] ++ (bestS col.kind (denseD l)).data.toList⟩⟩, .int .i64 0] := by
      intro h8 pre w8 g8 hpre
      have lk : ldI .i64 h8 h.next (0 + 1) = some col.kind := ldI_of g8 rfl
      simp only [rd, lk]
      refine .seq (dense_spec (hs.kpN w8.k) (by omega)) fun y ⟨ky, sy⟩ => ?_
      have gy := ky.get g8 (fun h => h)
      have lk2 : ldI .i64 y.2 h.next (0 + 1) = some col.kind := ldI_of gy rfl
      have wy := w8.other ky
      have hveq : veq (.int .i64 col.kind) (.int .i64 col.kind) = true := by simp [veq, veq1]
      simp only [rd, lk2, hveq]
      refine .seq (best_spec eo sy) fun x ⟨kx, x1⟩ => ?_
      have wx := wy.other kx
      have hbi := bestI_lt col.kind (denseD l)
      have hbs := bestS_len eo
      have wb : IntKind.wrap .u8 ((bestI col.kind (denseD l) : Nat) : Int) = ((UInt8.ofNat (bestI col.kind (denseD l))).toNat : Int) := by
        rw [wrap_u8, ofNat_toNat (by omega)]
        omega
      simp only [rd, x1, wb]
      refine .seq (u8_spec (UInt8.ofNat (bestI col.kind (denseD l))) wx.w (by omega)) fun a ⟨_, a2, a3⟩ => ?_
      have w9 := wx.step a2 a3
      refine .seq (raw_spec (s := bestS col.kind (denseD l)) w9.w (by simp only [List.length_append, List.length_singleton]; omega)) fun b ⟨_, b2, b3⟩ => ?_
      have w10 := w9.step b2 b3
      refine .seq (string_spec w10.w) fun c ⟨c1, c2⟩ => ?_
      simp only [rd, c1, c2]
      exact .ret ⟨w10.k, rfl⟩
    simp only [rd, lnull]
    unfold columnE
    cases hnull : col.null with
    | false =>
      simp only [rd, Bool.false_eq_true, if_false]
      have := tail z.2 _ wz gz (by simp; omega)
      simpa using this
    | true =>
      simp only [rd, if_true]
      refine .seq (nNulls_spec (hs.kpN wz.k) (by omega)) fun y ⟨ky, sy⟩ => ?_
      refine .seq (pack_spec (l := l.map (·.null)) sy (by simp; omega)) fun x ⟨kx, x1⟩ => ?_
      have wx := (wz.other ky).other kx
      have gx := (ky.then kx).get gz (fun h => h)
      have hpk : (packE (l.map Cel.null)).length ≤ 10000 := by rw [packE_length, List.length_map]; unfold sizeN; omega
      simp only [rd, x1]
      refine .seq (raw_spec (s := ByteArray.mk ⟨packE (l.map Cel.null)⟩) wx.w (by
        have : ByteArray.size (ByteArray.mk ⟨packE (l.map Cel.null)⟩) = (packE (l.map Cel.null)).length := rfl
        rw [this]
        simp only [List.nil_append]
        omega)) fun a ⟨_, a2, a3⟩ => ?_
      have w9 := wx.step a2 a3
      have hnb2 : ¬ Buf x.2 w.2.next h.next := fun hb => by
        have := (wx.w.buf hb).1
        rw [gx] at this
        simp only [Option.some.injEq, Blk.cells.injEq] at this
        exact absurd this.2.1 (by decide)
      have ga : a.2.get h.next = some (.cells (colV col) 55 true false) := by
        rw [a3.keep _ (H.get_lt gx) hnp hnb2]; exact gx
      have := tail a.2 _ w9 ga (by simp only [List.length_append, List.length_nil]; omega)
      simpa using this
  · simp only [rd, show (checkD col l != 0) = true by simp [h0], h0, if_false]
    exact .ret ⟨kkw, rfl⟩
end Go.Arm
namespace Go.Arm
open Go.Proofs

theorem missing_spec {h : H} {p : Nat} {s : ByteArray} {a N : Nat} {col : Col} (r : Rd h p s a 0) (ha : a ≤ s.size) (hs : s.size < 2 ^ 38) (hN : N ≤ 10000) :
    Ret E 89 [ptr p 0, colA col, .int .i64 (N : Nat)] h fun v h' => Kp (Only p) h h' ∧ ((∃ e, DErr e ∧ v = .tuple #[.slice none 0 0, .int .i64 e]) ∨
      (∃ (o : Value) (l : List Bool) (a' : Nat), v = .tuple #[o, .int .i64 0] ∧ l.length = N ∧ Sl 1 4 h.next h' o l.length (bV l) ∧ a' ≤ s.size ∧ Rd h' p s a' 0)) := by
  refine .of_fn rfl rfl (fun C L => column_missing_eq C L _ h) ?_
  obtain ⟨h1, hh1⟩ : ∃ h1, h1 = h.new (.cells (colV col) 55 true false) := ⟨_, rfl⟩
  have k1 : Kp None' h h1 := by rw [hh1]; exact .new _ _
  have g1 : h1.get h.next = some (.cells (colV col) 55 true false) := by rw [hh1]; exact get_new_self _ _
  have r1 := r.kpX k1 (fun h => h)
  have lnull : ldB h1 h.next (0 + 2) = some col.null := ldB_of g1 rfl
  have hk1 := k1.1
  have up : ∀ {h' : H}, Kp (Only p) h1 h' → Kp (Only p) h h' := fun k => (k1.weaken fun _ h => h.elim).then k
  simp only [column_missing]
  simp only [rd, oneL_col, ← hh1, lnull]
  cases col.null with
  | false =>
    simp only [rd, Bool.not_false, mkS_of (bytes := 1) (n := N) (e := 4) (zero := [.bool false]) (h := h1) (by unfold roomy; omega) rfl]
    have hmk : Sl 1 4 h1.next (h1.new (.cells (rep N [.bool false]) 4 true false)) (.slice (some ⟨h1.next, 0, none⟩) N N) N (List.replicate N (.bool false)) := Sl.mk1 (h := h1)
    have e1 : List.replicate N (Value.bool false) = bV (List.replicate N false) := by simp [bV]
    rw [e1] at hmk
    have kn : Kp None' h1 (h1.new (.cells (rep N [.bool false]) 4 true false)) := .new _ _
    exact .ret ⟨up (kn.weaken fun _ h => h.elim), .inr ⟨_, List.replicate N false, a, rfl, by simp, by simpa using hmk.low hk1, ha, r1.kpX kn (fun h => h)⟩⟩
  | true =>
    have hw : IntKind.wrap .i64 (Int.tdiv (IntKind.wrap .i64 ((IntKind.wrap .i64 (((N : Nat) : Int) + 8)) - 1)) 8) = ((sizeN N : Nat) : Int) := by
      rw [wrap_i64 (x := ((N : Nat) : Int) + 8) (by omega) (by omega), wrap_i64 (x := ((N : Nat) : Int) + 8 - 1) (by omega) (by omega)]
      have : ((N : Nat) : Int) + 8 - 1 = ((N + 7 : Nat) : Int) := by omega
      rw [this, tdiv8, wrap_i64 (by omega) (by omega)]
      rfl
    simp only [rd, Bool.not_true, hw]
    refine .seq (rRaw_spec r1 ha (by omega) (sizeN N) (by unfold sizeN; omega)) fun q ⟨kq, hq⟩ => ?_
    rcases hq with ⟨he, _⟩ | ⟨_, _, hv, r2⟩ | ⟨_, hle, hv, r2⟩
    · exact absurd rfl he
    · simp only [rd, hv]
      refine .seq (err_spec r2) fun z ⟨z1, z2⟩ => ?_
      simp only [rd, z1, z2, show ((10 : Int) != 0) = true from rfl]
      exact .ret ⟨up kq, .inl ⟨10, by simp [DErr], rfl⟩⟩
    · simp only [rd, hv]
      refine .seq (err_spec r2) fun z ⟨z1, z2⟩ => ?_
      simp only [rd, z1, z2, show ((0 : Int) != 0) = false from rfl]
      have hsz : ByteArray.size ⟨⟨(rest s a).take (sizeN N)⟩⟩ < 2 ^ 40 := by
        show ((rest s a).take (sizeN N)).length < 2 ^ 40
        rw [List.length_take]
        unfold sizeN
        omega
      refine .seq (unpack_spec (N := N) (by omega) hsz) fun w ⟨kw, hw⟩ => ?_
      have kk := up (kq.then (kw.weaken fun _ h => h.elim))
      have hkq := kq.1
      rcases hw with ⟨e, he, hv⟩ | ⟨o, l, hv, hl, sl⟩
      · simp only [rd, hv]
        exact .ret ⟨kk, .inl ⟨e, he, rfl⟩⟩
      · simp only [rd, hv]
        exact .ret ⟨kk, .inr ⟨o, l, a + sizeN N, rfl, hl, sl.low (by omega), hle, r2.kpX kw (fun h => h)⟩⟩

theorem back_spec {h : H} {n : Nat} {wv : Value} {k : Int} {s : ByteArray} {N : Nat} (hn : 1 ≤ n ∧ n ≤ 4) (hk : 1 ≤ k ∧ k ≤ 6) (hN : N ≤ 10000) (hs : s.size < 2 ^ 38) (ht : Tabs h) {a b d : Nat} (hw : (wayL a b d)[n * 2 + 1]? = some wv) :
    W E (fun C L => callV C L wv [.int .i64 k, .string s, .int .i64 (N : Nat)] h) fun q => Kp None' h q.2 ∧ DecR h q.2 q.1 := by
  have : n = 1 ∨ n = 2 ∨ n = 3 ∨ n = 4 := by omega
  rcases this with rfl | rfl | rfl | rfl
  · obtain rfl : fn 103 = wv := Option.some.inj hw
    exact .congr (fun C L => callV_fn C L 103 _ h) (plainD_spec hk hN hs ht)
  · obtain rfl : fn 105 = wv := Option.some.inj hw
    exact .congr (fun C L => callV_fn C L 105 _ h) (runsD_spec hk hN hs ht)
  · obtain rfl : fn 107 = wv := Option.some.inj hw
    exact .congr (fun C L => callV_fn C L 107 _ h) (deltaD_spec hN hs ht)
  · obtain rfl : fn 109 = wv := Option.some.inj hw
    exact .congr (fun C L => callV_fn C L 109 _ h) (dictD_spec hk hN hs ht)

theorem veq_i64 (n : Int) : veq (.int .i64 n) (.int .i64 n) = true := by simp [veq, veq1]
theorem cells_spec {h : H} {s : ByteArray} {col : Col} (hk : 1 ≤ col.kind ∧ col.kind ≤ 6) (hs : s.size < 2 ^ 38) (ht : Tabs h) :
    Ret E 62 [colA col, .string s] h fun v h' => Kp None' h h' ∧ DecR h h' v := by
  have h2 : 2 ≤ h.next := by
    obtain ⟨t, t', _, h1⟩ := ht
    have := H.get_lt h1; omega
  refine .of_fn rfl rfl (fun C L => column_cells_eq C L _ h) ?_
  obtain ⟨h1, hh1⟩ : ∃ h1, h1 = h.new (.cells (colV col) 55 true false) := ⟨_, rfl⟩
  have k1 : Kp None' h h1 := by rw [hh1]; exact .new _ _
  have n1 : h1.next = h.next + 1 := by rw [hh1]; rfl
  have g1 : h1.get h.next = some (.cells (colV col) 55 true false) := by rw [hh1]; exact get_new_self _ _
  simp only [column_cells]
  simp only [rd, oneL_col, ← hh1]
  refine .seq (read_spec s h1) fun q1 ⟨hv1, r1, kr⟩ => ?_
  have k1q := k1.then kr
  have gq := kr.get g1 (fun h => h)
  simp only [rd, hv1]
  refine .seq (rUvar_ok r1 (Nat.zero_le _) (by omega)) fun q2 ⟨kq2, hq2⟩ => ?_
  have hp : h.next ≤ h1.next := k1.1
  have kk2 := k1q.hiO kq2 hp
  have gq2 := kq2.get gq (by simp only [Only]; omega)
  rcases hq2 with ⟨e, he, hv, r2⟩ | ⟨y, n, hv, r2, hn, hy, _, _⟩
  · simp only [rd, hv]
    refine .seq (err_spec r2) fun z ⟨z1, z2⟩ => ?_
    simp only [rd, z1, z2, he.bne]
    refine .seq (err_spec r2) fun z ⟨z1, z2⟩ => ?_
    simp only [rd, z1, z2]
    exact .ret ⟨kk2, .inl ⟨e, he.derr, rfl⟩⟩
  · simp only [rd, hv]
    refine .seq (err_spec r2) fun z ⟨z1, z2⟩ => ?_
    simp only [rd, z1, z2, show ((0 : Int) != 0) = false from rfl]
    by_cases hy1 : y ≤ 10000
    · have d1 : decide (((y : Nat) : Int) > 10000) = false := by simp; omega
      simp only [rd, d1, ldA3 gq2, wrap_i64n (n := y) (by omega)]
      refine .seq (missing_spec (col := col) r2 hn hs hy1) fun q3 ⟨kq3, hq3⟩ => ?_
      have kk3 := kk2.hiO kq3 hp
      have gq3 := kq3.get gq2 (by simp only [Only]; omega)
      rcases hq3 with ⟨e, he, hv⟩ | ⟨o, bl, a', hv, hbl, sb, ha', r3⟩
      · simp only [rd, hv, he.bne]
        exact .ret ⟨kk3, .inl ⟨e, he, rfl⟩⟩
      · simp only [rd, hv, show ((0 : Int) != 0) = false from rfl]
        refine .seq (rU8_ok r3 ha' (by omega)) fun q4 ⟨kq4, hq4⟩ => ?_
        have kk4 := kk3.hiO kq4 hp
        have gq4 := kq4.get gq3 (by simp only [Only]; omega)
        have hk2 := kk2.1
        have hlt2 := r2.lt
        have sb4 := sb.kpO kq4 (by omega)
        rcases hq4 with ⟨hv, r4⟩ | ⟨b, hv, r4, ha4, _⟩
        · simp only [rd, hv]
          refine .seq (err_spec r4) fun z ⟨z1, z2⟩ => ?_
          simp only [rd, z1, z2, show ((10 : Int) != 0) = true from rfl]
          refine .seq (err_spec r4) fun z ⟨z1, z2⟩ => ?_
          simp only [rd, z1, z2]
          exact .ret ⟨kk4, .inl ⟨10, by simp [DErr], rfl⟩⟩
        · simp only [rd, hv]
          refine .seq (err_spec r4) fun z ⟨z1, z2⟩ => ?_
          simp only [rd, z1, z2, show ((0 : Int) != 0) = false from rfl]
          by_cases hb : 1 ≤ b.toNat ∧ b.toNat ≤ 4
          · have c1 : decide (((b.toNat : Nat) : Int) < 1) = false := by simp; omega
            have c2 : decide (((b.toNat : Nat) : Int) > 4) = false := by simp; omega
            have c3 : (decide (0 ≤ ((b.toNat : Nat) : Int)) && decide (((b.toNat : Nat) : Int) < ((5 : Nat) : Int))) = true := by simp; omega
            simp only [rd, c1, c2]
            refine .seq (ways_spec q4.2) fun w ⟨kw, x1, x2, x3, hw, _⟩ => ?_
            have kkw := kk4.then kw
            have gw := kw.get gq4 (fun h => h)
            obtain ⟨w0, w1, hw01⟩ : ∃ w0 w1, ((wayL x1 x2 x3).drop (b.toNat * 2)).take 2 = [w0, w1] := by
              have : b.toNat = 1 ∨ b.toNat = 2 ∨ b.toNat = 3 ∨ b.toNat = 4 := by omega
              rcases this with h | h | h | h <;> rw [h] <;> exact ⟨_, _, rfl⟩
            have hw1 : (wayL x1 x2 x3)[b.toNat * 2 + 1]? = some w1 := by
              have := congrArg (fun l => l[1]?) hw01
              simpa [List.getElem?_take, List.getElem?_drop] using this
            have hpv : partV false 1 1 (.agg ⟨[w0, w1]⟩) = some w1 := rfl
            have lk4 : ldI .i64 q4.2 h.next (0 + 1) = some col.kind := ldI_of gq4 rfl
            have lkw : ldI .i64 w.2 h.next (0 + 1) = some col.kind := ldI_of gw rfl
            have rw1 := r4.kpX kw (fun h => h)
            simp only [rd, c3, hw, part2 x1 x2 x3 b.toNat (by omega), hw01, hpv, lkw, lk4, veq_i64]
            refine .seq (left_spec rw1 ha4 (by omega)) fun z ⟨z1, z2⟩ => ?_
            simp only [rd, z1, z2, lkw, veq_i64]
            refine .seq (rRaw_spec rw1 ha4 (by omega) (s.size - (a' + 1)) (by omega)) fun q5 ⟨kq5, hq5⟩ => ?_
            have kk5 := kkw.hiO kq5 hp
            have g5 := kq5.get gw (by simp only [Only]; omega)
            have lk5 : ldI .i64 q5.2 h.next (0 + 1) = some col.kind := ldI_of g5 rfl
            have hk4 := kk4.1
            have hkw := kw.1
            have hkq4 := kq4.1
            have sb5 := (sb4.kpN kw).kpO kq5 (by omega)
            obtain ⟨t, ht5, hts⟩ : ∃ t : ByteArray, q5.1 = .string t ∧ t.size < 2 ^ 38 := by
              rcases hq5 with ⟨he, _⟩ | ⟨_, _, hv, _⟩ | ⟨_, _, hv, _⟩
              · exact absurd rfl he
              · exact ⟨_, hv, by decide⟩
              · refine ⟨_, hv, ?_⟩
                show ((rest s (a' + 1)).take (s.size - (a' + 1))).length < 2 ^ 38
                rw [List.length_take]
                omega
            simp only [rd, ht5, lk5, veq_i64, sb5.len]
            refine .seq (count_spec sb5 (by omega)) fun q6 ⟨q61, q62⟩ => ?_
            have hcle := cntT_le bl
            have wd : IntKind.wrap .i64 (((bl.length : Nat) : Int) - ((cntT bl : Nat) : Int)) = ((bl.length - cntT bl : Nat) : Int) := by rw [wrap_i64 (by omega) (by omega)]; omega
            simp only [rd, q61, q62, veq_i64, lk5, wd]
            refine .seq (back_spec hb hk (show bl.length - cntT bl ≤ 10000 by omega) hts (ht.kp kk5 (fun h => h) (fun h => h)) hw1) fun q7 ⟨kq7, hq7⟩ => ?_
            have kk7 := kk5.then kq7
            rcases hq7 with ⟨e, he, hv⟩ | ⟨o7, l7, hv, hl7, hok7, sl7⟩
            · simp only [rd, hv, he.bne]
              exact .ret ⟨kk7, .inl ⟨e, he, rfl⟩⟩
            · simp only [rd, hv, show ((0 : Int) != 0) = false from rfl]
              have hkq5 := kq5.1
              refine .seq (spread_spec (m0 := 0) (l := bl) (cs := l7) ((sb5.kpN kq7).low (Nat.zero_le _)) (by omega) (sl7.low (Nat.zero_le _)) (by omega) hok7) fun q8 ⟨kq8, hq8⟩ => ?_
              have kk8 := kk7.then kq8
              rcases hq8 with ⟨e, he, hv⟩ | ⟨o8, out, hv, hol, hook, sl8⟩
              · simp only [rd, hv]
                exact .ret ⟨kk8, .inl ⟨e, he, rfl⟩⟩
              · simp only [rd, hv]
                exact .ret ⟨kk8, .inr ⟨o8, out, rfl, by omega, hook, sl8.low kk7.1⟩⟩
          · have fin : W E (fun _ _ => some (Value.tuple #[(.slice none 0 0), (.int .i64 (14 : Int))], q4.2)) fun r => Kp None' h r.2 ∧ DecR h r.2 r.1 := .ret ⟨kk4, .inl ⟨14, by simp [DErr], rfl⟩⟩
            by_cases hb1 : b.toNat < 1
            · simp only [rd, show decide (((b.toNat : Nat) : Int) < 1) = true by simp; omega]
              exact fin
            · simp only [rd, show decide (((b.toNat : Nat) : Int) < 1) = false by simp; omega, show decide (((b.toNat : Nat) : Int) > 4) = true by simp; omega]
              exact fin
    · have d1 : decide (((y : Nat) : Int) > 10000) = true := by simp; omega
      simp only [rd, d1]
      exact .ret ⟨kk2, .inl ⟨31, by simp [DErr], rfl⟩⟩

theorem cDecode_spec {h : H} {s : ByteArray} {col : Col} (hs : s.size < 2 ^ 38) (ht : Tabs h) :
    Ret E 34 [colA col, .string s] h fun v h' => Kp None' h h' ∧ ((∃ e, DErr e ∧ v = .tuple #[.slice none 0 0, .int .i64 e]) ∨
      (∃ (o : Value) (l : List Cel), v = .tuple #[o, .int .i64 0] ∧ (∀ c ∈ l, CelOK c) ∧ Sl 6 47 h.next h' o l.length (l.flatMap celV) ∧ checkD col l = 0 ∧ s.data.toList = columnE col l)) := by
  refine .of_fn rfl rfl (fun C L => column_Decode_eq C L _ h) ?_
  obtain ⟨h1, hh1⟩ : ∃ h1, h1 = h.new (.cells (colV col) 55 true false) := ⟨_, rfl⟩
  have k1 : Kp None' h h1 := by rw [hh1]; exact .new _ _
  have g1 : h1.get h.next = some (.cells (colV col) 55 true false) := by rw [hh1]; exact get_new_self _ _
  obtain ⟨h6, hh6⟩ : ∃ h6, h6 = h1.new (.cells (colV col) 55 true false) := ⟨_, rfl⟩
  have k6 : Kp None' h1 h6 := by rw [hh6]; exact .new _ _
  have g6 : h6.get h1.next = some (.cells (colV col) 55 true false) := by rw [hh6]; exact get_new_self _ _
  have sc : Sl 3 55 0 h6 (.slice (some ⟨h1.next, 0, none⟩) 1 1) 1 (colV col) := .inr ⟨_, false, Nat.zero_le _, rfl, g6, rfl⟩
  have kk6 := k1.then k6
  simp only [column_Decode]
  simp only [rd, oneL_col, ← hh1, ldA3 g1, bldS_23, ← hh6]
  refine .seq (columns_spec (l := [col]) (m0 := 0) (ht.kp kk6 (fun h => h) (fun h => h)) (by simpa using sc) (by simp)) fun q ⟨kq, hq⟩ => ?_
  have kkq := kk6.then kq
  have gq := kq.get (k6.get g1 (fun h => h)) (fun h => h)
  cases hcd : colsD [col] with
  | false =>
    rw [hcd] at hq
    simp only [rd, hq, Bool.false_eq_true, if_false, show ((30 : Int) != 0) = true from rfl]
    exact .ret ⟨kkq, .inl ⟨30, by simp [DErr], rfl⟩⟩
  | true =>
    rw [hcd] at hq
    have hk := colsD_kind hcd
    have htq := ht.kp kkq (fun h => h) (fun h => h)
    simp only [rd, hq, if_true, show ((0 : Int) != 0) = false from rfl, ldA3 gq]
    refine .seq (cells_spec hk hs htq) fun w ⟨kw, hw⟩ => ?_
    have kkw := kkq.then kw
    rcases hw with ⟨e, he, hv⟩ | ⟨o, l, hv, hl, hok, sl⟩
    · simp only [rd, hv, he.bne]
      exact .ret ⟨kkw, .inl ⟨e, he, rfl⟩⟩
    · have gw := kw.get gq (fun h => h)
      simp only [rd, hv, show ((0 : Int) != 0) = false from rfl, ldA3 gw]
      refine .seq (cEncode_spec (col := col) (htq.kp kw (fun h => h) (fun h => h)) sl (by omega) hok) fun z ⟨kz, hz⟩ => ?_
      have kkz := kkw.then kz
      by_cases h0 : checkD col l = 0
      · rw [if_pos h0] at hz
        simp only [rd, hz, show ((0 : Int) != 0) = false from rfl]
        cases hseq : seq ⟨⟨columnE col l⟩⟩ s with
        | false =>
          simp only [rd, Bool.not_false]
          exact .ret ⟨kkz, .inl ⟨12, by simp [DErr], rfl⟩⟩
        | true =>
          simp only [rd, Bool.not_true]
          refine .ret ⟨kkz, .inr ⟨o, l, rfl, hok, (sl.kpN kz).low kkq.1, h0, ?_⟩⟩
          have := seq_iff.1 hseq
          rw [← this]
      · rw [if_neg h0] at hz
        simp only [rd, hz, show (checkD col l != 0) = true by simp [h0]]
        exact .ret ⟨kkz, .inl ⟨12, by simp [DErr], rfl⟩⟩
end Go.Arm
namespace Go.Arm
open Go.Proofs

/-! ## is a column there -/
def colEq (a b : Col) : Bool := (seq a.name b.name) && ((a.kind == b.kind) && ((a.null == b.null) && true))
theorem eqT_col (a b : Col) : eqT E 8 55 (colA a) (colA b) = some (colEq a b) := by kernel_rfl
theorem colEq_iff {a b : Col} : colEq a b = true ↔ a = b := by
  unfold colEq
  rw [Bool.and_true, Bool.and_eq_true, Bool.and_eq_true, seq_iff, beq_iff_eq, beq_iff_eq]
  constructor
  · rintro ⟨h1, h2, h3⟩
    cases a; cases b; simp_all
  · rintro rfl; exact ⟨rfl, rfl, rfl⟩
theorem Sl.curC {h : H} {v : Value} {m : Nat} {pre post : List Col} {c : Col} (s : Sl 3 55 m h v (pre ++ c :: post).length ((pre ++ c :: post).flatMap colV)) :
    ∃ b, m ≤ b ∧ idx 3 v (pre.length : Nat) = some (b, pre.length * 3) ∧ ldA 3 h b (pre.length * 3) = some (colA c) := by
  have hi : pre.length < (pre ++ c :: post).length := by simp
  obtain ⟨b, hm, hix, hce⟩ := s.get colV_len hi
  have hget : (pre ++ c :: post)[pre.length] = c := by simp
  rw [hget] at hce
  exact ⟨b, hm, hix, ldA_cells hce⟩
theorem index_loop {h : H} {v : Value} {m0 b : Nat} {c : Col} (g : h.get b = some (.cells (colV c) 55 true false)) : ∀ (post pre : List Col), Sl 3 55 m0 h v (pre ++ post).length ((pre ++ post).flatMap colV) → (pre ++ post).length < 2 ^ 40 →
    RetL E 53 2 [v, ptr b 0, .int .i64 ((pre ++ post).length : Nat), .int .i64 (pre.length : Nat)] h fun x vals h' => h' = h ∧ if post.any (colEq c) then x = 1 ∧ ∃ i : Nat, vals = [.int .i64 (i : Nat)] else x = 0
  | [], pre, hs, hn => by
    refine .of_lp rfl (fun C L => slices_Index___api_Column_api_Column__L2_eq C L _ h) ?_
    simp only [slices_Index___api_Column_api_Column__L2]
    simp only [rd, asP_ptr, List.append_nil, Int.lt_irrefl, decide_false]
    exact .ret ⟨rfl, rfl⟩
  | d :: post, pre, hs, hn => by
    refine .of_lp rfl (fun C L => slices_Index___api_Column_api_Column__L2_eq C L _ h) ?_
    have hi : pre.length < (pre ++ d :: post).length := by simp
    obtain ⟨bb, _, hix, hce⟩ := hs.curC
    simp only [slices_Index___api_Column_api_Column__L2]
    simp only [rd, asP_ptr, lt_dec hi, ldA3 g, hix, hce, eqT_col, wsucc (x := d) (show pre.length < 2 ^ 62 by omega)]
    rw [List.any_cons]
    cases colEq c d with
    | true =>
      simp only [rd]
      exact .ret ⟨rfl, rfl, pre.length, rfl⟩
    | false =>
      simp only [rd, Bool.false_or]
      rw [app_assoc1] at hs hn ⊢
      exact index_loop g post (pre ++ [d]) hs hn
theorem contains_spec {h : H} {v : Value} {m0 : Nat} {l : List Col} {c : Col} (hs : Sl 3 55 m0 h v l.length (l.flatMap colV)) (hn : l.length < 2 ^ 40) :
    Ret E 32 [v, colA c] h fun r h' => Kp None' h h' ∧ r = .bool (l.any (colEq c)) := by
  refine .of_fn rfl rfl (fun C L => slices_Contains___api_Column_api_Column__eq C L _ h) ?_
  obtain ⟨h1, hh1⟩ : ∃ h1, h1 = h.new (.cells (colV c) 55 true false) := ⟨_, rfl⟩
  have k1 : Kp None' h h1 := by rw [hh1]; exact .new _ _
  have g1 : h1.get h.next = some (.cells (colV c) 55 true false) := by rw [hh1]; exact get_new_self _ _
  simp only [slices_Contains___api_Column_api_Column_]
  simp only [rd, oneL_col, ← hh1, ldA3 g1]
  have ix : Ret E 53 [v, colA c] h1 fun r h' => Kp None' h1 h' ∧ ∃ i : Int, r = .int .i64 i ∧ decide (i ≥ 0) = l.any (colEq c) := by
    refine .of_fn rfl rfl (fun C L => slices_Index___api_Column_api_Column__eq C L _ h1) ?_
    obtain ⟨h2, hh2⟩ : ∃ h2, h2 = h1.new (.cells (colV c) 55 true false) := ⟨_, rfl⟩
    have k2 : Kp None' h1 h2 := by rw [hh2]; exact .new _ _
    have g2 : h2.get h1.next = some (.cells (colV c) 55 true false) := by rw [hh2]; exact get_new_self _ _
    simp only [slices_Index___api_Column_api_Column_]
    simp only [rd, oneL_col, ← hh2, hs.len]
    refine .seq (index_loop g2 l [] (hs.kpN (k1.then k2)) hn) fun q ⟨q1, q2⟩ => ?_
    cases ha : l.any (colEq c) with
    | true =>
      rw [ha] at q2
      obtain ⟨q2, i, q3⟩ := q2
      simp only [rd, q1, q2, q3, show ((1 : Nat) == 0) = false from rfl]
      exact .ret ⟨k2, i, rfl, by simp⟩
    | false =>
      rw [ha] at q2
      have q2 : q.1 = 0 := q2
      simp only [rd, q1, q2, show ((0 : Nat) == 0) = true from rfl]
      exact .ret ⟨k2, -1, rfl, by decide⟩
  refine .seq ix fun q ⟨kq, i, q1, q2⟩ => ?_
  simp only [rd, q1, q2]
  exact .ret ⟨k1.then kq, rfl⟩

/-! ## edits -/
structure Edt where
  row : Nat
  cel : Cel
def edtV (e : Edt) : List Value := .int .i64 (e.row : Nat) :: celV e.cel
def edtA (e : Edt) : Value := .agg ⟨edtV e⟩
theorem edtV_len (e : Edt) : (edtV e).length = 7 := rfl
theorem edtV_one (e : Edt) : (edtV e).all one = true := by simp [edtV, celV, one]
theorem bldT_47n (b : Bool) : bldT E 47 [(0, .bool b)] = some (celA { zCel with null := b }) := by kernel_rfl
theorem bldT_49 (r : Nat) (c : Cel) : bldT E 49 [(0, .int .i64 (r : Nat)), (1, celA c)] = some (edtA ⟨r, c⟩) := by kernel_rfl
theorem bldS_40 (e : Edt) : bldS E 40 1 [(0, edtA e)] = some (edtV e) := by kernel_rfl
def editE (k : Int) (next : Nat) (e : Edt) : List UInt8 := uvarE (e.row - next) ++ (if e.cel.null then [1] else 0 :: putE k e.cel)
def editsE (k : Int) : Nat → List Edt → List UInt8
  | _, [] => []
  | next, e :: l => editE k next e ++ editsE k (e.row + 1) l
abbrev ez : List Value := [(.int .i64 (0)), (.bool false), (.bool false), (.int .i64 (0)), (.int .u64 (0)), (.string (bs [])), (.complex .f64 0 0)]
theorem ez_eq : ez = edtV ⟨0, zCel⟩ := rfl
/-- an edit in a variable -/
def tmpE (h : H) (e : Edt) : H := (h.new (.cells ez 49 true false)).put h.next (some (.cells (edtV e) 49 true false))
theorem tmpE_st (h : H) (e : Edt) : stV 7 (h.new (.cells ez 49 true false)) h.next 0 (edtA e) = some (tmpE h e) := stV_full (n := 7) (get_new_self _ _) rfl rfl (edtV_one e)
theorem tmpE_get (h : H) (e : Edt) : (tmpE h e).get h.next = some (.cells (edtV e) 49 true false) := H.get_put_same _ _ _ (by rw [H.next_new]; omega)
theorem tmpE_kp (h : H) (e : Edt) : Kp None' h (tmpE h e) := (Kp.new _ _).putNew _ (Nat.le_refl _)
theorem tmpE_next (h : H) (e : Edt) : (tmpE h e).next = h.next + 1 := rfl
theorem edt_ld {h : H} {b : Nat} {e : Edt} {t : TypeId} {o l : Bool} (g : h.get b = some (.cells (edtV e) t o l)) : ldA 7 h b 0 = some (edtA e) := ldA_full g rfl
theorem edt_ldR {h : H} {b : Nat} {e : Edt} {t : TypeId} {o l : Bool} (g : h.get b = some (.cells (edtV e) t o l)) : ldI .i64 h b (0 + 0) = some (e.row : Int) := ldI_of g rfl
theorem edt_ldC {h : H} {b : Nat} {e : Edt} {t : TypeId} {o l : Bool} (g : h.get b = some (.cells (edtV e) t o l)) : ldA 6 h b (0 + 1) = some (celA e.cel) := ldA_cells (by rw [cellsAt_of g (by rw [edtV_len]; omega)]; rfl)
theorem edt_stC {h : H} {b : Nat} {e : Edt} {t : TypeId} {l : Bool} (g : h.get b = some (.cells (edtV e) t true l)) (c : Cel) : stV 6 h b (0 + 1) (celA c) = some (h.put b (some (.cells (edtV ⟨e.row, c⟩) t true l))) :=
  st_at (vs := celV c) g rfl (by rw [edtV_len]; omega) (celV_one c)

theorem rest_one {s : ByteArray} {a n m : Nat} {x y : List UInt8} (h1 : x = (rest s a).take n) (h2 : y = (rest s (a + n)).take m) : x ++ y = (rest s a).take (n + m) := by
  rw [h1, h2, take_take_rest]

theorem edits_loop {h0 : H} {p : Nat} {s : ByteArray} {k : Int} {R many : Nat} (hk : 1 ≤ k ∧ k ≤ 6) (hR : R ≤ 10000) (hmany : many ≤ 10000) (hs : s.size ≤ 2 ^ 38) (ht : Tabs h0) (hp : p < h0.next) (hp2 : 2 ≤ p) : ∀ (n : Nat) (pre : List Edt) {a next : Nat} {h : H} {v : Value}, pre.length + n = many → a ≤ s.size → Rd h p s a 0 → Kp (Only p) h0 h → next ≤ R →
    Sl 7 49 h0.next h v pre.length (pre.flatMap edtV) →
    RetL E 33 9 [ptr p 0, .int .i64 k, .int .i64 (R : Nat), v, .int .i64 (next : Nat), .int .u64 (many : Nat), .int .u64 (pre.length : Nat)] h fun b vals h' => Kp (Only p) h0 h' ∧ ((∃ (a' : Nat) (v' : Value) (post : List Edt), b = 0 ∧ vals = [v'] ∧ a ≤ a' ∧ a' ≤ s.size ∧ Rd h' p s a' 0 ∧ post.length = n ∧ (∀ e ∈ post, CelOK e.cel ∧ e.row < R) ∧
        editsE k next post = (rest s a).take (a' - a) ∧ Sl 7 49 h0.next h' v' (pre ++ post).length ((pre ++ post).flatMap edtV)) ∨
      (∃ e, DErr e ∧ b = 1 ∧ vals = [.slice none 0 0, .int .i64 e]))
  | 0, pre, a, next, h, v, hn, ha, r, kk, hnx, sl => by
    refine .of_lp rfl (fun C L => diff_edits_L9_eq C L _ h) ?_
    simp only [diff_edits_L9]
    simp only [rd, ge_dec (show many ≤ pre.length by omega)]
    exact .ret ⟨kk, .inl ⟨a, v, [], rfl, rfl, Nat.le_refl _, ha, r, rfl, by simp, by simp [editsE], by simpa using sl⟩⟩
  | n + 1, pre, a, next, h, v, hn, ha, r, kk, hnx, sl => by
    refine .of_lp rfl (fun C L => diff_edits_L9_eq C L _ h) ?_
    have ht' : ∀ {h' : H}, Kp (Only p) h0 h' → Tabs h' := fun k => ht.kp k (by simp only [Only]; omega) (by simp only [Only]; omega)
    simp only [diff_edits_L9]
    simp only [rd, lt_dec (show pre.length < many by omega)]
    refine .seq (rUvar_ok r ha hs) fun q ⟨kq, hq⟩ => ?_
    have kk1 : Kp (Only p) h0 q.2 := kk.then kq
    rcases hq with ⟨e, he, hv, r'⟩ | ⟨y, j, hv, r', hj, hy, hue, hj0⟩
    · simp only [rd, hv]
      refine .seq (err_spec r') fun z ⟨z1, z2⟩ => ?_
      simp only [rd, z1, z2, he.bne]
      refine .seq (err_spec r') fun z ⟨z1, z2⟩ => ?_
      simp only [rd, z1, z2]
      exact .ret ⟨kk1, .inr ⟨e, he.derr, rfl, rfl⟩⟩
    · have w1 : IntKind.wrap .u64 (IntKind.wrap .i64 (((R : Nat) : Int) - ((next : Nat) : Int))) = ((R - next : Nat) : Int) := by
        rw [wrap_i64 (by omega) (by omega), show ((R : Nat) : Int) - ((next : Nat) : Int) = ((R - next : Nat) : Int) by omega, wrap_u64 (by omega)]
      simp only [rd, hv, w1]
      refine .seq (err_spec r') fun z ⟨z1, z2⟩ => ?_
      simp only [rd, z1, z2, show ((0 : Int) != 0) = false from rfl]
      by_cases hgap : y < R - next
      · have d1 : decide (((y : Nat) : Int) ≥ ((R - next : Nat) : Int)) = false := by simp; omega
        simp only [rd, d1]
        refine .seq (rU8_ok r' hj hs) fun q2 ⟨kq2, hq2⟩ => ?_
        have kk2 : Kp (Only p) h0 q2.2 := kk1.then kq2
        rcases hq2 with ⟨hv2, r2⟩ | ⟨b, hv2, r2, ha2, hbe⟩
        · simp only [rd, hv2]
          refine .seq (err_spec r2) fun z ⟨z1, z2⟩ => ?_
          simp only [rd, z1, z2, show ((10 : Int) != 0) = true from rfl]
          refine .seq (err_spec r2) fun z ⟨z1, z2⟩ => ?_
          simp only [rd, z1, z2]
          exact .ret ⟨kk2, .inr ⟨10, by simp [DErr], rfl, rfl⟩⟩
        · simp only [rd, hv2]
          refine .seq (err_spec r2) fun z ⟨z1, z2⟩ => ?_
          simp only [rd, z1, z2, show ((0 : Int) != 0) = false from rfl]
          by_cases hb : b.toNat ≤ 1
          · have d2 : decide (((b.toNat : Nat) : Int) > 1) = false := by simp; omega
            have wy : IntKind.wrap .i64 (((next : Nat) : Int) + IntKind.wrap .i64 ((y : Nat) : Int)) = ((next + y : Nat) : Int) := by
              rw [wrap_i64n (n := y) (by omega), wrap_i64 (by omega) (by omega)]; omega
            have wi : IntKind.wrap .u64 (((pre.length : Nat) : Int) + 1) = ((pre.length + 1 : Nat) : Int) := wrap_u64s (by omega)
            have hz : ([(.int .i64 (0)), (.bool false), (.bool false), (.int .i64 (0)), (.int .u64 (0)), (.string (bs [])), (.complex .f64 0 0)] : List Value) = ez := rfl
            -- the edit lies in its variable
            have fin : ∀ (h3 : H) (c : Cel) (a2 : Nat), h3.get q2.2.next = some (.cells (edtV ⟨next + y, c⟩) 49 true false) → Kp (Only p) (tmpE q2.2 ⟨next + y, { zCel with null := decide (b.toNat = 1) }⟩) h3 ∨ True → Kp (Only p) h0 h3 → Rd h3 p s a2 0 → Sl 7 49 h0.next h3 v pre.length (pre.flatMap edtV) → (∀ b' n' c', v = .slice (some ⟨b', 0, none⟩) n' c' → b' < q2.2.next) → q2.2.next < h3.next → CelOK c → a + j + 1 ≤ a2 → a2 ≤ s.size → editE k next ⟨next + y, c⟩ = (rest s a).take (a2 - a) →
                W E (fun _ L => (ldA 7 h3 q2.2.next 0).bind fun v32 => (bldS E 40 1 [(0, v32)]).bind fun l33 => (appA 7 64 49 (h3.new (.cells l33 49 true false)) v (.slice (some ⟨h3.next, 0, none⟩) 1 1)).bind fun p35 => (ldI .i64 p35.2 q2.2.next (0 + 0)).bind fun x36 =>
                  L 33 9 [ptr p 0, .int .i64 k, .int .i64 (R : Nat), p35.1, (.int .i64 (IntKind.wrap .i64 (x36 + (1 : Int)))), .int .u64 (many : Nat), .int .u64 ((pre.length + 1 : Nat) : Int)] p35.2) fun z => Kp (Only p) h0 z.2.2 ∧ ((∃ (a' : Nat) (v' : Value) (post : List Edt), z.1 = 0 ∧ z.2.1 = [v'] ∧ a ≤ a' ∧ a' ≤ s.size ∧ Rd z.2.2 p s a' 0 ∧ post.length = n + 1 ∧ (∀ e ∈ post, CelOK e.cel ∧ e.row < R) ∧
                    editsE k next post = (rest s a).take (a' - a) ∧ Sl 7 49 h0.next z.2.2 v' (pre ++ post).length ((pre ++ post).flatMap edtV)) ∨ (∃ e, DErr e ∧ z.1 = 1 ∧ z.2.1 = [.slice none 0 0, .int .i64 e])) := by
              intro h3 c a2 g3 _ kk3 r3 sl3 hvb hlt3 hc ha12 ha2s hed
              have kn : Kp None' h3 (h3.new (.cells (edtV ⟨next + y, c⟩) 49 true false)) := .new _ _
              have sln := sl3.kpN kn
              have hk3 := kk3.1
              obtain ⟨v', h', a1, a2', a3⟩ := sln.app (x := .slice (some ⟨h3.next, 0, none⟩) 1 1) (bytes := 64) (srcC_blk (get_new_self _ _) (by rw [edtV_len]) 1) (by rw [edtV_len]) (edtV_one _) (by omega) (by omega) (flat_one edtV_one pre) (by unfold roomy; omega) (by rw [H.next_new]; omega)
              have g' : h'.get q2.2.next = some (.cells (edtV ⟨next + y, c⟩) 49 true false) := a3.get (kn.get g3 (fun h => h)) (fun ⟨n', c', hv'⟩ => by have := hvb _ _ _ hv'; omega)
              have wr : IntKind.wrap .i64 (((next + y : Nat) : Int) + 1) = ((next + y + 1 : Nat) : Int) := wrap_succ (by omega)
              simp only [rd, edt_ld g3, bldS_40, a1, edt_ldR g', wr]
              have r4 : Rd h' p s a2 0 := (r3.kpX kn (fun h => h)).kpX a3 (fun ⟨n', c', hv'⟩ => by have := sl3.pos p n' c' hv'; omega)
              have kk4 : Kp (Only p) h0 h' := (kk3.hi kn fun b hb => hb.elim).hi (sln.appKp a3) fun b hb => .inr hb
              have hpl : (pre ++ [(⟨next + y, c⟩ : Edt)]).length = pre.length + 1 := by simp
              have ih := edits_loop hk hR hmany hs ht hp hp2 n (pre ++ [⟨next + y, c⟩]) (a := a2) (next := next + y + 1) (h := h') (v := v') (by simp; omega) ha2s r4 kk4 (by omega) (by simpa using a2')
              rw [hpl] at ih
              refine W.mono ih fun z ⟨z1, hz⟩ => ⟨z1, ?_⟩
              rcases hz with ⟨a', v'', post, b0, hv'', haa, has, ra, hpl2, hpo, hE, slf⟩ | herr
              · refine .inl ⟨a', v'', ⟨next + y, c⟩ :: post, b0, hv'', by omega, has, ra, by simp [hpl2], ?_, ?_, by simpa using slf⟩
                · intro e he
                  rcases List.mem_cons.1 he with rfl | he
                  · exact ⟨hc, by show next + y < R; omega⟩
                  · exact hpo e he
                · have e1 : editsE k next (⟨next + y, c⟩ :: post) = editE k next ⟨next + y, c⟩ ++ editsE k (next + y + 1) post := rfl
                  have e2 : a2 = a + (a2 - a) := by omega
                  rw [e1, hed, hE]
                  have := take_take_rest s a (a2 - a) (a' - a2)
                  rw [← e2] at this
                  rw [this]
                  congr 1
                  omega
              · exact .inr herr
            have k5 := tmpE_kp q2.2 ⟨next + y, { zCel with null := decide (b.toNat = 1) }⟩
            have g5 := tmpE_get q2.2 ⟨next + y, { zCel with null := decide (b.toNat = 1) }⟩
            have r5 := r2.kpX k5 (fun h => h)
            have sl5 := ((sl.kpO kq hp).kpO kq2 hp).kpN k5
            have kk5 : Kp (Only p) h0 (tmpE q2.2 ⟨next + y, { zCel with null := decide (b.toNat = 1) }⟩) := kk2.hi k5 fun b hb => hb.elim
            have hvb : ∀ b' n' c', v = .slice (some ⟨b', 0, none⟩) n' c' → b' < q2.2.next := fun b' n' c' hv' => by
              rcases (sl.kpO kq hp).kpO kq2 hp with ⟨h0', _⟩ | ⟨b2, l2, _, hb2, hg2, _⟩
              · rw [h0'] at hv'; cases hv'
              · rw [hb2] at hv'
                cases hv'
                exact H.get_lt hg2
            have bE : (((b.toNat : Nat) : Int) == (1 : Int)) = decide (b.toNat = 1) := by
              by_cases h : b.toNat = 1
              · rw [h]; rfl
              · simp [h]; omega
            have hgapE : uvarE (next + y - next) = (rest s a).take j := by rw [show next + y - next = y by omega]; exact hue
            simp only [rd, d2, bE, bldT_47n, wy, bldT_49, hz, tmpE_st, wi]
            by_cases hb0 : b.toNat = 0
            · have b0 : b = 0 := UInt8.toNat_inj.1 hb0
              have c0 : (((b.toNat : Nat) : Int) == (0 : Int)) = true := by rw [hb0]; rfl
              simp only [rd, c0]
              refine .seq (rGet_ok hk r5 ha2 hs (ht' kk5) hp2) fun q6 ⟨kq6, hq6⟩ => ?_
              have kk6 : Kp (Only p) h0 q6.2 := kk5.then kq6
              rcases hq6 with ⟨e, a', e', he, hv6, _, _⟩ | ⟨c, m, hv6, r6, hm, hc, hcn, hpe⟩
              · simp only [rd, hv6, tmp_stA, he.bne]
                exact .ret ⟨kk6.hi (tmp_kp _ _) fun b hb => hb.elim, .inr ⟨e, he.derr, rfl, rfl⟩⟩
              · have hk2 := kk2.1
                have hlt2 : p < q2.2.next := by omega
                have g6 := kq6.get g5 (by simp only [Only]; omega)
                have kt := tmp_kp q6.2 c
                have g7 := kt.get g6 (fun h => h)
                have kk7 : Kp (Only p) h0 (tmp q6.2 c) := kk6.hi kt fun b hb => hb.elim
                obtain ⟨h8, hh8⟩ : ∃ h8, h8 = (tmp q6.2 c).put q2.2.next (some (.cells (edtV ⟨next + y, c⟩) 49 true false)) := ⟨_, rfl⟩
                have g8 : h8.get q2.2.next = some (.cells (edtV ⟨next + y, c⟩) 49 true false) := by rw [hh8]; exact H.get_put_same _ _ _ (H.get_lt g7)
                have k8 : Kp (Only q2.2.next) (tmp q6.2 c) h8 := by rw [hh8]; exact .put _ _ rfl
                have sl7 := (sl5.kpO kq6 hp).kpN kt
                have sl8 : Sl 7 49 h0.next h8 v pre.length (pre.flatMap edtV) := by
                  rcases sl7 with ⟨h0', h1'⟩ | ⟨b2, l2, hb2, hv2', hg2, hl2⟩
                  · exact .inl ⟨h0', h1'⟩
                  · exact .inr ⟨b2, l2, hb2, hv2', k8.get hg2 (by have := hvb _ _ _ hv2'; simp only [Only]; omega), hl2⟩
                simp only [rd, hv6, tmp_stA, show ((0 : Int) != 0) = false from rfl, cel_ld (tmp_get _ _), edt_stC g7, ← hh8]
                refine fin h8 c (a + j + 1 + m) g8 (.inr trivial) (kk7.hi k8 fun b hb => .inr (by rw [hb]; exact hk2)) ((r6.kpX kt (fun h => h)).kpX k8 (by simp only [Only]; omega)) sl8 hvb (H.get_lt g8) hc (by omega) hm ?_
                unfold editE
                simp only [hcn, Bool.false_eq_true, if_false]
                rw [rest_one hgapE (m := 1 + m) (y := 0 :: putE k c) ?_]
                · congr 1; omega
                · have := rest_one (a := a + j) (x := [b]) hbe hpe
                  rw [b0] at this
                  exact this
            · have c0 : (((b.toNat : Nat) : Int) == (0 : Int)) = false := by simp; omega
              have hb1 : b.toNat = 1 := by omega
              have b1 : b = 1 := UInt8.toNat_inj.1 hb1
              simp only [rd, c0]
              refine fin _ { zCel with null := decide (b.toNat = 1) } (a + j + 1) g5 (.inr trivial) kk5 r5 sl5 hvb (H.get_lt g5) ⟨zI1, zI2, zU1, zU2, zS⟩ (Nat.le_refl _) ha2 ?_
              unfold editE
              simp only [hb1, decide_true, if_true]
              rw [rest_one hgapE (m := 1) (y := [1]) (by rw [← hbe, b1])]
              congr 1; omega
          · have d2 : decide (((b.toNat : Nat) : Int) > 1) = true := by simp; omega
            simp only [rd, d2]
            exact .ret ⟨kk2, .inr ⟨12, by simp [DErr], rfl, rfl⟩⟩
      · have d1 : decide (((y : Nat) : Int) ≥ ((R - next : Nat) : Int)) = true := by simp; omega
        simp only [rd, d1]
        exact .ret ⟨kk1, .inr ⟨12, by simp [DErr], rfl, rfl⟩⟩

theorem edits_spec {h : H} {p : Nat} {s : ByteArray} {a R : Nat} {k : Int} (hk : 1 ≤ k ∧ k ≤ 6) (hR : R ≤ 10000) (hs : s.size ≤ 2 ^ 38) (ht : Tabs h) (hp2 : 2 ≤ p) (ha : a ≤ s.size) (r : Rd h p s a 0) :
    Ret E 33 [ptr p 0, .int .i64 k, .int .i64 (R : Nat)] h fun v h' => Kp (Only p) h h' ∧ ((∃ e, DErr e ∧ v = .tuple #[.slice none 0 0, .int .i64 e]) ∨
      (∃ (n : Nat) (o : Value) (l : List Edt), v = .tuple #[o, .int .i64 0] ∧ a + n ≤ s.size ∧ Rd h' p s (a + n) 0 ∧ l.length ≤ 10000 ∧ (∀ e ∈ l, CelOK e.cel ∧ e.row < R) ∧ uvarE l.length ++ editsE k 0 l = (rest s a).take n ∧ Sl 7 49 h.next h' o l.length (l.flatMap edtV))) := by
  refine .of_fn rfl rfl (fun C L => diff_edits_eq C L _ h) ?_
  simp only [diff_edits]
  simp only [rd]
  refine .seq (rUvar_ok r ha hs) fun q ⟨kq, hq⟩ => ?_
  rcases hq with ⟨e, he, hv, r'⟩ | ⟨y, n, hv, r', hn, hy, hue, _⟩
  · simp only [rd, hv]
    refine .seq (err_spec r') fun z ⟨z1, z2⟩ => ?_
    simp only [rd, z1, z2, he.bne]
    refine .seq (err_spec r') fun z ⟨z1, z2⟩ => ?_
    simp only [rd, z1, z2]
    exact .ret ⟨kq, .inl ⟨e, he.derr, rfl⟩⟩
  · simp only [rd, hv]
    refine .seq (err_spec r') fun z ⟨z1, z2⟩ => ?_
    simp only [rd, z1, z2, show ((0 : Int) != 0) = false from rfl, wrap_u64 (x := R) (by omega)]
    by_cases hy2 : y ≤ R
    · have d1 : decide (((y : Nat) : Int) > ((R : Nat) : Int)) = false := by simp; omega
      simp only [rd, d1]
      refine .seq (edits_loop (h0 := h) hk hR (show y ≤ 10000 by omega) hs ht r.lt hp2 y [] (a := a + n) (next := 0) (by simp) hn r' kq (Nat.zero_le _) .nil) fun w ⟨w1, hw⟩ => ?_
      rcases hw with ⟨a', v', l, b0, hv2, haa, has, ra, hl, hok, hE, sl⟩ | ⟨e, he, b1, hv2⟩
      · simp only [rd, b0, hv2, show ((0 : Nat) == 0) = true from rfl]
        have e2 : a' = a + (n + (a' - (a + n))) := by omega
        refine .ret ⟨w1, .inr ⟨n + (a' - (a + n)), v', l, rfl, by omega, by rw [← e2]; exact ra, by omega, hok, ?_, by simpa using sl⟩⟩
        rw [hl]
        exact rest_one hue hE
      · simp only [rd, b1, hv2, show ((1 : Nat) == 0) = false from rfl]
        exact .ret ⟨w1, .inl ⟨e, he, rfl⟩⟩
    · have d1 : decide (((y : Nat) : Int) > ((R : Nat) : Int)) = true := by simp; omega
      simp only [rd, d1]
      exact .ret ⟨kq, .inl ⟨12, by simp [DErr], rfl⟩⟩
end Go.Arm
