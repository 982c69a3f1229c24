/- Specs: plain.
   Specs: runs are written.
   Specs: runs are read.
   Plain laws: floats that are whole numbers: sums, opposites.
   Specs: steps are written.
   Specs: steps are read.
   Specs: dictionaries. -/
import Derived.Test.YtcambejnmifhmaaGreatDoorArm9
import Derived.Test.YtcambejnmifhmaaGreatDoorArm7
namespace Go.Arm
open Go.Proofs

/-- a cell in a variable -/
def tmp (h : H) (c : Cel) : H := (h.new (.cells cz 47 true false)).put h.next (some (.cells (celV c) 47 true false))
theorem tmp_st (h : H) (c : Cel) : stV 6 (h.new (.cells cz 47 true false)) h.next 0 (.agg ⟨celV c⟩) = some (tmp h c) := cel_st (get_new_self _ _) rfl c
theorem tmp_stA (h : H) (c : Cel) : stV 6 (h.new (.cells cz 47 true false)) h.next 0 (celA c) = some (tmp h c) := tmp_st h c
theorem tmp_get (h : H) (c : Cel) : (tmp h c).get h.next = some (.cells (celV c) 47 true false) := H.get_put_same _ _ _ (by rw [H.next_new]; omega)
theorem tmp_kp (h : H) (c : Cel) : Kp None' h (tmp h c) := (Kp.new _ _).putNew _ (Nat.le_refl _)
theorem tmp_next (h : H) (c : Cel) : (tmp h c).next = h.next + 1 := rfl
theorem lt_dec {i n : Nat} (h : i < n) : decide (((i : Nat) : Int) < ((n : Nat) : Int)) = true := by simp; omega
theorem ge_dec {i n : Nat} (h : n ≤ i) : decide (((i : Nat) : Int) < ((n : Nat) : Int)) = false := by simp; omega
theorem wsucc {α : Type} {pre : List α} {x : α} (h : pre.length < 2 ^ 62) : IntKind.wrap .i64 (((pre.length : Nat) : Int) + 1) = (((pre ++ [x]).length : Nat) : Int) := by rw [wrap_succ (by omega)]; simp
theorem app_assoc1 {α : Type} (pre post : List α) (x : α) : pre ++ x :: post = (pre ++ [x]) ++ post := by simp
/-- the element at hand -/
theorem Sl.cur {h : H} {v : Value} {m : Nat} {pre post : List Cel} {c : Cel} (s : Sl 6 47 m h v (pre ++ c :: post).length ((pre ++ c :: post).flatMap celV)) :
    ∃ b, m ≤ b ∧ idx 6 v (pre.length : Nat) = some (b, pre.length * 6) ∧ ldA 6 h b (pre.length * 6) = some (.agg ⟨celV c⟩) := by
  have hi : pre.length < (pre ++ c :: post).length := by simp
  obtain ⟨b, hm, hix, hce⟩ := s.get celV_len hi
  have hget : (pre ++ c :: post)[pre.length] = c := by simp
  rw [hget] at hce
  exact ⟨b, hm, hix, ldA_cells hce⟩
theorem Sl.curB {h : H} {v : Value} {m : Nat} {e : TypeId} {pre post : List Bool} {x : Bool} (s : Sl 1 e m h v (pre ++ x :: post).length (bV (pre ++ x :: post))) :
    ∃ b, m ≤ b ∧ idx 1 v (pre.length : Nat) = some (b, pre.length) ∧ ldB h b pre.length = some x := by
  have hi : pre.length < (pre ++ x :: post).length := by simp
  obtain ⟨b, hm, hix, hce⟩ := s.get1 hi
  have hget : (pre ++ x :: post)[pre.length] = x := by simp
  rw [bV_at hi, hget] at hce
  exact ⟨b, hm, hix, ldB_cell hce⟩

theorem putE_len {k : Int} {c : Cel} (hc : CelOK c) : (putE k c).length ≤ 20 + c.s.size := by
  have hs := hc.s
  have h2 : c.s.data.toList.length = c.s.size := size_toList c.s
  unfold putE
  split
  · simp only [List.length_singleton]; omega
  split
  · rw [fixE_length]; omega
  split
  · rw [fixE_length]; omega
  split
  · have : (uvarE c.s.size).length ≤ 10 := uvarE_len (by omega)
    rw [List.length_append]; omega
  split
  · have h1 : (uvarE (zig (pointP c.re c.im).1)).length ≤ 10 := uvarE_len (zigI_eq _).2
    have h3 : (uvarE (zig (pointP c.re c.im).2)).length ≤ 10 := uvarE_len (zigI_eq _).2
    rw [List.length_append]; omega
  · simp

/-! ## Encode -/
def plainE (k : Int) (l : List Cel) : List UInt8 := if k = 1 then packE (l.map (·.b)) else l.flatMap (putE k)

theorem bits_loop {h0 : H} {v o : Value} {m0 : Nat} : ∀ (post pre : List Cel) (l : List Bool) {h : H}, Sl 6 47 m0 h0 v (pre ++ post).length ((pre ++ post).flatMap celV) → (pre ++ post).length < 2 ^ 60 → Kp None' h0 h → Sl 1 4 h0.next h o (pre ++ post).length (bV l) →
    l.length = (pre ++ post).length → l.take pre.length = pre.map (·.b) →
    RetL E 102 4 [o, v, .int .i64 ((pre ++ post).length : Nat), .int .i64 (pre.length : Nat)] h fun b vals h' => Kp None' h0 h' ∧ b = 0 ∧ vals = [o] ∧ Sl 1 4 h0.next h' o (pre ++ post).length (bV ((pre ++ post).map (·.b)))
  | [], pre, l, h, hs, hn, k, so, hl, ht => by
    refine .of_lp rfl (fun C L => plain_Encode_L4_eq C L _ h) ?_
    simp only [plain_Encode_L4]
    simp only [rd, List.append_nil, Int.lt_irrefl, decide_false]
    rw [List.append_nil] at so hl
    rw [← hl, List.take_length] at ht
    exact .ret ⟨k, rfl, rfl, by rw [← ht]; exact so⟩
  | c :: post, pre, l, h, hs, hn, k, so, hl, ht => by
    refine .of_lp rfl (fun C L => plain_Encode_L4_eq C L _ h) ?_
    have hi : pre.length < (pre ++ c :: post).length := by simp
    obtain ⟨b, _, hix, hce⟩ := (hs.kpN k).cur
    have k2 := tmp_kp h c
    have lB : ldB (tmp h c) h.next (0 + 1) = some c.b := ldB_of (tmp_get h c) rfl
    obtain ⟨ob, h3, ho1, ho2, ho3, ho4⟩ := (so.kpN k2).set1 hi (.bool c.b) rfl
    simp only [plain_Encode_L4]
    simp only [rd, lt_dec hi, hix, hce, tmp_st, lB, ho1, ho2, wsucc (x := c) (show pre.length < 2 ^ 62 by omega)]
    have e1 : (bV l).set pre.length (.bool c.b) = bV (l.set pre.length c.b) := by simp [bV, List.map_set]
    rw [e1] at ho3
    rw [app_assoc1] at hs hn ho3 hl ⊢
    refine bits_loop post (pre ++ [c]) (l.set pre.length c.b) hs hn ((k.then k2).hi ho4 fun b hb => .inr hb) ho3 (by simpa using hl) ?_
    have hlt : pre.length < l.length := by rw [hl]; simp
    simp only [List.length_append, List.length_singleton, List.map_append, List.map_cons, List.map_nil]
    rw [List.take_add_one, List.take_set_of_le (Nat.le_refl _), ht, List.getElem?_set_self hlt]
    rfl

theorem plainE_loop {h0 : H} {v : Value} {m0 p : Nat} {k : Int} : ∀ (post pre : List Cel) {h : H} {l : List UInt8}, Sl 6 47 m0 h0 v (pre ++ post).length ((pre ++ post).flatMap celV) → (∀ c ∈ post, CelOK c) → (pre ++ post).length < 2 ^ 40 → WA h0 h p l → l.length + sizeD post ≤ 2 ^ 37 →
    RetL E 102 11 [.int .i64 k, ptr p 0, v, .int .i64 ((pre ++ post).length : Nat), .int .i64 (pre.length : Nat)] h fun b vals h' => b = 0 ∧ vals = [ptr p 0] ∧ WA h0 h' p (l ++ post.flatMap (putE k))
  | [], pre, h, l, hs, hok, hn, w, hl => by
    refine .of_lp rfl (fun C L => plain_Encode_L11_eq C L _ h) ?_
    simp only [plain_Encode_L11]
    simp only [rd, asP_ptr, List.append_nil, Int.lt_irrefl, decide_false]
    exact .ret ⟨rfl, rfl, by simpa using w⟩
  | c :: post, pre, h, l, hs, hok, hn, w, hl => by
    refine .of_lp rfl (fun C L => plain_Encode_L11_eq C L _ h) ?_
    have hi : pre.length < (pre ++ c :: post).length := by simp
    obtain ⟨b, _, hix, hce⟩ := (hs.kpN w.k).cur
    have hc := hok c (by simp)
    have hpl := putE_len (k := k) hc
    have hcs := hc.s
    simp only [sizeD] at hl
    simp only [plain_Encode_L11]
    simp only [rd, asP_ptr, lt_dec hi, hix, hce, tmp_st, cel_ld (tmp_get h c), wsucc (x := c) (show pre.length < 2 ^ 62 by omega)]
    have w2 := w.other (tmp_kp h c)
    refine .seq (cPut_spec (k := k) hc w2.w (by omega)) fun q ⟨_, q2, q3⟩ => ?_
    have w3 := w2.step q2 q3
    rw [app_assoc1] at hs hn ⊢
    refine W.mono (plainE_loop post (pre ++ [c]) hs (fun d hd => hok d (by simp [hd])) hn w3 (by rw [List.length_append]; omega)) fun r ⟨r1, r2, r3⟩ => ⟨r1, r2, ?_⟩
    rw [List.flatMap_cons, ← List.append_assoc]
    exact r3

theorem plainE_spec {h : H} {v : Value} {m0 : Nat} {k : Int} {l : List Cel} (hs : Sl 6 47 m0 h v l.length (l.flatMap celV)) (hok : ∀ c ∈ l, CelOK c) (hn : l.length < 2 ^ 30) (hz : sizeD l ≤ 2 ^ 36) :
    Ret E 102 [.int .i64 k, v] h fun r h' => Kp None' h h' ∧ r = .string ⟨⟨plainE k l⟩⟩ := by
  refine .of_fn rfl rfl (fun C L => plain_Encode_eq C L _ h) ?_
  simp only [plain_Encode]
  unfold plainE
  by_cases hk : k = 1
  · subst hk
    simp only [rd, show ((1 : Int) == 1) = true from rfl, hs.len, mkS_of (bytes := 1) (n := l.length) (e := 4) (zero := [.bool false]) (h := h) (by unfold roomy; omega) rfl, if_true]
    have hmk : Sl 1 4 h.next _ _ l.length (List.replicate l.length (.bool false)) := Sl.mk1 (h := h)
    have e1 : List.replicate l.length (Value.bool false) = bV (List.replicate l.length false) := by simp [bV]
    rw [e1] at hmk
    refine .seq (bits_loop (h0 := h) (pre := []) l (List.replicate l.length false) hs (by simp; omega) (.new _ _) hmk (by simp) (by simp)) fun q ⟨q1, _, q3, q4⟩ => ?_
    simp only [rd, q3]
    refine .seq (pack_spec (l := l.map (·.b)) (by simpa using q4) (by simp; omega)) fun z ⟨z1, z2⟩ => ?_
    simp only [rd, z2]
    exact .ret ⟨q1.then z1, rfl⟩
  · have hk' : (k == 1) = false := by simp [hk]
    simp only [rd, hk', hs.len, hk, if_false]
    refine .seq (plainE_loop (h0 := h) (pre := []) l hs hok (by simp; omega) (WA.make (.refl _ _)) (by simp; omega)) fun r ⟨r1, r2, r3⟩ => ?_
    simp only [rd, r2, asP_ptr]
    refine .seq (string_spec r3.w) fun z ⟨z1, z2⟩ => ?_
    simp only [rd, z1, z2]
    exact .ret ⟨r3.k, by simp⟩

/-! ## Decode -/
/-- cells, or what is wrong -/
def DecR (h h' : H) (v : Value) : Prop := (∃ e, DErr e ∧ v = .tuple #[.slice none 0 0, .int .i64 e]) ∨ (∃ o, ∃ l : List Cel, v = .tuple #[o, .int .i64 0] ∧ l.length ≤ 10000 ∧ (∀ c ∈ l, CelOK c) ∧ Sl 6 47 h.next h' o l.length (l.flatMap celV))

theorem bools_loop {h0 : H} {v o : Value} {m0 : Nat} : ∀ (post pre : List Bool) (out : List Cel) {h : H}, Sl 1 4 m0 h0 v (pre ++ post).length (bV (pre ++ post)) → (pre ++ post).length < 2 ^ 60 → Kp None' h0 h → Sl 6 47 h0.next h o out.length (out.flatMap celV) →
    out.length = (pre ++ post).length → (∀ c ∈ out, CelOK c) →
    RetL E 111 6 [o, v, .int .i64 ((pre ++ post).length : Nat), .int .i64 (pre.length : Nat)] h fun b vals h' => Kp None' h0 h' ∧ b = 0 ∧ vals = [o] ∧ ∃ out' : List Cel, out'.length = (pre ++ post).length ∧ (∀ c ∈ out', CelOK c) ∧ Sl 6 47 h0.next h' o out'.length (out'.flatMap celV)
  | [], pre, out, h, hs, hn, k, so, hl, hout => by
    refine .of_lp rfl (fun C L => plain_bools_L6_eq C L _ h) ?_
    simp only [plain_bools_L6]
    simp only [rd, List.append_nil, Int.lt_irrefl, decide_false]
    exact .ret ⟨k, rfl, rfl, out, by simpa using hl, hout, so⟩
  | x :: post, pre, out, h, hs, hn, k, so, hl, hout => by
    refine .of_lp rfl (fun C L => plain_bools_L6_eq C L _ h) ?_
    have hi : pre.length < (pre ++ x :: post).length := by simp
    obtain ⟨b, _, hix, hce⟩ := (hs.kpN k).curB
    have hio : pre.length < out.length := by rw [hl]; exact hi
    obtain ⟨ob, lo, hob, rfl, hg, hgl⟩ := so.blk (by omega)
    have ho1 := idx_at (w := 6) (b := ob) (c := out.length) hio
    have hln : pre.length * 6 + 6 ≤ (out.flatMap celV).length := by rw [flat_len celV_len]; omega
    have s1 := stV1_of (v := .bool x) (o := pre.length * 6 + 1) hg (by omega) rfl
    have e1 : (out.flatMap celV).set (pre.length * 6 + 1) (.bool x) = (out.set pre.length { out[pre.length] with b := x }).flatMap celV := by
      rw [← flat_set celV_len _ out _ hio]
      apply List.ext_getElem?
      intro j
      rw [List.getElem?_set, setAt_get _ _ _ _ (by rw [celV_len]; omega), celV_len]
      have hfa := flat_at celV_len out pre.length hio
      by_cases hj2 : pre.length * 6 ≤ j ∧ j < pre.length * 6 + 6
      · obtain ⟨i, rfl⟩ : ∃ i, j = pre.length * 6 + i := ⟨j - pre.length * 6, by omega⟩
        rw [if_pos hj2]
        have : (((out.flatMap celV).drop (pre.length * 6)).take 6)[i]? = (celV out[pre.length])[i]? := by rw [hfa]
        rw [List.getElem?_take, if_pos (by omega), List.getElem?_drop] at this
        have hii : pre.length * 6 + i - pre.length * 6 = i := by omega
        rw [hii]
        by_cases hi1 : i = 1
        · subst hi1
          rw [if_pos rfl, if_pos (by omega)]
          rfl
        · rw [if_neg (by omega), this]
          have : i = 0 ∨ i = 2 ∨ i = 3 ∨ i = 4 ∨ i = 5 := by omega
          rcases this with rfl | rfl | rfl | rfl | rfl <;> rfl
      · rw [if_neg (by omega), if_neg hj2]
    rw [e1] at s1
    have kput : Kp (fun b => h0.next ≤ b) h (h.put ob (some (.cells ((out.set pre.length { out[pre.length] with b := x }).flatMap celV) 47 true lo))) := .put _ _ hob
    simp only [plain_bools_L6]
    simp only [rd, lt_dec hi, hix, hce, ho1, s1, wsucc (x := x) (show pre.length < 2 ^ 62 by omega)]
    rw [app_assoc1] at hs hn hl ⊢
    refine bools_loop post (pre ++ [x]) (out.set pre.length { out[pre.length] with b := x }) hs hn (k.hi kput fun b hb => .inr hb) ?_ (by simpa using hl) ?_
    · exact .inr ⟨ob, lo, hob, by simp, H.get_put_same _ _ _ (H.get_lt hg), by rw [flat_len celV_len]⟩
    · intro c hc
      rcases List.mem_or_eq_of_mem_set hc with hc | rfl
      · exact hout c hc
      · have := hout out[pre.length] (List.getElem_mem hio)
        exact ⟨this.i1, this.i2, this.u1, this.u2, this.s⟩

theorem bools_spec {h : H} {s : ByteArray} {N : Nat} (hN : N ≤ 10000) (hs : s.size < 2 ^ 38) : Ret E 111 [.string s, .int .i64 (N : Nat)] h fun v h' => Kp None' h h' ∧ DecR h h' v := by
  refine .of_fn rfl rfl (fun C L => plain_bools_eq C L _ h) ?_
  simp only [plain_bools]
  simp only [rd]
  refine .seq (unpack_spec (N := N) (by omega) (by omega)) fun q ⟨k1, hq⟩ => ?_
  rcases hq with ⟨e, he, hv⟩ | ⟨o, l, hv, hl, sl⟩
  · simp only [rd, hv, he.bne]
    exact .ret ⟨k1, .inl ⟨e, he, rfl⟩⟩
  · have hz : ([(.bool false), (.bool false), (.int .i64 (0)), (.int .u64 (0)), (.string (bs [])), (.complex .f64 0 0)] : List Value) = celV zCel := rfl
    have hmk0 := mkS_of (bytes := 56) (n := N) (e := 47) (zero := celV zCel) (h := q.2) (by unfold roomy; omega) (celV_one _)
    have hmk := Sl.mkF (n := N) (e := 47) (h := q.2) (z := zCel) celV_len
    simp only [rd, hv, show ((0 : Int) != 0) = false from rfl, hz, hmk0, sl.len]
    refine .seq (bools_loop (h0 := q.2) (pre := []) l (List.replicate N zCel) sl (by simp; omega) (.new _ _) (by simpa using hmk) (by simp [hl]) (fun c hc => by rw [(List.mem_replicate.1 hc).2]; exact zCel_ok)) fun z ⟨z1, _, z3, out, o1, o2, o3⟩ => ?_
    simp only [rd, z3]
    have := k1.1
    exact .ret ⟨k1.then z1, .inr ⟨_, out, rfl, by simp at o1; omega, o2, o3.low (by omega)⟩⟩

theorem plainD_loop {h0 : H} {p : Nat} {s : ByteArray} {k : Int} {N : Nat} (hk : 1 ≤ k ∧ k ≤ 6) (hN : N ≤ 10000) (hs : s.size ≤ 2 ^ 38) (ht : Tabs h0) (hp : h0.next ≤ p) (hp2 : 2 ≤ p) : ∀ (n : Nat) (pre : List Cel) {a : Nat} {h : H} {v : Value}, pre.length + n = N → a ≤ s.size → Rd h p s a 0 → Kp None' h0 h →
    Sl 6 47 (p + 1) h v pre.length (pre.flatMap celV) → (∀ c ∈ pre, CelOK c) →
    RetL E 103 10 [.int .i64 k, ptr p 0, v, .int .i64 (N : Nat), .int .i64 (pre.length : Nat)] h fun b vals h' => Kp None' h0 h' ∧ ((∃ (a' : Nat) (v' : Value) (l : List Cel), b = 0 ∧ vals = [ptr p 0, v'] ∧ a' ≤ s.size ∧ Rd h' p s a' 0 ∧ l.length = N ∧ (∀ c ∈ l, CelOK c) ∧ Sl 6 47 (p + 1) h' v' l.length (l.flatMap celV)) ∨
      (∃ e, DErr e ∧ b = 1 ∧ vals = [.slice none 0 0, .int .i64 e]))
  | 0, pre, a, h, v, hn, ha, r, kk, sl, hok => by
    refine .of_lp rfl (fun C L => plain_Decode_L10_eq C L _ h) ?_
    simp only [plain_Decode_L10]
    simp only [rd, ge_dec (show N ≤ pre.length by omega)]
    exact .ret ⟨kk, .inl ⟨a, v, pre, rfl, rfl, ha, r, by omega, hok, sl⟩⟩
  | n + 1, pre, a, h, v, hn, ha, r, kk, sl, hok => by
    refine .of_lp rfl (fun C L => plain_Decode_L10_eq C L _ h) ?_
    simp only [plain_Decode_L10]
    simp only [rd, lt_dec (show pre.length < N by omega)]
    refine .seq (rGet_ok hk r ha hs (ht.kp kk (fun h => h) (fun h => h)) hp2) fun q ⟨kq, hq⟩ => ?_
    have kk1 := kk.hiO kq hp
    rcases hq with ⟨e, a', e', he, hv, ha', r'⟩ | ⟨c, m, hv, r', hm, hc, _, _⟩
    · simp only [rd, hv, tmp_stA, he.bne]
      exact .ret ⟨kk1.then (tmp_kp _ _), .inr ⟨e, he.derr, rfl, rfl⟩⟩
    · have kt := tmp_kp q.2 c
      have kn : Kp None' (tmp q.2 c) ((tmp q.2 c).new (.cells (celV c) 47 true false)) := .new _ _
      have hk1 := kk1.1
      have hlt := r'.lt
      obtain ⟨v', h', a1, a2, a3⟩ := (((sl.kpO kq (by omega)).kpN kt).kpN kn).app1 (bytes := 56) (x := c) celV_len celV_one (get_new_self _ _) (by omega) (by unfold roomy; omega) (by rw [H.next_new, tmp_next]; omega)
      simp only [rd, hv, tmp_stA, show ((0 : Int) != 0) = false from rfl, cel_ld (tmp_get _ _), bldS_41, a1, wsucc (x := c) (show pre.length < 2 ^ 62 by omega)]
      refine plainD_loop hk hN hs ht hp hp2 n (pre ++ [c]) (a := a + m) (by simp; omega) hm (((r'.kpX kt (fun h => h)).kpX kn (fun h => h)).kpX a3 (by omega)) (((kk1.then kt).then kn).hi a3 fun b hb => .inr (by omega)) a2 ?_
      intro d hd
      rcases List.mem_append.1 hd with hd | hd
      · exact hok d hd
      · rw [List.mem_singleton.1 hd]; exact hc

theorem plainD_spec {h : H} {s : ByteArray} {k : Int} {N : Nat} (hk : 1 ≤ k ∧ k ≤ 6) (hN : N ≤ 10000) (hs : s.size < 2 ^ 38) (ht : Tabs h) : Ret E 103 [.int .i64 k, .string s, .int .i64 (N : Nat)] h fun v h' => Kp None' h h' ∧ DecR h h' v := by
  have h2 : 2 ≤ h.next := by
    obtain ⟨t, t', _, h1⟩ := ht
    have := H.get_lt h1; omega
  refine .of_fn rfl rfl (fun C L => plain_Decode_eq C L _ h) ?_
  simp only [plain_Decode]
  simp only [rd]
  refine .seq (is_spec k h) fun q ⟨q1, q2⟩ => ?_
  have d1 : decide (((N : Nat) : Int) < 0) = false := by simp
  have d2 : decide (((N : Nat) : Int) > 10000) = false := by simp; omega
  simp only [rd, q1, q2, hk, and_self, decide_true, Bool.not_true, d1, d2]
  by_cases hk1 : k = 1
  · subst hk1
    simp only [rd, show ((1 : Int) == 1) = true from rfl]
    refine .seq (bools_spec hN hs) fun z ⟨z1, z2⟩ => ?_
    rcases z2 with ⟨e, he, hv⟩ | ⟨o, l, hv, h3, h4, h5⟩
    · simp only [rd, hv]
      exact .ret ⟨z1, .inl ⟨e, he, rfl⟩⟩
    · simp only [rd, hv]
      exact .ret ⟨z1, .inr ⟨o, l, rfl, h3, h4, h5⟩⟩
  · simp only [rd, show (k == 1) = false by simp [hk1]]
    refine .seq (read_spec s h) fun q1 ⟨hv1, r1, k1⟩ => ?_
    simp only [rd, hv1]
    refine .seq (plainD_loop (h0 := h) hk hN (by omega) ht (Nat.le_refl _) h2 N [] (a := 0) (by simp) (Nat.zero_le _) r1 k1 .nil (by simp)) fun z ⟨z1, hz⟩ => ?_
    rcases hz with ⟨a', v', l, b0, hv, ha', r', hl, hok, sl⟩ | ⟨e, he, b1, hv⟩
    · simp only [rd, b0, hv, show ((0 : Nat) == 0) = true from rfl]
      refine .seq (done_spec r' ha' (by omega)) fun y ⟨hy, hq⟩ => ?_
      rcases hq with ⟨he, _⟩ | ⟨_, _, hv3⟩ | ⟨_, _, hv3⟩
      · exact absurd rfl he
      · simp only [rd, hv3, hy, show ((11 : Int) != 0) = true from rfl]
        exact .ret ⟨z1, .inl ⟨11, by simp [DErr], rfl⟩⟩
      · simp only [rd, hv3, hy, show ((0 : Int) != 0) = false from rfl]
        exact .ret ⟨z1, .inr ⟨v', l, rfl, by omega, hok, sl.low (by omega)⟩⟩
    · simp only [rd, b1, hv, show ((1 : Nat) == 0) = false from rfl]
      exact .ret ⟨z1, .inl ⟨e, he, rfl⟩⟩

end Go.Arm
namespace Go.Arm
open Go.Proofs

/-- a run -/
def runV (c : Cel) (n : Int) : List Value := celV c ++ [.int .i64 n]
theorem runV_len (c : Cel) (n : Int) : (runV c n).length = 7 := rfl
theorem runV_one (c : Cel) (n : Int) : (runV c n).all one = true := by simp [runV, celV, one]
theorem bldT_166 (c : Cel) (n : Int) : bldT E 166 [(0, celA c), (1, .int .i64 n)] = some (.agg ⟨runV c n⟩) := by kernel_rfl

/-- a writer, seen from a heap that it lies in -/
structure WB (h1 h : H) (p : Nat) (l : List UInt8) : Prop where
  k : Kp (Only p) h1 h
  w : Wr h p l
  b : ∀ k, Buf h p k → h1.next ≤ k
theorem WB.other {h1 h h' : H} {p : Nat} {l : List UInt8} (a : WB h1 h p l) (k : Kp None' h h') : WB h1 h' p l := by
  obtain ⟨w, hb⟩ := a.w.kp k (fun h => h) (fun _ _ h => h)
  exact ⟨a.k.hi k fun _ h => h.elim, w, fun b h => a.b b (hb b h)⟩
theorem WB.step {h1 h h' : H} {p : Nat} {l l' : List UInt8} (a : WB h1 h p l) (w : Wr h' p l') (k : KpW p h h') : WB h1 h' p l' := by
  refine ⟨⟨Nat.le_trans a.k.1 k.next, fun b hb hx => ?_⟩, w, fun b hb => (k.buf b hb).elim (a.b b) fun h => Nat.le_trans a.k.1 h⟩
  have := a.k.1
  rw [k.keep b (by omega) hx (fun h => by have := a.b b h; omega), a.k.2 b hb hx]

def runLen (k : Int) : Cel → List Cel → Nat
  | _, [] => 0
  | c, d :: l => if equD k c d then runLen k d l + 1 else 0
theorem runLen_le (k : Int) : ∀ (l : List Cel) (c : Cel), runLen k c l ≤ l.length
  | [], _ => Nat.le_refl _
  | d :: l, c => by
    have := runLen_le k l d
    simp only [runLen, List.length_cons]
    split <;> omega
def runsE (k : Int) : List Cel → List UInt8
  | [] => []
  | c :: l => uvarE (runLen k c l + 1) ++ putE k c ++ runsE k (l.drop (runLen k c l))
  termination_by l => l.length
  decreasing_by simp; omega

/-- the loop's body -/
theorem body_spec {h : H} {p kb : Nat} {l : List UInt8} {k : Int} {c : Cel} {n : Nat} {vals : List Value} (hv : vals.length = 20) (v5 : lget vals 5 = ptr p 0) (v2 : lget vals 2 = ptr kb 0) (w : Wr h p l) (hkb : ∀ h', KpW p h h' → h'.get kb = some (.cells [.int .i64 k] 3 true false))
    (hc : CelOK c) (hn : n < 2 ^ 62) (hl : l.length + 60 + c.s.size ≤ 2 ^ 38) :
    RetL E 104 2000003 (vals ++ [.agg ⟨runV c n⟩]) h fun b _ h' => b = 0 ∧ Wr h' p (l ++ (uvarE n ++ putE k c)) ∧ KpW p h h' := by
  refine .of_lp rfl (fun C L => runs_Encode_R3_eq C L _ h) ?_
  have hlen : Nat.beq (vals ++ [Value.agg ⟨runV c n⟩]).length 21 = true := by simp [hv]
  obtain ⟨a0, a1, a2, a3, a4, a5, a6, a7, a8, a9, a10, a11, a12, a13, a14, a15, a16, a17, a18, a19, rfl⟩ : ∃ a0 a1 a2 a3 a4 a5 a6 a7 a8 a9 a10 a11 a12 a13 a14 a15 a16 a17 a18 a19, vals = [a0, a1, a2, a3, a4, a5, a6, a7, a8, a9, a10, a11, a12, a13, a14, a15, a16, a17, a18, a19] := by
    match vals, hv with
    | [a0, a1, a2, a3, a4, a5, a6, a7, a8, a9, a10, a11, a12, a13, a14, a15, a16, a17, a18, a19], _ => exact ⟨a0, a1, a2, a3, a4, a5, a6, a7, a8, a9, a10, a11, a12, a13, a14, a15, a16, a17, a18, a19, rfl⟩
  simp only [lget] at v5 v2
  subst v5 v2
  have hz : ([(.bool false), (.bool false), (.int .i64 (0)), (.int .u64 (0)), (.string (bs [])), (.complex .f64 0 0), (.int .i64 (0))] : List Value) = runV zCel 0 := rfl
  obtain ⟨h1, hh1⟩ : ∃ h1, h1 = h.new (.cells (runV zCel 0) 166 true false) := ⟨_, rfl⟩
  have g1 : h1.get h.next = some (.cells (runV zCel 0) 166 true false) := by rw [hh1]; exact get_new_self _ _
  have s1 : stV 7 h1 h.next 0 (.agg ⟨runV c n⟩) = some (h1.put h.next (some (.cells (runV c n) 166 true false))) := stV_full (n := 7) g1 rfl rfl (runV_one _ _)
  obtain ⟨h2, hh2⟩ : ∃ h2, h2 = h1.put h.next (some (.cells (runV c n) 166 true false)) := ⟨_, rfl⟩
  have g2 : h2.get h.next = some (.cells (runV c n) 166 true false) := by rw [hh2]; exact H.get_put_same _ _ _ (H.get_lt g1)
  have k2 : Kp None' h h2 := by rw [hh2, hh1]; exact (Kp.new _ _).putNew _ (Nat.le_refl _)
  obtain ⟨w2, wb2⟩ := w.kp k2 (fun h => h) (fun _ _ h => h)
  have kw2 : KpW p h h2 := ⟨k2.1, fun b hb _ _ => k2.2 b hb (fun h => h), fun b hb => .inl (wb2 b hb)⟩
  have lI : ldI .i64 h2 h.next (0 + 6) = some (n : Int) := ldI_of g2 rfl
  have wn : IntKind.wrap .u64 (n : Int) = (n : Int) := wrap_u64 (by omega)
  have hul : (uvarE n).length ≤ 10 := uvarE_len (by omega)
  simp only [runs_Encode_R3]
  simp only [rd, hlen, List.cons_append, List.nil_append, hz, ← hh1, s1, ← hh2, lI, wn]
  refine .seq (uvar_spec (x := n) (by omega) w2 (by omega)) fun q ⟨_, q2, q3⟩ => ?_
  have kw3 := kw2.trans q3
  have lk : ldI .i64 q.2 kb 0 = some k := ldI_of (hkb q.2 kw3) rfl
  have hpb : h.next ≠ p := by have := w.lt; omega
  have g3 : q.2.get h.next = some (.cells (runV c n) 166 true false) := by
    rw [q3.keep h.next (H.get_lt g2) hpb (fun hb => by
      have h1 := wb2 _ hb
      have := H.get_lt (w.buf h1).1; omega)]
    exact g2
  have lc : ldA 6 q.2 h.next (0 + 0) = some (celA c) := ldA_cells (by rw [cellsAt_of g3 (by rw [runV_len]; omega)]; rfl)
  simp only [rd, asP_ptr, lk, lc]
  refine .seq (cPut_spec (k := k) hc q2 (by rw [List.length_append]; omega)) fun z ⟨_, z2, z3⟩ => ?_
  exact .ret ⟨rfl, by rw [← List.append_assoc]; exact z2, kw3.trans z3⟩

abbrev yl (l : Nat) : Value := .func (.yield l) #[] #[]
theorem Wr.putX {h : H} {p : Nat} {l : List UInt8} (w : Wr h p l) (b : Nat) (x : Option Blk) (hb : b ≠ p) (hn : ¬ Buf h p b) : Wr (h.put b x) p l ∧ ∀ k, Buf (h.put b x) p k → Buf h p k :=
  w.kp (.put (X := fun k => k = b) h x rfl) (fun e => hb e.symm) fun k hk e => hn (e ▸ hk)
theorem yield_spec {h1 h : H} {p kb lp : Nat} {l : List UInt8} {k : Int} {c : Cel} {n : Nat} {vals : List Value} (hv : vals.length = 20) (v5 : lget vals 5 = ptr p 0) (v2 : lget vals 2 = ptr kb 0) (w : WB h1 h p l)
    (gk : h1.get kb = some (.cells [.int .i64 k] 3 true false)) (gl : h1.get lp = some (.loop 104 3 vals)) (gp : ∃ v, h1.get p = some (.cells v 61 true false)) (hkp : kb ≠ p) (hc : CelOK c) (hn : n < 2 ^ 62) (hl : l.length + 60 + c.s.size ≤ 2 ^ 38) :
    W E (fun C L => callV C L (yl lp) [.agg ⟨runV c n⟩] h) fun q => q.1 = .bool true ∧ WB h1 q.2 p (l ++ (uvarE n ++ putE k c)) := by
  obtain ⟨pv, gp⟩ := gp
  have hlp : lp ≠ p := by rintro rfl; rw [gp] at gl; cases gl
  have hkl : kb ≠ lp := by rintro rfl; rw [gk] at gl; cases gl
  have hlt := H.get_lt gl
  have gh : h.get lp = some (.loop 104 3 vals) := w.k.get gl (by simp only [Only]; exact hlp)
  have hnb : ∀ b, b < h1.next → ¬ Buf h p b := fun b hb hx => by have := w.b b hx; omega
  obtain ⟨hb, hhb⟩ : ∃ hb, hb = h.put lp (some .hole) := ⟨_, rfl⟩
  obtain ⟨wb, bb⟩ := w.w.putX lp (some .hole) hlp (hnb lp hlt)
  rw [← hhb] at wb bb
  have nb : hb.next = h.next := by rw [hhb]; rfl
  have hkn := w.k.1
  have hkb : ∀ h', KpW p hb h' → h'.get kb = some (.cells [.int .i64 k] 3 true false) := by
    intro h' kw
    have hkl2 := H.get_lt gk
    rw [kw.keep kb (by omega) hkp (fun hx => hnb kb hkl2 (bb _ hx)), hhb, H.get_put_ne _ _ _ _ hkl]
    exact w.k.get gk (by simp only [Only]; exact hkp)
  have hcall : ∀ C L, callV C L (yl lp) [.agg ⟨runV c n⟩] h = (L 104 2000003 (vals ++ [.agg ⟨runV c n⟩]) hb).bind fun p => if p.1 = 0 then some (.bool true, p.2.2.put lp (some (.loop 104 3 vals))) else none := by
    intro C L
    show yieldV L lp [.agg ⟨runV c n⟩] h = _
    unfold yieldV
    rw [gh]
    simp only [hhb]
    rfl
  refine .congr hcall (.seq (body_spec hv v5 v2 wb hkb hc hn hl) fun q ⟨q1, q2, q3⟩ => ?_)
  rw [q1, if_pos rfl]
  have qn := q3.next
  have hbuf : ∀ b, Buf q.2.2 p b → h1.next ≤ b := fun b hx => (q3.buf b hx).elim (fun h => w.b b (bb b h)) (by omega)
  obtain ⟨wf, bf⟩ := q2.putX lp (some (.loop 104 3 vals)) hlp (fun hx => by have := hbuf lp hx; omega)
  refine .ret ⟨rfl, ⟨by show h1.next ≤ q.2.2.next; omega, fun b hb' hx => ?_⟩, wf, fun b hx => hbuf b (bf b hx)⟩
  show (q.2.2.put lp (some (.loop 104 3 vals))).get b = h1.get b
  by_cases hbl : b = lp
  · subst hbl
    rw [H.get_put_same _ _ _ (by omega), gl]
  · rw [H.get_put_ne _ _ _ _ hbl, q3.keep b (by omega) hx (fun h => hnb b hb' (bb b h)), hhb, H.get_put_ne _ _ _ _ hbl, w.k.2 b hb' hx]

/-- how far a run goes -/
theorem run_loop {h0 : H} {v y : Value} {m0 lb kb from' : Nat} {k : Int} (hk : 1 ≤ k ∧ k ≤ 6) : ∀ (post pre : List Cel) (c : Cel) {h : H}, Sl 6 47 m0 h0 v (pre ++ c :: post).length ((pre ++ c :: post).flatMap celV) → (pre ++ c :: post).length < 2 ^ 40 → Kp None' h0 h →
    h.get lb = some (.cells [v] 41 true false) → h.get kb = some (.cells [.int .i64 k] 3 true false) →
    RetL E 125 3 [y, ptr lb 0, ptr kb 0, .int .i64 (from' : Nat), .int .i64 ((pre.length + 1 : Nat) : Int)] h fun b vals h' => Kp None' h h' ∧ b = 0 ∧ vals = [y, ptr lb 0, ptr kb 0, .int .i64 (from' : Nat), .int .i64 ((pre.length + 1 + runLen k c post : Nat) : Int)]
  | [], pre, c, h, hs, hn, kk, gl, gk => by
    refine .of_lp rfl (fun C L => runs_each_1_L3_eq C L _ h) ?_
    have lv : ldV h lb 0 = some v := ldV_of gl rfl hs.one
    have hd : decide ((((pre.length + 1 : Nat) : Int)) < (((pre ++ [c]).length : Nat) : Int)) = false := ge_dec (by simp)
    simp only [runs_each_1_L3]
    simp only [rd, asP_ptr, lv, hs.len, hd]
    exact .ret ⟨.refl _ _, rfl, by simp [runLen]⟩
  | d :: post, pre, c, h, hs, hn, kk, gl, gk => by
    refine .of_lp rfl (fun C L => runs_each_1_L3_eq C L _ h) ?_
    have lv : ldV h lb 0 = some v := ldV_of gl rfl hs.one
    have lk : ldI .i64 h kb 0 = some k := ldI_of gk rfl
    have hd : decide ((((pre.length + 1 : Nat) : Int)) < (((pre ++ c :: d :: post).length : Nat) : Int)) = true := lt_dec (by simp)
    have w1 : IntKind.wrap .i64 (((pre.length + 1 : Nat) : Int) - 1) = (pre.length : Nat) := by simp at hn; rw [wrap_i64 (by omega) (by omega)]; omega
    have w2 : IntKind.wrap .i64 (((pre.length + 1 : Nat) : Int) + 1) = ((pre.length + 1 + 1 : Nat) : Int) := wrap_succ (by simp at hn; omega)
    obtain ⟨b1, _, i1, l1⟩ := (hs.kpN kk).cur
    have hs2 : Sl 6 47 m0 h0 v ((pre ++ [c]) ++ d :: post).length (((pre ++ [c]) ++ d :: post).flatMap celV) := by rw [← app_assoc1]; exact hs
    obtain ⟨b2, _, i2, l2⟩ := (hs2.kpN kk).cur
    have hpl : (pre ++ [c]).length = pre.length + 1 := by simp
    rw [hpl] at i2 l2
    simp only [runs_each_1_L3]
    simp only [rd, asP_ptr, lv, hs.len, hd, lk, w1, i1, l1, i2, l2]
    refine .seq (equal_spec (a := c) (b := d) hk) fun q ⟨q1, kq⟩ => ?_
    simp only [rd, q1, w2]
    unfold runLen
    cases equD k c d with
    | false => simp only [rd]; exact .ret ⟨kq, rfl, by simp⟩
    | true =>
      simp only [rd]
      have := run_loop (h0 := h0) (y := y) (from' := from') hk post (pre ++ [c]) d hs2 (by rw [app_assoc1] at hn; exact hn) (kk.then kq) (kq.get gl (fun h => h)) (kq.get gk (fun h => h))
      rw [hpl] at this
      refine this.mono fun r ⟨r1, r2, r3⟩ => ⟨kq.then r1, r2, ?_⟩
      rw [r3]
      have : pre.length + 1 + 1 + runLen k d post = pre.length + 1 + (runLen k d post + 1) := by omega
      rw [this]; rfl

theorem each_loop {h0 h1 : H} {v : Value} {m0 lb kb kb0 lp p : Nat} {k : Int} {vals : List Value} (hk : 1 ≤ k ∧ k ≤ 6) (k01 : Kp None' h0 h1) (hp0 : h0.next ≤ p) (hv : vals.length = 20) (v5 : lget vals 5 = ptr p 0) (v2 : lget vals 2 = ptr kb0 0)
    (gk0 : h1.get kb0 = some (.cells [.int .i64 k] 3 true false)) (gl : h1.get lp = some (.loop 104 3 vals)) (gp : ∃ v, h1.get p = some (.cells v 61 true false)) (hkp0 : kb0 ≠ p) (hkp : kb ≠ p) (hlp : lb ≠ p)
    (gk : h1.get kb = some (.cells [.int .i64 k] 3 true false)) (glb : h1.get lb = some (.cells [v] 41 true false)) : ∀ (N : Nat) (post pre : List Cel) {h : H} {l : List UInt8}, post.length ≤ N → Sl 6 47 m0 h0 v (pre ++ post).length ((pre ++ post).flatMap celV) → (∀ c ∈ post, CelOK c) → (pre ++ post).length < 2 ^ 40 → WB h1 h p l → l.length + 4 * sizeD post ≤ 2 ^ 37 →
    RetL E 125 1 [yl lp, ptr lb 0, ptr kb 0, .int .i64 (pre.length : Nat)] h fun b vals' h' => b = 0 ∧ WB h1 h' p (l ++ runsE k post) := by
  intro N
  induction N with
  | zero =>
    intro post pre h l hN hs hok hn w hl
    obtain rfl : post = [] := List.eq_nil_of_length_eq_zero (by omega)
    refine .of_lp rfl (fun C L => runs_each_1_L1_eq C L _ h) ?_
    have lv : ldV h lb 0 = some v := ldV_of (w.k.get glb (by simp only [Only]; exact hlp)) rfl hs.one
    simp only [runs_each_1_L1]
    simp only [rd, asP_ptr, lv, hs.len, ge_dec (show (pre ++ []).length ≤ pre.length by simp)]
    exact .ret ⟨rfl, by simpa [runsE] using w⟩
  | succ N ih =>
    intro post pre h l hN hs hok hn w hl
    refine .of_lp rfl (fun C L => runs_each_1_L1_eq C L _ h) ?_
    have glh := w.k.get glb (by simp only [Only]; exact hlp)
    have gkh := w.k.get gk (by simp only [Only]; exact hkp)
    have lv : ldV h lb 0 = some v := ldV_of glh rfl hs.one
    have kk0 : Kp None' h0 h := k01.hiO w.k hp0
    cases post with
    | nil =>
      simp only [runs_each_1_L1]
      simp only [rd, asP_ptr, lv, hs.len, ge_dec (show (pre ++ []).length ≤ pre.length by simp)]
      exact .ret ⟨rfl, by simpa [runsE] using w⟩
    | cons c post =>
      have hi : pre.length < (pre ++ c :: post).length := by simp
      have w1 : IntKind.wrap .i64 ((pre.length : Int) + 1) = ((pre.length + 1 : Nat) : Int) := wrap_succ (by omega)
      have hc := hok c (by simp)
      have hcs := hc.s
      simp only [runs_each_1_L1]
      simp only [rd, asP_ptr, lv, hs.len, lt_dec hi, w1]
      refine .seq (run_loop (h0 := h0) (from' := pre.length) hk post pre c hs hn kk0 glh gkh) fun q ⟨kq, q2, q3⟩ => ?_
      have wq := w.other kq
      have lvq : ldV q.2.2 lb 0 = some v := ldV_of (kq.get glh (fun h => h)) rfl hs.one
      obtain ⟨b1, _, i1, l1⟩ := (hs.kpN (kk0.then kq)).cur
      have hle := runLen_le k post c
      have w3 : IntKind.wrap .i64 (((pre.length + 1 + runLen k c post : Nat) : Int) - ((pre.length : Nat) : Int)) = ((runLen k c post + 1 : Nat) : Int) := by
        simp at hn
        rw [wrap_i64 (by omega) (by omega)]; omega
      have hcA : (Value.agg ⟨celV c⟩) = celA c := rfl
      simp only [sizeD] at hl
      simp only [rd, q3, asP_ptr, lvq, i1, l1, w3, hcA, bldT_166]
      refine .seq (yield_spec (n := runLen k c post + 1) hv v5 v2 wq gk0 gl gp hkp0 hc (by simp at hn; omega) (by omega)) fun z ⟨z1, z2⟩ => ?_
      simp only [rd, z1, Bool.not_true]
      -- the rest
      have hsplit : pre ++ c :: post = (pre ++ c :: post.take (runLen k c post)) ++ post.drop (runLen k c post) := by simp
      have hlen : (pre ++ c :: post.take (runLen k c post)).length = pre.length + 1 + runLen k c post := by simp; omega
      have hpl := putE_len (k := k) hc
      have hul : (uvarE (runLen k c post + 1)).length ≤ 10 := uvarE_len (by simp at hn; omega)
      have hsd : sizeD (post.drop (runLen k c post)) ≤ sizeD post := by
        have := sizeD_append (post.take (runLen k c post)) (post.drop (runLen k c post))
        rw [List.take_append_drop] at this; omega
      have hs' := hs
      rw [hsplit] at hs'
      have := ih (post.drop (runLen k c post)) (pre ++ c :: post.take (runLen k c post)) (h := z.2) (l := l ++ (uvarE (runLen k c post + 1) ++ putE k c)) (by simp at hN ⊢; omega) hs'
        (fun d hd => hok d (by simp [List.mem_of_mem_drop hd])) (by rw [← hsplit]; exact hn) z2 (by simp only [List.length_append]; omega)
      rw [hlen] at this
      refine W.mono this fun r ⟨r1, r2⟩ => ⟨r1, ?_⟩
      rw [runsE]
      rw [List.append_assoc] at r2
      exact r2

theorem runsE_spec {h : H} {v : Value} {m0 : Nat} {k : Int} {l : List Cel} (hk : 1 ≤ k ∧ k ≤ 6) (hs : Sl 6 47 m0 h v l.length (l.flatMap celV)) (hok : ∀ c ∈ l, CelOK c) (hn : l.length < 2 ^ 30) (hz : sizeD l ≤ 2 ^ 34) :
    Ret E 104 [.int .i64 k, v] h fun r h' => Kp None' h h' ∧ r = .string ⟨⟨runsE k l⟩⟩ := by
  refine .of_fn rfl rfl (fun C L => runs_Encode_eq C L _ h) ?_
  obtain ⟨h2, hh2⟩ : ∃ h2, h2 = h.new (.cells [.int .i64 k] 3 true false) := ⟨_, rfl⟩
  obtain ⟨h3, hh3⟩ : ∃ h3, h3 = h2.new (.cells [.slice none 0 0] 61 true false) := ⟨_, rfl⟩
  have n2 : h2.next = h.next + 1 := by rw [hh2]; rfl
  have n3 : h3.next = h.next + 2 := by rw [hh3, H.next_new, n2]
  have g0 : h3.get h.next = some (.cells [.int .i64 k] 3 true false) := by rw [hh3]; exact H.get_new_old (by rw [hh2]; exact get_new_self _ _)
  have gp : h3.get h2.next = some (.cells [.slice none 0 0] 61 true false) := by rw [hh3]; exact get_new_self _ _
  have k3 : Kp None' h h3 := by rw [hh3, hh2]; exact (Kp.new _ _).thenNew _
  have l0 : ldI .i64 h3 h.next 0 = some k := ldI_of g0 rfl
  simp only [runs_Encode]
  simp only [rd, ← hh2, ← hh3, l0]
  refine .seq (Q1 := fun q => q = (.func (.func 125) #[] #[(ptr (h3.next + 1) 0), (ptr h3.next 0)], (h3.new (.cells [.int .i64 k] 3 true false)).new (.cells [v] 41 true false))) ?_ fun q hq => ?_
  · refine W.mono (Ret.of_fn (Q := fun r h' => (r, h') = (.func (.func 125) #[] #[(ptr (h3.next + 1) 0), (ptr h3.next 0)], (h3.new (.cells [.int .i64 k] 3 true false)).new (.cells [v] 41 true false))) rfl rfl (fun C L => runs_each_eq C L _ h3) ?_) fun z hz => hz
    simp only [runs_each]
    simp only [rd, hs.one]
    exact .ret rfl
  subst hq
  obtain ⟨h4, hh4⟩ : ∃ h4, h4 = (h3.new (.cells [.int .i64 k] 3 true false)).new (.cells [v] 41 true false) := ⟨_, rfl⟩
  rw [← hh4]
  have n4 : h4.next = h.next + 4 := by rw [hh4, H.next_new, H.next_new, n3]
  have k34 : Kp None' h3 h4 := by rw [hh4]; exact (Kp.new _ _).thenNew _
  have gkb : h4.get h3.next = some (.cells [.int .i64 k] 3 true false) := by rw [hh4]; exact H.get_new_old (get_new_self _ _)
  have glb : h4.get (h3.next + 1) = some (.cells [v] 41 true false) := by
    rw [hh4]
    have : (h3.new (.cells [.int .i64 k] 3 true false)).next = h3.next + 1 := rfl
    rw [← this]; exact get_new_self _ _
  simp only [rd]
  obtain ⟨vals, hvals⟩ : ∃ vals, vals = [.int .i64 k, v, ptr h.next 0, junk, .string (bs []), ptr h2.next 0, junk, .int .i64 k, v, .func (.func 125) #[] #[(ptr (h3.next + 1) 0), (ptr h3.next 0)], junk, junk, junk, junk, junk, junk, junk, junk, junk, junk] := ⟨_, rfl⟩
  rw [← hvals]
  obtain ⟨h5, hh5⟩ : ∃ h5, h5 = h4.new (.loop 104 3 vals) := ⟨_, rfl⟩
  have n5 : h5.next = h.next + 5 := by rw [hh5, H.next_new, n4]
  have k45 : Kp None' h4 h5 := by rw [hh5]; exact .new _ _
  have glp : h5.get h4.next = some (.loop 104 3 vals) := by rw [hh5]; exact get_new_self _ _
  have k5 : Kp None' h h5 := (k3.then k34).then k45
  have gp5 := (k34.then k45).get gp (fun h => h)
  have w5 : WB h5 h5 h2.next [] := by
    refine ⟨.refl _ _, ⟨_, gp5, .inl ⟨rfl, rfl⟩⟩, fun b hb => ?_⟩
    obtain ⟨n, c, hv⟩ := Buf.inv gp5 hb
    cases hv
  have gkb5 := k45.get gkb (fun h => h)
  have glb5 := k45.get glb (fun h => h)
  have g05 := (k34.then k45).get g0 (fun h => h)
  rw [← hh5]
  refine .seq (Q1 := fun q => WB h5 q.2 h2.next (runsE k l)) ?_ fun q wq => ?_
  · have hr : ∀ C : CF, rngV C (.func (.func 125) #[] #[(ptr (h3.next + 1) 0), (ptr h3.next 0)]) h4.next h5 = C 125 [yl h4.next, ptr (h3.next + 1) 0, ptr h3.next 0] h5 := fun C => rfl
    refine .congr (fun C _ => hr C) ?_
    refine W.mono (Ret.of_fn (Q := fun r h' => WB h5 h' h2.next (runsE k l)) rfl rfl (fun C L => runs_each_1_eq C L _ h5) ?_) fun z hz => hz
    simp only [runs_each_1]
    simp only [rd]
    refine .seq (each_loop (h0 := h) (h1 := h5) (lb := h3.next + 1) (kb := h3.next) (kb0 := h.next) (lp := h4.next) (p := h2.next) hk k5 (by omega) (by rw [hvals]; rfl) (by rw [hvals]; rfl) (by rw [hvals]; rfl) g05 glp ⟨_, gp5⟩ (by omega) (by omega) (by omega) gkb5 glb5 l.length l [] (Nat.le_refl _) (by simpa using hs) hok (by simp; omega) w5 (by simp; omega)) fun z ⟨z1, z2⟩ => ?_
    simp only [rd, z1, show ((0 : Nat) == 0) = true from rfl]
    exact .ret (by simpa using z2)
  · have glq : q.2.get h4.next = some (.loop 104 3 vals) := wq.k.get glp (by simp only [Only]; omega)
    have hil : isLoop (q.2.get h4.next) = true := by rw [glq]; rfl
    obtain ⟨wf, bf⟩ := wq.w.putX h4.next none (by omega) (fun hx => by have := wq.b _ hx; omega)
    simp only [rd, hil]
    refine .seq (string_spec wf) fun z ⟨z1, z2⟩ => ?_
    simp only [rd, z1, z2]
    exact .ret ⟨(k5.hiO wq.k (by omega)).putNew _ (by omega), rfl⟩

end Go.Arm
namespace Go.Arm
open Go.Proofs

theorem bldT_166z : bldT E 166 [] = some (.agg ⟨runV zCel 0⟩) := by kernel_rfl
abbrev runA (c : Cel) (n : Int) : Value := .agg ⟨runV c n⟩
/-- a run in a variable -/
def tmpR (h : H) (c : Cel) (n : Int) : H := (h.new (.cells (runV zCel 0) 166 true false)).put h.next (some (.cells (runV c n) 166 true false))
theorem tmpR_st (h : H) (c : Cel) (n : Int) : stV 7 (h.new (.cells (runV zCel 0) 166 true false)) h.next 0 (runA c n) = some (tmpR h c n) := stV_full (n := 7) (get_new_self _ _) rfl rfl (runV_one c n)
theorem tmpR_get (h : H) (c : Cel) (n : Int) : (tmpR h c n).get h.next = some (.cells (runV c n) 166 true false) := H.get_put_same _ _ _ (by rw [H.next_new]; omega)
theorem tmpR_kp (h : H) (c : Cel) (n : Int) : Kp None' h (tmpR h c n) := (Kp.new _ _).putNew _ (Nat.le_refl _)
theorem tmpR_next (h : H) (c : Cel) (n : Int) : (tmpR h c n).next = h.next + 1 := rfl
theorem rz : ([(.bool false), (.bool false), (.int .i64 (0)), (.int .u64 (0)), (.string (bs [])), (.complex .f64 0 0), (.int .i64 (0))] : List Value) = runV zCel 0 := rfl
theorem run_ldC {h : H} {b : Nat} {c : Cel} {n : Int} (g : h.get b = some (.cells (runV c n) 166 true false)) : ldA 6 h b (0 + 0) = some (celA c) := ldA_cells (by rw [cellsAt_of g (by rw [runV_len]; omega)]; rfl)
theorem run_ldN {h : H} {b : Nat} {c : Cel} {n : Int} (g : h.get b = some (.cells (runV c n) 166 true false)) : ldI .i64 h b (0 + 6) = some n := ldI_of g rfl
theorem run_ld {h : H} {b : Nat} {c : Cel} {n : Int} (g : h.get b = some (.cells (runV c n) 166 true false)) : ldA 7 h b 0 = some (runA c n) := ldA_full g rfl

theorem next_spec {k : Int} {h : H} {p : Nat} {s : ByteArray} {a most : Nat} (hk : 1 ≤ k ∧ k ≤ 6) (hm : most ≤ 10000) (r : Rd h p s a 0) (ha : a ≤ s.size) (hs : s.size ≤ 2 ^ 38) (ht : Tabs h) (hp : 2 ≤ p) :
    Ret E 113 [ptr p 0, .int .i64 k, .int .i64 (most : Nat)] h fun v h' => Kp (Only p) h h' ∧ ((∃ e, DErr e ∧ v = .tuple #[runA zCel 0, .int .i64 e]) ∨
      (∃ (c : Cel) (n m : Nat), v = .tuple #[runA c n, .int .i64 0] ∧ Rd h' p s (a + m) 0 ∧ a + m ≤ s.size ∧ 0 < m ∧ CelOK c ∧ 1 ≤ n ∧ n ≤ most)) := by
  refine .of_fn rfl rfl (fun C L => runs_next_eq C L _ h) ?_
  have hpl := r.lt
  obtain ⟨h1, hh1⟩ : ∃ h1, h1 = h.new (.cells (runV zCel 0) 166 true false) := ⟨_, rfl⟩
  have g1 : h1.get h.next = some (.cells (runV zCel 0) 166 true false) := by rw [hh1]; exact get_new_self _ _
  have k1 : Kp (Only p) h h1 := by rw [hh1]; exact .new _ _
  have r1 : Rd h1 p s a 0 := by rw [hh1]; exact r.new _
  -- how it ends
  have fin : ∀ {h' : H} (c : Cel) (n : Int) (x : Value), Kp (Only p) h1 h' →
      ∃ h'', ((stV 7 h' h.next 0 (runA c n)).bind fun h9 => (ldA 7 h9 h.next 0).bind fun v10 => some (Value.tuple #[v10, x], h9)) = some (.tuple #[runA c n, x], h'') ∧ Kp (Only p) h h'' ∧ (∀ a' e, Rd h' p s a' e → Rd h'' p s a' e) := by
    intro h' c n x kk
    have g := kk.get g1 (by simp only [Only]; omega)
    refine ⟨h'.put h.next (some (.cells (runV c n) 166 true false)), ?_, (k1.then kk).putNew _ (Nat.le_refl _), fun a' e r => r.put (by omega) _⟩
    rw [stV_full (n := 7) g rfl rfl (runV_one c n), Option.bind_some, run_ld (H.get_put_same _ _ _ (H.get_lt g)), Option.bind_some]
  simp only [runs_next]
  simp only [rd, rz, ← hh1]
  refine .seq (rUvar_ok r1 ha hs) fun q2 ⟨k2, hq2⟩ => ?_
  rcases hq2 with ⟨e, he, hv2, r2⟩ | ⟨n, m, hv2, r2, hm2, hn, _, hm0⟩
  · simp only [rd, hv2]
    refine .seq (err_spec r2) fun q3 ⟨hv3, hh3⟩ => ?_
    obtain ⟨h'', e4, k4, _⟩ := fin zCel 0 (.int .i64 e) k2
    simp only [rd, hv3, hh3, he.bne, bldT_166z]
    exact .congr (fun _ _ => e4) (.ret ⟨k4, .inl ⟨e, he.derr, rfl⟩⟩)
  · simp only [rd, hv2]
    refine .seq (err_spec r2) fun q3 ⟨hv3, hh3⟩ => ?_
    simp only [rd, hv3, hh3, show ((0 : Int) != 0) = false from rfl]
    refine .seq (rGet_ok hk r2 hm2 hs (ht.kp (k1.then k2) (by simp only [Only]; omega) (by simp only [Only]; omega)) hp) fun q4 ⟨k4, hq4⟩ => ?_
    rcases hq4 with ⟨e, a', e', he, hv4, _⟩ | ⟨c, m4, hv4, r4, hm4, hc, _, _⟩
    · have kt := (k2.then k4).hi (tmp_kp q4.2 zCel) fun _ h => h.elim
      obtain ⟨h'', e5, k5, _⟩ := fin zCel 0 (.int .i64 e) kt
      simp only [rd, hv4, tmp_stA, he.bne, bldT_166z]
      exact .congr (fun _ _ => e5) (.ret ⟨k5, .inl ⟨e, he.derr, rfl⟩⟩)
    · have kt := (k2.then k4).hi (tmp_kp q4.2 c) fun _ h => h.elim
      have wm : IntKind.wrap .u64 ((most : Nat) : Int) = (most : Nat) := wrap_u64 (by omega)
      simp only [rd, hv4, tmp_stA, show ((0 : Int) != 0) = false from rfl, wm]
      have bad : ∀ {e : CF → LF → Option (Value × H)}, (∀ C L, e C L = (stV 7 (tmp q4.2 c) h.next 0 (runA zCel 0)).bind fun h9 => (ldA 7 h9 h.next 0).bind fun v10 => some (Value.tuple #[v10, .int .i64 12], h9)) →
          W E e fun z => Kp (Only p) h z.2 ∧ ((∃ e, DErr e ∧ z.1 = .tuple #[runA zCel 0, .int .i64 e]) ∨
      (∃ (c : Cel) (n m : Nat), z.1 = .tuple #[runA c n, .int .i64 0] ∧ Rd z.2 p s (a + m) 0 ∧ a + m ≤ s.size ∧ 0 < m ∧ CelOK c ∧ 1 ≤ n ∧ n ≤ most)) := by
        intro e he
        obtain ⟨h'', e5, k5, _⟩ := fin zCel 0 (.int .i64 12) kt
        exact .congr (fun C L => (he C L).trans e5) (.ret ⟨k5, .inl ⟨12, by simp [DErr], rfl⟩⟩)
      by_cases h0 : n = 0
      · subst h0
        simp only [rd, show (((0 : Nat) : Int) == 0) = true from rfl, bldT_166z]
        exact bad fun _ _ => rfl
      · have d0 : (((n : Nat) : Int) == 0) = false := by simp [h0]
        simp only [rd, d0]
        by_cases hb : n > most
        · have d1 : decide (((n : Nat) : Int) > ((most : Nat) : Int)) = true := by simp; omega
          simp only [rd, d1, bldT_166z]
          exact bad fun _ _ => rfl
        · have d1 : decide (((n : Nat) : Int) > ((most : Nat) : Int)) = false := by simp; omega
          have wn : IntKind.wrap .i64 ((n : Nat) : Int) = (n : Nat) := wrap_i64n (by omega)
          obtain ⟨h'', e5, k5, rr⟩ := fin c n (.int .i64 0) kt
          simp only [rd, d1, cel_ld (tmp_get _ _), wn, bldT_166]
          refine .congr (fun _ _ => e5) (.ret ⟨k5, .inr ⟨c, n, m + m4, rfl, rr _ _ ?_, by omega, by omega, hc, by omega, by omega⟩⟩)
          rw [← Nat.add_assoc]
          exact r4.kpX (tmp_kp _ _) (fun h => h)

abbrev rV (x : Cel × Nat) : List Value := runV x.1 x.2
theorem rV_len (x : Cel × Nat) : (rV x).length = 7 := rfl
theorem rV_one (x : Cel × Nat) : (rV x).all one = true := runV_one _ _
def sumR (l : List (Cel × Nat)) : Nat := (l.map (·.2)).sum
theorem bldS_167 (c : Cel) (n : Int) : bldS E 167 1 [(0, runA c n)] = some (runV c n) := by kernel_rfl

/-! ## Cells -/
theorem Sl.apart {w m : Nat} {e e' : TypeId} {h : H} {v : Value} {n rb : Nat} {cs cs' : List Value} {o l : Bool} (s : Sl w e m h v n cs) (g : h.get rb = some (.cells cs' e' o l)) (he : e ≠ e') : ∀ b n' c', v = .slice (some ⟨b, 0, none⟩) n' c' → b ≠ rb := by
  intro b n' c' hv hb
  subst hb
  rcases s with ⟨h0, _⟩ | ⟨b2, l2, _, hb2, hg2, _⟩
  · rw [h0] at hv; cases hv
  · rw [hb2] at hv
    cases hv
    rw [g] at hg2
    simp only [Option.some.injEq, Blk.cells.injEq] at hg2
    exact he hg2.2.1.symm
theorem cellsIn_loop {h0 : H} {rb : Nat} {c : Cel} {n m1 : Nat} {rv : Value} {x1 x2 : Int} (hc : CelOK c) (hrb : rb < m1) (hn : n ≤ 10000) : ∀ (j : Nat) {h : H} {o : Value} {l : List Cel}, j ≤ n → Kp None' h0 h → h0.next ≤ m1 → h.get rb = some (.cells (runV c n) 166 true false) → m1 ≤ h.next → (rb < h.next) →
    Sl 6 47 h0.next h o l.length (l.flatMap celV) → l.length + (n - (n - j)) ≤ 2 ^ 20 → (∀ c ∈ l, CelOK c) →
    RetL E 114 8 [o, ptr rb 0, rv, .int .i64 x1, .int .i64 x2, .int .i64 (n : Nat), .int .i64 ((n - j : Nat) : Int)] h fun b vals h' => Kp None' h0 h' ∧ ∃ (o' : Value) (l' : List Cel), vals = [o', rv, .int .i64 x1, .int .i64 x2] ∧ l'.length = l.length + j ∧ (∀ c ∈ l', CelOK c) ∧ Sl 6 47 h0.next h' o' l'.length (l'.flatMap celV) := by
  intro j
  induction j with
  | zero =>
    intro h o l hj k hm1 g hm hb so hl hok
    refine .of_lp rfl (fun C L => runs_Cells_L8_eq C L _ h) ?_
    simp only [runs_Cells_L8]
    simp only [rd, asP_ptr, ge_dec (show n ≤ n - 0 by omega)]
    exact .ret ⟨k, o, l, rfl, rfl, hok, so⟩
  | succ j ih =>
    intro h o l hj k hm1 g hm hb so hl hok
    refine .of_lp rfl (fun C L => runs_Cells_L8_eq C L _ h) ?_
    have kn : Kp None' h (h.new (.cells (celV c) 47 true false)) := .new _ _
    have hk0 := k.1
    obtain ⟨v', h', a1, a2, a3⟩ := (so.kpN kn).app (x := .slice (some ⟨h.next, 0, none⟩) 1 1) (bytes := 56) (srcC_blk (get_new_self _ _) (by rw [celV_len]) 1) (by rw [celV_len]) (celV_one c) (by omega) (by omega) (flat_one celV_one l) (by unfold roomy; omega) (by rw [H.next_new]; omega)
    have w1 : IntKind.wrap .i64 (((n - (j + 1) : Nat) : Int) + 1) = ((n - j : Nat) : Int) := by rw [wrap_i64 (by omega) (by omega)]; omega
    simp only [runs_Cells_L8]
    simp only [rd, asP_ptr, lt_dec (show n - (j + 1) < n by omega), run_ldC g, bldS_41, a1, w1]
    have kf : Kp None' h0 h' := (k.then kn).hi ((so.kpN kn).appKp a3) fun b hb => .inr hb
    have g' : h'.get rb = some (.cells (runV c n) 166 true false) := a3.get (kn.get g (fun h => h)) (fun ⟨n', c', hv⟩ => so.apart g (by decide) rb n' c' hv rfl)
    have hnx := a3.1
    have hnn : (h.new (.cells (celV c) 47 true false)).next = h.next + 1 := rfl
    rw [hnn] at hnx
    refine (ih (l := l ++ [c]) (by omega) kf hm1 g' (by omega) (by omega) (by simpa using a2) (by simp; omega) ?_).mono fun r ⟨r1, o', l', r2, r3, r4, r5⟩ => ⟨r1, o', l', r2, by rw [r3]; simp; omega, r4, r5⟩
    intro d hd
    rcases List.mem_append.1 hd with hd | hd
    · exact hok d hd
    · rw [List.mem_singleton.1 hd]; exact hc

theorem cellsOut_loop {h0 : H} {rv : Value} {m0 : Nat} : ∀ (post pre : List (Cel × Nat)) {h : H} {o : Value} {l : List Cel}, Sl 7 166 m0 h0 rv (pre ++ post).length ((pre ++ post).flatMap rV) → (pre ++ post).length < 2 ^ 40 → Kp None' h0 h → Sl 6 47 h0.next h o l.length (l.flatMap celV) → (∀ c ∈ l, CelOK c) → (∀ x ∈ post, CelOK x.1 ∧ 1 ≤ x.2) → l.length + sumR post ≤ 10000 →
    RetL E 114 3 [o, rv, .int .i64 ((pre ++ post).length : Nat), .int .i64 (pre.length : Nat)] h fun b vals h' => Kp None' h0 h' ∧ b = 0 ∧ ∃ (o' : Value) (l' : List Cel), vals = [o'] ∧ l'.length ≤ 10000 ∧ (∀ c ∈ l', CelOK c) ∧ Sl 6 47 h0.next h' o' l'.length (l'.flatMap celV)
  | [], pre, h, o, l, hs, hn, k, so, hok, hpo, hsum => by
    refine .of_lp rfl (fun C L => runs_Cells_L3_eq C L _ h) ?_
    simp only [runs_Cells_L3]
    simp only [rd, List.append_nil, Int.lt_irrefl, decide_false]
    exact .ret ⟨k, rfl, o, l, rfl, by simp [sumR] at hsum; omega, hok, so⟩
  | (c, n) :: post, pre, h, o, l, hs, hn, k, so, hok, hpo, hsum => by
    refine .of_lp rfl (fun C L => runs_Cells_L3_eq C L _ h) ?_
    have hi : pre.length < (pre ++ (c, n) :: post).length := by simp
    obtain ⟨b, _, hix, hce⟩ := (hs.kpN k).get rV_len hi
    have hget : (pre ++ (c, n) :: post)[pre.length] = (c, n) := by simp
    rw [hget] at hce
    have hld : ldA 7 h b (pre.length * 7) = some (runA c n) := ldA_cells hce
    obtain ⟨hc, hn1⟩ := hpo (c, n) (by simp)
    simp only at hc hn1
    have hsum' : l.length + n + sumR post ≤ 10000 := by simp [sumR] at hsum ⊢; omega
    have d1 : decide (((n : Nat) : Int) < 1) = false := by simp; omega
    have w1 : IntKind.wrap .i64 ((10000 : Int) - ((l.length : Nat) : Int)) = ((10000 - l.length : Nat) : Int) := by rw [wrap_i64 (by omega) (by omega)]; omega
    have d2 : decide (((n : Nat) : Int) > ((10000 - l.length : Nat) : Int)) = false := by simp; omega
    simp only [runs_Cells_L3]
    simp only [rd, lt_dec hi, hix, hld, rz, tmpR_st, run_ldN (tmpR_get h c n), d1, so.len, w1, d2]
    have kt := tmpR_kp h c n
    have hk0 := k.1
    have hin := cellsIn_loop (h0 := h0) (m1 := h.next + 1) (n := n) (rb := h.next) (rv := rv) (x1 := ((pre ++ (c, n) :: post).length : Nat)) (x2 := (pre.length : Nat)) hc (by omega) (by omega) n (h := tmpR h c n) (l := l) (Nat.le_refl _) (k.then kt) (by omega) (tmpR_get h c n) (by rw [tmpR_next]; omega) (by rw [tmpR_next]; omega) (so.kpN kt) (by omega) hok
    rw [Nat.sub_self] at hin
    refine .seq hin fun r ⟨r1, o', l', r2, r3, r4, r5⟩ => ?_
    simp only [rd, r2, wsucc (x := (c, n)) (show pre.length < 2 ^ 62 by omega)]
    rw [app_assoc1] at hs hn ⊢
    exact cellsOut_loop post (pre ++ [(c, n)]) hs hn r1 r5 r4 (fun x hx => hpo x (by simp [hx])) (by omega)

theorem rcells_spec {h : H} {rv : Value} {m0 : Nat} {l : List (Cel × Nat)} (hs : Sl 7 166 m0 h rv l.length (l.flatMap rV)) (hn : l.length < 2 ^ 40) (hl : ∀ x ∈ l, CelOK x.1 ∧ 1 ≤ x.2) (hsum : sumR l ≤ 10000) :
    Ret E 114 [rv] h fun v h' => Kp None' h h' ∧ ∃ (o : Value) (l' : List Cel), v = .tuple #[o, .int .i64 0] ∧ l'.length ≤ 10000 ∧ (∀ c ∈ l', CelOK c) ∧ Sl 6 47 h.next h' o l'.length (l'.flatMap celV) := by
  refine .of_fn rfl rfl (fun C L => runs_Cells_eq C L _ h) ?_
  simp only [runs_Cells]
  simp only [rd, hs.len]
  refine .seq (cellsOut_loop (h0 := h) (pre := []) (l := []) l hs (by simpa using hn) (.refl _ _) .nil (by simp) hl (by simpa using hsum)) fun q ⟨q1, q2, o, l', q3, q4, q5, q6⟩ => ?_
  simp only [rd, q2, q3, show ((0 : Nat) == 0) = true from rfl]
  exact .ret ⟨q1, o, l', rfl, q4, q5, q6⟩

/-! ## Decode -/
theorem runsD_loop {h0 : H} {p : Nat} {s : ByteArray} {k : Int} {N : Nat} (hk : 1 ≤ k ∧ k ≤ 6) (hN : N ≤ 10000) (hs : s.size ≤ 2 ^ 38) (ht : Tabs h0) (hp : h0.next ≤ p) (hp2 : 2 ≤ p) : ∀ (n : Nat) (pre : List (Cel × Nat)) {a : Nat} {h : H} {v : Value}, s.size - a < n → a ≤ s.size → Rd h p s a 0 → Kp None' h0 h →
    Sl 7 166 (p + 1) h v pre.length (pre.flatMap rV) → (∀ x ∈ pre, CelOK x.1 ∧ 1 ≤ x.2) → sumR pre ≤ N → pre.length ≤ sumR pre →
    RetL E 105 8 [.int .i64 k, ptr p 0, v, .int .i64 ((N - sumR pre : Nat) : Int)] h fun b vals h' => Kp None' h0 h' ∧ ((∃ (v' : Value) (l : List (Cel × Nat)), b = 0 ∧ vals = [v', .int .i64 ((N - sumR l : Nat) : Int)] ∧ (∀ x ∈ l, CelOK x.1 ∧ 1 ≤ x.2) ∧ sumR l ≤ N ∧ l.length ≤ sumR l ∧ Sl 7 166 (p + 1) h' v' l.length (l.flatMap rV)) ∨
      (∃ e, DErr e ∧ b = 1 ∧ vals = [.slice none 0 0, .int .i64 e])) := by
  intro n
  induction n with
  | zero => intro pre a h v hn; omega
  | succ n ih =>
    intro pre a h v hn ha r kk sl hok hsum hlen
    refine .of_lp rfl (fun C L => runs_Decode_L8_eq C L _ h) ?_
    simp only [runs_Decode_L8]
    simp only [rd]
    refine .seq (left_spec r ha (by omega)) fun q ⟨q1, q2⟩ => ?_
    simp only [rd, q1, q2]
    by_cases hl : s.size - a > 0
    · have d1 : decide (((s.size - a : Nat) : Int) > 0) = true := by simp; omega
      simp only [rd, d1]
      refine .seq (next_spec (most := N - sumR pre) hk (by omega) r ha hs (ht.kp kk (fun h => h) (fun h => h)) hp2) fun q ⟨kq, hq⟩ => ?_
      have kk1 := kk.hiO kq hp
      rcases hq with ⟨e, he, hv⟩ | ⟨c, m, b, hv, r', hb, hb0, hc, hm1, hm2⟩
      · simp only [rd, hv, rz, tmpR_st, he.bne]
        exact .ret ⟨kk1.then (tmpR_kp _ _ _), .inr ⟨e, he, rfl, rfl⟩⟩
      · have kt := tmpR_kp q.2 c (m : Int)
        have gt := tmpR_get q.2 c (m : Int)
        have slt := (sl.kpO kq (by omega)).kpN kt
        have rt := r'.kpX kt (fun h => h)
        have kkt := kk1.then kt
        have hlt := rt.lt
        have hq0 := kk1.1
        -- it is appended
        have go : ∀ {h2 : H}, Kp None' (tmpR q.2 c m) h2 → W E (fun C L => (ldA 7 h2 q.2.next 0).bind fun v16 => (bldS E 167 1 [(0, v16)]).bind fun l17 => (appA 7 64 166 (h2.new (.cells l17 166 true false)) v (.slice (some ⟨h2.next, 0, none⟩) 1 1)).bind fun p19 =>
            (ldI .i64 p19.2 q.2.next (0 + 6)).bind fun x20 => L 105 8 [(.int .i64 k), ptr p 0, p19.1, (.int .i64 (IntKind.wrap .i64 (((N - sumR pre : Nat) : Int) - x20)))] p19.2) fun z => Kp None' h0 z.2.2 ∧ ((∃ (v' : Value) (l : List (Cel × Nat)), z.1 = 0 ∧ z.2.1 = [v', .int .i64 ((N - sumR l : Nat) : Int)] ∧ (∀ x ∈ l, CelOK x.1 ∧ 1 ≤ x.2) ∧ sumR l ≤ N ∧ l.length ≤ sumR l ∧ Sl 7 166 (p + 1) z.2.2 v' l.length (l.flatMap rV)) ∨
      (∃ e, DErr e ∧ z.1 = 1 ∧ z.2.1 = [.slice none 0 0, .int .i64 e])) := by
          intro h2 k2
          have g2 := k2.get gt (fun h => h)
          have kn : Kp None' h2 (h2.new (.cells (runV c m) 166 true false)) := .new _ _
          have sl2 := (slt.kpN k2).kpN kn
          have hk2 := k2.1
          have hlt2 := H.get_lt g2
          obtain ⟨v', h', a1, a2, a3⟩ := sl2.app (x := .slice (some ⟨h2.next, 0, none⟩) 1 1) (bytes := 64) (srcC_blk (get_new_self _ _) (by rw [runV_len]) 1) (by rw [runV_len]) (runV_one c m) (by omega) (by omega) (flat_one rV_one pre) (by unfold roomy; omega) (by rw [H.next_new]; omega)
          -- the run's own block stays: it is younger than the list
          have hvne : ¬ (∃ n' c', v = .slice (some ⟨q.2.next, 0, none⟩) n' c') := by
            rintro ⟨n', c', hv'⟩
            rcases sl with ⟨h0', _⟩ | ⟨b2, l2, _, hb2, hg2, _⟩
            · rw [h0'] at hv'; cases hv'
            · rw [hb2] at hv'
              cases hv'
              have := H.get_lt hg2
              have := kq.1
              omega
          have g' : h'.get q.2.next = some (.cells (runV c m) 166 true false) := a3.get (kn.get g2 (fun h => h)) hvne
          have sumE : sumR (pre ++ [(c, m)]) = sumR pre + m := by simp [sumR]
          have w1 : IntKind.wrap .i64 (((N - sumR pre : Nat) : Int) - (m : Int)) = ((N - sumR (pre ++ [(c, m)]) : Nat) : Int) := by rw [sumE, wrap_i64 (by omega) (by omega)]; omega
          simp only [rd, run_ld g2, bldS_167, a1, run_ldN g', w1]
          have rf : Rd h' p s (a + b) 0 := ((rt.kpX k2 (fun h => h)).kpX kn (fun h => h)).kpX a3 (fun ⟨n', c', hv'⟩ => by have := sl.pos p n' c' hv'; omega)
          have kf : Kp None' h0 h' := ((kkt.then k2).then kn).hi (sl2.appKp a3) fun b hb => .inr (by omega)
          refine ih (pre ++ [(c, m)]) (a := a + b) (by omega) hb rf kf (by simpa using a2) ?_ (by rw [sumE]; omega) (by rw [sumE]; simp; omega)
          intro x hx
          rcases List.mem_append.1 hx with hx | hx
          · exact hok x hx
          · rw [List.mem_singleton.1 hx]; exact ⟨hc, hm1⟩
        simp only [rd, hv, rz, tmpR_st, show ((0 : Int) != 0) = false from rfl, sl.len]
        cases hpre : pre.length with
        | zero =>
          have d2 : decide (IntKind.wrap .i64 (((0 : Nat) : Int) - 1) ≥ 0) = false := by decide
          simp only [rd, d2]
          exact go (.refl _ _)
        | succ j =>
          have w0 : IntKind.wrap .i64 (((j + 1 : Nat) : Int) - 1) = (j : Nat) := by rw [wrap_i64 (by omega) (by omega)]; omega
          have d2 : decide (((j : Nat) : Int) ≥ 0) = true := by simp
          obtain ⟨lb, _, hix, hce⟩ := slt.get rV_len (i := j) (by omega)
          have hl6 : ldA 6 (tmpR q.2 c m) lb (j * 7 + 0) = some (celA (pre[j]'(by omega)).1) := by
            have hc7 := hce
            unfold cellsAt at hc7
            split at hc7
            · rename_i cs e o l hgl
              split at hc7
              · rename_i hle
                apply ldA_cells
                rw [cellsAt_of hgl (by omega)]
                simp only [Option.some.injEq] at hc7
                have := congrArg (List.take 6) hc7
                rw [List.take_take] at this
                simpa [rV, runV, celV] using this
              · cases hc7
            · cases hc7
          simp only [rd, w0, d2, hix, hl6, run_ldC gt]
          refine .seq (equal_spec hk) fun y ⟨y1, ky⟩ => ?_
          simp only [rd, y1]
          cases equD k (pre[j]'(by omega)).1 c with
          | true =>
            simp only [rd]
            exact .ret ⟨kkt.then ky, .inr ⟨12, by simp [DErr], rfl, rfl⟩⟩
          | false =>
            simp only [rd]
            exact go ky
    · have d1 : decide (((s.size - a : Nat) : Int) > 0) = false := by simp; omega
      simp only [rd, d1]
      exact .ret ⟨kk, .inl ⟨v, pre, rfl, rfl, hok, hsum, hlen, sl⟩⟩

theorem runsD_spec {h : H} {s : ByteArray} {k : Int} {N : Nat} (hk : 1 ≤ k ∧ k ≤ 6) (hN : N ≤ 10000) (hs : s.size < 2 ^ 38) (ht : Tabs h) : Ret E 105 [.int .i64 k, .string s, .int .i64 (N : Nat)] h fun v h' => Kp None' h h' ∧ DecR h h' v := by
  have h2 : 2 ≤ h.next := by
    obtain ⟨t, t', _, h1⟩ := ht
    have := H.get_lt h1; omega
  refine .of_fn rfl rfl (fun C L => runs_Decode_eq C L _ h) ?_
  have c1 : decide (k < 1) = false := by simp; omega
  have c2 : decide (k > 6) = false := by simp; omega
  have d1 : decide (((N : Nat) : Int) < 0) = false := by simp
  have d2 : decide (((N : Nat) : Int) > 10000) = false := by simp; omega
  simp only [runs_Decode]
  simp only [rd, c1, c2, d1, d2]
  refine .seq (read_spec s h) fun q1 ⟨hv1, r1, k1⟩ => ?_
  simp only [rd, hv1]
  have hloop := runsD_loop (h0 := h) hk hN (by omega) ht (Nat.le_refl _) h2 (s.size + 1) [] (a := 0) (v := .slice none 0 0) (by omega) (Nat.zero_le _) r1 k1 .nil (by simp) (by simp [sumR]) (by simp)
  have e0 : N - sumR [] = N := by simp [sumR]
  rw [e0] at hloop
  refine .seq hloop fun z ⟨z1, hz⟩ => ?_
  rcases hz with ⟨v', l, b0, hv, hok, hsum, hlen, sl⟩ | ⟨e, he, b1, hv⟩
  · simp only [rd, b0, hv, show ((0 : Nat) == 0) = true from rfl]
    by_cases hleft : N - sumR l > 0
    · have d3 : decide (((N - sumR l : Nat) : Int) > 0) = true := by simp; omega
      simp only [rd, d3]
      exact .ret ⟨z1, .inl ⟨10, by simp [DErr], rfl⟩⟩
    · have d3 : decide (((N - sumR l : Nat) : Int) > 0) = false := by simp; omega
      simp only [rd, d3]
      refine .seq (rcells_spec sl (by omega) hok (by omega)) fun y ⟨ky, o, l', hv', hl', hok', sl'⟩ => ?_
      simp only [rd, hv']
      have := z1.1
      exact .ret ⟨z1.then ky, .inr ⟨o, l', rfl, hl', hok', sl'.low (by omega)⟩⟩
  · simp only [rd, b1, hv, show ((1 : Nat) == 0) = false from rfl]
    exact .ret ⟨z1, .inl ⟨e, he, rfl⟩⟩

end Go.Arm
namespace Go.Arm
open Ieee

/-- a datum that is a whole number -/
def Val (d : Datum) (n : Int) : Prop := ∃ (s : Bool) (m : Nat) (i : Int), d = .number s m i ∧ i ≤ 1 ∧ ∀ k : Nat, 0 ≤ i + k → signed s m (i + k).toNat = n * 2 ^ k

theorem signed_mul (s : Bool) (m u v : Nat) : signed s m u * 2 ^ v = signed s m (u + v) := by
  unfold signed
  simp only [shl_eq, Nat.pow_add]
  cases s
  · simp [Int.mul_assoc]
  · simp [Int.mul_assoc, Int.neg_mul]
theorem signed_zero (s : Bool) (u : Nat) : signed s 0 u = 0 := by unfold signed; cases s <;> simp
theorem signed_abs_self (t : Int) (s : Bool) (u : Nat) (h : t ≠ 0 → s = decide (t < 0)) : signed s t.natAbs u = t * 2 ^ u := by
  by_cases h0 : t = 0
  · subst h0; rw [show (0 : Int).natAbs = 0 by rfl, signed_zero]; simp
  · rw [h h0]
    unfold signed
    rw [shl_eq]
    by_cases hn : t < 0
    · simp only [hn, decide_true, if_true]
      push_cast
      rw [show ((t.natAbs : Nat) : Int) = -t by omega, Int.neg_mul, Int.neg_neg]
    · simp only [hn, decide_false]
      push_cast
      rw [show ((t.natAbs : Nat) : Int) = t by omega]

theorem Val.near {n : Int} (h : n.natAbs ≤ 2 ^ 53) : Val (Ieee.double.read (FloatKind.nearest .f64 n)) n := by
  by_cases h0 : n = 0
  · subst h0
    rw [nearest0]
    exact ⟨false, 0, -1074, by decide +kernel, by omega, fun k _ => by rw [signed_zero]; simp⟩
  · have hs : n ≠ 0 → decide (n < 0) = decide (n < 0) := fun _ => rfl
    rcases read_nearest h h0 with ⟨i, hi, hr, _⟩ | ⟨hN, hr⟩
    · refine ⟨_, _, _, hr, by omega, fun k hk => ?_⟩
      have e1 : (-(i : Int) + k).toNat = k - i := by omega
      have e2 : signed (decide (n < 0)) (n.natAbs * 2 ^ i) (k - i) = signed (decide (n < 0)) n.natAbs k := by
        unfold signed
        rw [shl_eq, shl_eq, Nat.mul_assoc, ← Nat.pow_add, show i + (k - i) = k by omega]
      rw [e1, e2, signed_abs_self n _ _ hs]
    · refine ⟨_, _, _, hr, by omega, fun k hk => ?_⟩
      have e1 : ((1 : Int) + k).toNat = 1 + k := by omega
      have e2 : signed (decide (n < 0)) (2 ^ 52) (1 + k) = signed (decide (n < 0)) n.natAbs k := by
        unfold signed
        rw [shl_eq, shl_eq, hN, Nat.pow_add, ← Nat.mul_assoc]
      rw [e1, e2, signed_abs_self n _ _ hs]

/-- its sign and its size -/
theorem Val.inv {s : Bool} {m : Nat} {i n : Int} (h : ∀ k : Nat, 0 ≤ i + k → signed s m (i + k).toNat = n * 2 ^ k) : (n ≠ 0 → s = decide (n < 0)) ∧ ∀ k : Nat, 0 ≤ i + k → m * 2 ^ (i + k).toNat = n.natAbs * 2 ^ k := by
  have key : ∀ k : Nat, 0 ≤ i + k → (if s then -((m * 2 ^ (i + k).toNat : Nat) : Int) else ((m * 2 ^ (i + k).toNat : Nat) : Int)) = n * 2 ^ k := fun k hk => by
    have := h k hk
    unfold signed at this
    rw [shl_eq] at this
    exact this
  constructor
  · intro hn
    have h1 := key (-i).toNat (by omega)
    have hp : (0 : Int) < 2 ^ (-i).toNat := Int.pow_pos (by omega)
    cases s with
    | false =>
      simp only [Bool.false_eq_true, if_false] at h1
      have : 0 ≤ n * 2 ^ (-i).toNat := by rw [← h1]; exact Int.natCast_nonneg _
      have : 0 ≤ n := by
        rcases Int.lt_or_le n 0 with hlt | hle
        · have := Int.mul_neg_of_neg_of_pos hlt hp; omega
        · exact hle
      simp; omega
    | true =>
      simp only [if_true] at h1
      have : n * 2 ^ (-i).toNat ≤ 0 := by rw [← h1]; omega
      have : n ≤ 0 := by
        rcases Int.lt_or_le 0 n with hlt | hle
        · have := Int.mul_pos hlt hp; omega
        · exact hle
      simp; omega
  · intro k hk
    have h1 := congrArg Int.natAbs (key k hk)
    rw [Int.natAbs_mul, Int.natAbs_pow] at h1
    rw [show (2 : Int).natAbs = 2 by rfl] at h1
    rw [← h1]
    cases s
    · rw [if_neg (by decide), Int.natAbs_natCast]
    · rw [if_pos rfl, Int.natAbs_neg, Int.natAbs_natCast]

/-- in range it is cut to itself -/
theorem Val.f2i {b : Nat} {n : Int} (h : Val (Ieee.double.read b) n) (h1 : -2 ^ 63 ≤ n) (h2 : n < 2 ^ 63) : f2i .i64 (.float .f64 b) = some n := by
  refine f2i_of_toInt ?_ h1 h2
  obtain ⟨s, m, i, hd, hi, hv⟩ := h
  rw [hd]
  obtain ⟨hs, hm⟩ := Val.inv hv
  show some (signed s (Toward.zero.cut s (m <<< i.toNat) (-i).toNat) 0) = some n
  rcases Int.lt_or_le i 0 with hneg | hpos
  · have e1 : i.toNat = 0 := by omega
    have hk := hm (-i).toNat (by omega)
    rw [show (i + ((-i).toNat : Nat)).toNat = 0 by omega, Nat.pow_zero, Nat.mul_one] at hk
    rw [e1, shl_eq, Nat.pow_zero, Nat.mul_one, hk]
    by_cases hn : n = 0
    · subst hn
      simp [Toward.cut, signed_zero]
    · have hne : n.natAbs ≠ 0 := by omega
      rw [cut_exact _ _ _ _ (by rw [log2_shift hne]; omega), signed_abs_self n s 0 hs]
      simp
  · have e1 : (-i).toNat = 0 := by omega
    have hk := hm 0 (by omega)
    rw [show (i + ((0 : Nat) : Int)).toNat = i.toNat by omega, Nat.pow_zero, Nat.mul_one] at hk
    rw [e1, shl_eq, hk]
    have := cut_exact .zero s n.natAbs 0 (by omega)
    rw [Nat.pow_zero, Nat.mul_one] at this
    rw [this, signed_abs_self n s 0 hs]
    simp

theorem log2_le53 {N : Nat} (h0 : N ≠ 0) (h : N ≤ 2 ^ 53) : N.log2 ≤ 53 := by
  have hl1 : 2 ^ N.log2 ≤ N := Nat.log2_self_le h0
  rcases Nat.lt_or_ge N.log2 54 with h1 | h1
  · omega
  · have : 2 ^ 54 ≤ 2 ^ N.log2 := Nat.pow_le_pow_right (by omega) h1
    omega

/-- the digits that are kept -/
theorem kept_eq {N m : Nat} {p : Int} (s : Bool) (h0 : N ≠ 0) (h : N ≤ 2 ^ 53) (hp : p ≤ 1) (hm : ∀ k : Nat, 0 ≤ p + k → m * 2 ^ (p + k).toNat = N * 2 ^ k) :
    Toward.even.cut s (m <<< (p - ((N.log2 : Int) - 52)).toNat) ((N.log2 : Int) - 52 - p).toNat = if N.log2 = 53 then 2 ^ 52 else N * 2 ^ (52 - N.log2) := by
  have hL := log2_le53 h0 h
  have c0 : ∀ x : Nat, Toward.even.cut s x 0 = x := fun x => by
    have := cut_exact .even s x 0 (by omega)
    rwa [Nat.pow_zero, Nat.mul_one] at this
  by_cases h53 : N.log2 = 53
  · rw [if_pos h53, h53]
    have hl1 : 2 ^ N.log2 ≤ N := Nat.log2_self_le h0
    have hN : N = 2 ^ 53 := by rw [h53] at hl1; omega
    by_cases hp1 : p = 1
    · have := hm 0 (by omega)
      rw [hN, hp1] at this
      rw [hp1]
      have e : m = 2 ^ 52 := by simp at this; omega
      rw [e]
      exact c0 _
    · have := hm (-p).toNat (by omega)
      rw [show (p + ((-p).toNat : Nat)).toNat = 0 by omega, Nat.pow_zero, Nat.mul_one, hN] at this
      rw [show (p - (((53 : Nat) : Int) - 52)).toNat = 0 by omega, shl_eq, Nat.pow_zero, Nat.mul_one, this, show (((53 : Nat) : Int) - 52 - p).toNat = 1 + (-p).toNat by omega]
      have e : 2 ^ 53 * 2 ^ (-p).toNat = 2 ^ 52 * 2 ^ (1 + (-p).toNat) := by rw [Nat.pow_add, ← Nat.mul_assoc]
      rw [e]
      refine cut_exact _ _ _ _ ?_
      rw [← Nat.pow_add, Nat.log2_two_pow]
      omega
  · rw [if_neg h53]
    obtain ⟨q, hq⟩ : ∃ q, q = 52 - N.log2 := ⟨_, rfl⟩
    have hNL : (N.log2 : Int) - 52 = -(q : Int) := by omega
    rw [hNL, ← hq]
    rcases Int.lt_or_le p (-(q : Int)) with hlt | hge
    · have := hm (-p).toNat (by omega)
      rw [show (p + ((-p).toNat : Nat)).toNat = 0 by omega, Nat.pow_zero, Nat.mul_one] at this
      rw [show (p - -(q : Int)).toNat = 0 by omega, shl_eq, Nat.pow_zero, Nat.mul_one, this]
      have e : N * 2 ^ (-p).toNat = N * 2 ^ q * 2 ^ (-(q : Int) - p).toNat := by
        rw [Nat.mul_assoc, ← Nat.pow_add, show q + (-(q : Int) - p).toNat = (-p).toNat by omega]
      rw [e]
      refine cut_exact _ _ _ _ ?_
      rw [log2_shift (Nat.mul_ne_zero h0 (Nat.pos_iff_ne_zero.1 (Nat.pow_pos (by omega))))]
      omega
    · have := hm q (by omega)
      rw [show (-(q : Int) - p).toNat = 0 by omega, c0, shl_eq, show (p - -(q : Int)).toNat = (p + (q : Int)).toNat by omega, this]

theorem log2_place {N m : Nat} {p : Int} (h0 : N ≠ 0) (hm : ∀ k : Nat, 0 ≤ p + k → m * 2 ^ (p + k).toNat = N * 2 ^ k) : m ≠ 0 ∧ p + (m.log2 : Int) = (N.log2 : Int) := by
  have h1 := hm (-p).toNat (by omega)
  have hne : N * 2 ^ (-p).toNat ≠ 0 := Nat.mul_ne_zero h0 (Nat.pos_iff_ne_zero.1 (Nat.pow_pos (by omega)))
  have hm0 : m ≠ 0 := by rintro rfl; rw [Nat.zero_mul] at h1; exact hne h1.symm
  refine ⟨hm0, ?_⟩
  have h2 := congrArg Nat.log2 h1
  rw [log2_shift hm0, log2_shift h0] at h2
  omega

theorem nearest_place {N m : Nat} {p : Int} (s : Bool) (h0 : N ≠ 0) (h : N ≤ 2 ^ 53) (hp : p ≤ 1) (hm : ∀ k : Nat, 0 ≤ p + k → m * 2 ^ (p + k).toNat = N * 2 ^ k) : Ieee.double.nearest s m p = Ieee.double.nearest s N 0 := by
  obtain ⟨hm0, hl⟩ := log2_place h0 hm
  have hL := log2_le53 h0 h
  have hn : ∀ k : Nat, 0 ≤ (0 : Int) + k → N * 2 ^ ((0 : Int) + k).toNat = N * 2 ^ k := fun k _ => by rw [show ((0 : Int) + k).toNat = k by omega]
  unfold Ieee.Format.nearest
  rw [if_neg hm0, if_neg h0]
  have e1 : max (p + (m.log2 : Int) - (Ieee.double.fractionBits : Nat)) Ieee.double.leastPlace = (N.log2 : Int) - 52 := by rw [d_frac, d_least]; omega
  have e2 : max (0 + (N.log2 : Int) - (Ieee.double.fractionBits : Nat)) Ieee.double.leastPlace = (N.log2 : Int) - 52 := by rw [d_frac, d_least]; omega
  simp only [e1, e2]
  rw [kept_eq s h0 h hp hm, kept_eq s h0 h (by omega) hn]

/-- a whole number that is written and read -/
theorem Val.write {d : Datum} {n : Int} (h : Val d n) (hn : n.natAbs ≤ 2 ^ 53) : Val (Ieee.double.read (Ieee.double.write d)) n := by
  obtain ⟨s, m, i, hd, hi, hv⟩ := h
  obtain ⟨hs, hm⟩ := Val.inv hv
  subst hd
  show Val (Ieee.double.read (Ieee.double.nearest s m i)) n
  by_cases h0 : n = 0
  · subst h0
    have hm0 : m = 0 := by
      have := hm (-i).toNat (by omega)
      rw [show (0 : Int).natAbs = 0 by rfl, Nat.zero_mul] at this
      rcases Nat.mul_eq_zero.1 this with h | h
      · exact h
      · exact absurd h (Nat.pos_iff_ne_zero.1 (Nat.pow_pos (by omega)))
    subst hm0
    have : Ieee.double.read (Ieee.double.nearest s 0 i) = .number s 0 (-1074) := by
      unfold Ieee.Format.nearest
      rw [if_pos rfl]
      cases s <;> decide +kernel
    exact ⟨s, 0, -1074, this, by omega, fun k _ => by rw [signed_zero]; simp⟩
  · have hne : n.natAbs ≠ 0 := by omega
    rw [nearest_place s hne hn hi hm, hs h0]
    exact Val.near hn

/-- a sum -/
theorem Val.sum {x y : Datum} {a b : Int} (hx : Val x a) (hy : Val y b) : ∃ d, x.sum y = some d ∧ Val d (a + b) := by
  obtain ⟨s, m, i, rfl, hi, hv⟩ := hx
  obtain ⟨t, n, j, rfl, hj, hw⟩ := hy
  refine ⟨_, rfl, ?_⟩
  refine ⟨_, _, _, rfl, by omega, fun k hk => ?_⟩
  obtain ⟨base, hb⟩ : ∃ base, base = min i j := ⟨_, rfl⟩
  rw [← hb] at hk ⊢
  rw [signed_abs_self _ _ _ (fun h => by rw [if_neg h])]
  rw [Int.add_mul, signed_mul, signed_mul, show (i - base).toNat + (base + (k : Int)).toNat = (i + k).toNat by omega, show (j - base).toNat + (base + (k : Int)).toNat = (j + k).toNat by omega, hv k (by omega), hw k (by omega), Int.add_mul]

theorem Val.opposite {x : Datum} {a : Int} (hx : Val x a) : Val x.opposite (-a) := by
  obtain ⟨s, m, i, rfl, hi, hv⟩ := hx
  refine ⟨!s, m, i, rfl, hi, fun k hk => ?_⟩
  have := hv k hk
  rw [Int.neg_mul, ← this]
  unfold signed
  cases s <;> simp

/-- a float that is a whole number in reach -/
def FV (b : Nat) (n : Int) : Prop := Val (Ieee.double.read b) n ∧ n.natAbs ≤ 2 ^ 53
theorem FV.near {n : Int} (h : n.natAbs ≤ 2 ^ 53) : FV (FloatKind.nearest .f64 n) n := ⟨Val.near h, h⟩
theorem FV.f2i {b : Nat} {n : Int} (h : FV b n) : Arm.f2i .i64 (.float .f64 b) = some n := h.1.f2i (by have := h.2; omega) (by have := h.2; omega)
theorem FV.add {x y : Nat} {a b : Int} (hx : FV x a) (hy : FV y b) (h : (a + b).natAbs ≤ 2 ^ 53) : ∃ z, Ieee.double.add x y = some z ∧ FV z (a + b) := by
  obtain ⟨d, hd, hv⟩ := hx.1.sum hy.1
  exact ⟨_, by unfold Ieee.Format.add; rw [hd]; rfl, hv.write h, h⟩
theorem FV.sub {x y : Nat} {a b : Int} (hx : FV x a) (hy : FV y b) : ∃ z, Ieee.double.sub x y = some z := by
  obtain ⟨d, hd, hv⟩ := hx.1.sum hy.1.opposite
  exact ⟨_, by unfold Ieee.Format.sub; rw [hd]; rfl⟩

/-! ## whole numbers as they come -/
def Num (b : Nat) (n : Int) : Prop := (∃ s m i, Ieee.double.read b = .number s m i) ∧ Arm.f2i .i64 (.float .f64 b) = some n ∧ n.natAbs ≤ 2 ^ 53
theorem Num.zero : Num 0 0 := ⟨⟨false, 0, -1074, by decide +kernel⟩, by decide +kernel, by decide⟩
theorem Num.sub {x y : Nat} {a b : Int} (hx : Num x a) (hy : Num y b) : ∃ z, Ieee.double.sub x y = some z := by
  obtain ⟨⟨s, m, i, h1⟩, _⟩ := hx
  obtain ⟨⟨t, n, j, h2⟩, _⟩ := hy
  unfold Ieee.Format.sub
  rw [h1, h2]
  exact ⟨_, rfl⟩
theorem xor1_mod (x : Nat) : (x ^^^ 1) % 2 = (x + 1) % 2 := by
  have := @Nat.xor_mod_two_pow x 1 1
  rw [Nat.pow_one] at this
  rw [this]
  rcases Nat.mod_two_eq_zero_or_one x with h | h <;> rw [h] <;> simp <;> omega
theorem read_neg (b : Nat) (s : Bool) (m : Nat) (i : Int) (h : Ieee.double.read b = .number s m i) : Ieee.double.read (Op.negFloat .f64 b) = .number (!s) m i := by
  have e0 : Op.negFloat .f64 b = b ^^^ 2 ^ 63 := rfl
  have e1 : (b ^^^ 2 ^ 63) % 9223372036854775808 = b % 9223372036854775808 := by
    have := @Nat.xor_mod_two_pow b (2 ^ 63) 63
    rw [Nat.mod_self, Nat.xor_zero] at this
    exact this
  have e2 : ((b ^^^ 2 ^ 63) / 9223372036854775808 % 2 == 1) = !(b / 9223372036854775808 % 2 == 1) := by
    have := @Nat.xor_div_two_pow b (2 ^ 63) 63
    rw [Nat.div_self (by decide)] at this
    rw [show (9223372036854775808 : Nat) = 2 ^ 63 by decide, this, xor1_mod]
    rcases Nat.mod_two_eq_zero_or_one (b / 2 ^ 63) with h | h
    · rw [h, show (b / 2 ^ 63 + 1) % 2 = 1 by omega]; rfl
    · rw [h, show (b / 2 ^ 63 + 1) % 2 = 0 by omega]; rfl
  rw [e0]
  unfold Ieee.Format.read at h ⊢
  rw [d_binade, d_sign, d_inf, d_least] at h ⊢
  rw [e1, e2]
  simp only at h ⊢
  split at h
  · rename_i hc
    rw [if_pos hc]
    cases h; rfl
  · rename_i hc
    rw [if_neg hc]
    split at h
    · rename_i hd
      rw [if_pos hd]
      cases h; rfl
    · split at h <;> cases h
theorem cut_sign (s t : Bool) (m d : Nat) : Toward.zero.cut s m d = Toward.zero.cut t m d := rfl
theorem Num.neg {x : Nat} {a : Int} (hx : Num x a) : Arm.f2i .i64 (.float .f64 (Op.negFloat .f64 x)) = some (-a) := by
  obtain ⟨⟨s, m, i, h1⟩, h2, h3⟩ := hx
  refine f2i_of_toInt ?_ (by omega) (by omega)
  rw [read_neg x s m i h1]
  have hdec : FloatKind.decode .f64 x = Ieee.double.read x := rfl
  simp only [Arm.f2i, hdec, h1] at h2
  have e : (Datum.number s m i).toInt .zero = some (signed s (Toward.zero.cut s (m <<< i.toNat) (-i).toNat) 0) := rfl
  rw [e] at h2
  simp only at h2
  split at h2
  · have h2 := Option.some.inj h2
    show some (signed (!s) (Toward.zero.cut (!s) (m <<< i.toNat) (-i).toNat) 0) = some (-a)
    rw [cut_sign (!s) s, ← h2]
    unfold signed
    cases s <;> simp
  · cases h2
theorem cop_sub {a b c d x y : Nat} (h1 : Ieee.double.sub a c = some x) (h2 : Ieee.double.sub b d = some y) : fop .sub (.complex .f64 a b) (.complex .f64 c d) = some (.complex .f64 x y) := by
  have e1 : FloatKind.format .f64 = Ieee.double := rfl
  simp only [fop, Go.binOp, Op.complexOp, Op.Complex.arith, Op.floatArith, e1, h1, h2]
  rfl
theorem cop_add {a b c d x y : Nat} (h1 : Ieee.double.add a c = some x) (h2 : Ieee.double.add b d = some y) : fop .add (.complex .f64 a b) (.complex .f64 c d) = some (.complex .f64 x y) := by
  have e1 : FloatKind.format .f64 = Ieee.double := rfl
  simp only [fop, Go.binOp, Op.complexOp, Op.Complex.arith, Op.floatArith, e1, h1, h2]
  rfl
theorem cneg_eq (a b : Nat) : fneg (.complex .f64 a b) = some (.complex .f64 (Op.negFloat .f64 a) (Op.negFloat .f64 b)) := rfl
end Go.Arm
namespace Go.Arm
open Go.Proofs

def nOf (b : Nat) : Int := (f2i .i64 (.float .f64 b)).getD 0
theorem Num.nOf {b : Nat} {n : Int} (h : Num b n) : Arm.nOf b = n := by unfold Arm.nOf; rw [h.2.1]; rfl
theorem wholeB_num {b : Nat} (h : wholeB b = true) : Num b (nOf b) := by
  unfold wholeB at h
  simp only [Bool.and_eq_true] at h
  obtain ⟨⟨h1, h2⟩, h3⟩ := h
  cases hf : f2i .i64 (.float .f64 b) with
  | none => rw [hf] at h3; cases h3
  | some n =>
    have hne : Ieee.double.order b cLo ≠ none := by intro hn; rw [hn] at h1; simp at h1
    have hs := order_self hne
    have h1' : (Ieee.double.order b cLo == some .lt) = false := by
      cases ho : Ieee.double.order b cLo with
      | none => rfl
      | some x => rw [ho] at h1; cases x <;> simp at h1 ⊢
    have h2' : (Ieee.double.order b cHi == some .gt) = false := by
      cases ho : Ieee.double.order b cHi with
      | none => rfl
      | some x => rw [ho] at h2; cases x <;> simp at h2 ⊢
    obtain ⟨m, hm, hm1, hm2⟩ := f2i_reach h1' h2' hs
    rw [hf] at hm; cases hm
    have e : nOf b = n := by unfold nOf; rw [hf]; rfl
    rw [e]
    refine ⟨?_, hf, by omega⟩
    have hdec : FloatKind.decode .f64 b = Ieee.double.read b := rfl
    simp only [Arm.f2i, hdec] at hf
    cases hd : Ieee.double.read b with
    | number s m i => exact ⟨s, m, i, rfl⟩
    | infinity s => rw [hd] at hf; simp [Ieee.Datum.toInt, Ieee.Datum.integral] at hf
    | nan s t => rw [hd] at hf; simp [Ieee.Datum.toInt, Ieee.Datum.integral] at hf

theorem has_spec (k : Int) (h : H) : Ret E 115 [.int .i64 k] h fun v h' => v = .bool (decide (k = 2 ∨ k = 3 ∨ k = 6)) ∧ h' = h := by
  refine .of_fn rfl rfl (fun C L => delta_has_eq C L _ h) ?_
  simp only [delta_has]
  simp only [rd]
  by_cases h2 : k = 2
  · subst h2; simp only [rd, show ((2 : Int) == 2) = true from rfl]; exact .ret ⟨rfl, rfl⟩
  · simp only [rd, show (k == 2) = false by simp [h2]]
    by_cases h3 : k = 3
    · subst h3; simp only [rd, show ((3 : Int) == 3) = true from rfl]; exact .ret ⟨rfl, rfl⟩
    · simp only [rd, show (k == 3) = false by simp [h3]]
      exact .ret ⟨by simp [h2, h3]; rfl, rfl⟩

theorem sum_spec {a b : Nat} {x y : Int} (ha : f2i .i64 (.float .f64 a) = some x) (hb : f2i .i64 (.float .f64 b) = some y) (hx : x.natAbs ≤ 2 ^ 53) (hy : y.natAbs ≤ 2 ^ 53) (h : H) :
    Ret E 127 [.float .f64 a, .float .f64 b] h fun v h' => v = .bool (decide ((x + y).natAbs ≤ 2 ^ 53)) ∧ h' = h := by
  refine .of_fn rfl rfl (fun C L => delta_sum_eq C L _ h) ?_
  simp only [delta_sum]
  simp only [rd, ha, hb, wrap_i64 (x := x + y) (by omega) (by omega)]
  by_cases h1 : x + y ≥ -9007199254740992
  · simp only [rd, h1, decide_true]
    exact .ret ⟨by congr 1; simp; omega, rfl⟩
  · simp only [rd, h1, decide_false]
    exact .ret ⟨by congr 1; simp; omega, rfl⟩
theorem reach_spec {a b c d : Nat} {x y z u : Int} (ha : f2i .i64 (.float .f64 a) = some x) (hb : f2i .i64 (.float .f64 b) = some y) (hc : f2i .i64 (.float .f64 c) = some z) (hd : f2i .i64 (.float .f64 d) = some u)
    (hx : x.natAbs ≤ 2 ^ 53) (hy : y.natAbs ≤ 2 ^ 53) (hz : z.natAbs ≤ 2 ^ 53) (hu : u.natAbs ≤ 2 ^ 53) (h : H) :
    Ret E 118 [.complex .f64 a b, .complex .f64 c d] h fun v h' => v = .bool (decide ((x + z).natAbs ≤ 2 ^ 53) && decide ((y + u).natAbs ≤ 2 ^ 53)) ∧ h' = h := by
  refine .of_fn rfl rfl (fun C L => delta_reach_eq C L _ h) ?_
  simp only [delta_reach]
  simp only [rd, realV, imagV]
  refine .seq (sum_spec ha hc hx hz h) fun q ⟨q1, q2⟩ => ?_
  simp only [rd, q1, q2]
  cases decide ((x + z).natAbs ≤ 2 ^ 53) with
  | false => simp only [rd]; exact .ret ⟨rfl, rfl⟩
  | true =>
    simp only [rd]
    refine .seq (Q1 := fun w => w.1 = decide ((y + u).natAbs ≤ 2 ^ 53) ∧ w.2 = h) (.seq (sum_spec hb hd hy hu h) fun z ⟨z1, z2⟩ => ?_) fun w ⟨w1, w2⟩ => ?_
    · simp only [rd, z1, z2]; exact .ret ⟨rfl, rfl⟩
    · exact .ret ⟨by rw [w1, Bool.true_and], w2⟩
theorem dmay2_spec (a b : Nat) (h : H) : Ret E 117 [.complex .f64 a b] h fun v h' => v = .bool (wholeB a && wholeB b) ∧ h' = h := by
  refine .of_fn rfl rfl (fun C L => delta_may_eq C L _ h) ?_
  simp only [delta_may]
  simp only [rd, realV, imagV]
  refine .seq (dWhole_spec a h) fun q ⟨q1, q2⟩ => ?_
  simp only [rd, q1, q2]
  cases wholeB a with
  | false => simp only [rd]; exact .ret ⟨rfl, rfl⟩
  | true =>
    simp only [rd]
    refine .seq (Q1 := fun w => w.1 = wholeB b ∧ w.2 = h) (.seq (dWhole_spec b h) fun z ⟨z1, z2⟩ => ?_) fun w ⟨w1, w2⟩ => ?_
    · simp only [rd, z1, z2]; exact .ret ⟨rfl, rfl⟩
    · exact .ret ⟨by rw [w1, Bool.true_and], w2⟩

/-! ## a step -/
theorem bldT_47i (n : Int) : bldT E 47 [(2, .int .i64 n)] = some (celA { zCel with i := n }) := by kernel_rfl
theorem bldT_47u (n : Int) : bldT E 47 [(3, .int .u64 n)] = some (celA { zCel with u := n }) := by kernel_rfl
theorem bldT_47p (a b : Nat) : bldT E 47 [(5, .complex .f64 a b)] = some (celA { zCel with re := a, im := b }) := by kernel_rfl
def fsub (x y : Nat) : Nat := (Ieee.double.sub x y).getD 0
theorem Num.fsub {x y : Nat} {a b : Int} (hx : Num x a) (hy : Num y b) : Ieee.double.sub x y = some (Arm.fsub x y) := by
  obtain ⟨z, hz⟩ := hx.sub hy
  unfold Arm.fsub
  rw [hz]; rfl
def stepC (k : Int) (a b : Cel) : Cel :=
  if k = 2 then { zCel with i := IntKind.wrap .i64 (b.i - a.i) } else if k = 3 then { zCel with i := IntKind.wrap .i64 (IntKind.wrap .u64 (b.u - a.u)) } else { zCel with re := fsub b.re a.re, im := fsub b.im a.im }

/-- two cells and a third in new blocks -/
def new2 (h : H) (a b : Cel) : H := (h.new (.cells (celV a) 47 true false)).new (.cells (celV b) 47 true false)
def new3 (h : H) (a b : Cel) : H := (new2 h a b).new (.cells cz 47 true false)
theorem new2_next (h : H) (a b : Cel) : (new2 h a b).next = h.next + 2 := rfl
theorem new3_next (h : H) (a b : Cel) : (new3 h a b).next = h.next + 3 := rfl
theorem new3_0 (h : H) (a b : Cel) : (new3 h a b).get h.next = some (.cells (celV a) 47 true false) := H.get_new_old (H.get_new_old (get_new_self _ _))
theorem new3_1 (h : H) (a b : Cel) : (new3 h a b).get (h.next + 1) = some (.cells (celV b) 47 true false) := H.get_new_old (get_new_self (h.new (.cells (celV a) 47 true false)) _)
theorem new3_2 (h : H) (a b : Cel) : (new3 h a b).get (h.next + 2) = some (.cells cz 47 true false) := get_new_self (new2 h a b) _
theorem new3_kp (h : H) (a b : Cel) : Kp None' h (new3 h a b) := ((Kp.new _ _).thenNew _).thenNew _
theorem new3_fin (h : H) (a b c : Cel) (r : Value) : ((stV 6 (new3 h a b) (h.next + 2) 0 (celA c)).bind fun h22 => (ldA 6 h22 (h.next + 2) 0).bind fun v23 => some (Value.tuple #[v23, r], h22)) = some (.tuple #[celA c, r], (new3 h a b).put (h.next + 2) (some (.cells (celV c) 47 true false))) :=
  cel_fin (new3_2 h a b) rfl c r
theorem step_spec {k : Int} {a b : Cel} {h : H} (hk : k = 2 ∨ k = 3 ∨ k = 6) (hp : k = 6 → ∃ x y z u, Num a.re x ∧ Num a.im y ∧ Num b.re z ∧ Num b.im u) :
    Ret E 116 [.int .i64 k, celA a, celA b] h fun v h' => v = .tuple #[celA (stepC k a b), .int .i64 0] ∧ Kp None' h h' := by
  refine .of_fn rfl rfl (fun C L => delta_Step_eq C L _ h) ?_
  have e1 : (h.new (.cells (celV a) 47 true false)).next = h.next + 1 := rfl
  have e2 : (h.new (.cells (celV a) 47 true false)).new (.cells (celV b) 47 true false) = new2 h a b := rfl
  have e3 : (new2 h a b).new (.cells [(.bool false), (.bool false), (.int .i64 (0)), (.int .u64 (0)), (.string (bs [])), (.complex .f64 0 0)] 47 true false) = new3 h a b := rfl
  have kf : ∀ x, Kp None' h ((new3 h a b).put (h.next + 2) x) := fun x => (new3_kp h a b).putNew _ (by omega)
  simp only [delta_Step]
  simp only [rd, oneL_cel, e1, e2, e3, new2_next]
  unfold stepC
  rcases hk with rfl | rfl | rfl
  · have l1 : ldI .i64 (new3 h a b) (h.next + 1) (0 + 2) = some b.i := ldI_of (new3_1 h a b) rfl
    have l2 : ldI .i64 (new3 h a b) h.next (0 + 2) = some a.i := ldI_of (new3_0 h a b) rfl
    simp only [rd, show ((2 : Int) == 2) = true from rfl, l1, l2, bldT_47i, new3_fin, if_true]
    exact .ret ⟨rfl, kf _⟩
  · have l1 : ldI .u64 (new3 h a b) (h.next + 1) (0 + 3) = some b.u := ldI_of (new3_1 h a b) rfl
    have l2 : ldI .u64 (new3 h a b) h.next (0 + 3) = some a.u := ldI_of (new3_0 h a b) rfl
    simp only [rd, show ((3 : Int) == 2) = false from rfl, show ((3 : Int) == 3) = true from rfl, l1, l2, bldT_47i, new3_fin, show ¬ ((3 : Int) = 2) by decide, if_true, if_false]
    exact .ret ⟨rfl, kf _⟩
  · obtain ⟨x, y, z, u, hx, hy, hz, hu⟩ := hp rfl
    have l1 : ldV (new3 h a b) (h.next + 1) (0 + 5) = some (.complex .f64 b.re b.im) := ldV_of (new3_1 h a b) rfl rfl
    have l2 : ldV (new3 h a b) h.next (0 + 5) = some (.complex .f64 a.re a.im) := ldV_of (new3_0 h a b) rfl rfl
    simp only [rd, show ((6 : Int) == 2) = false from rfl, show ((6 : Int) == 3) = false from rfl, show ((6 : Int) == 6) = true from rfl, l1, l2, cop_sub (hz.fsub hx) (hu.fsub hy), bldT_47p, new3_fin, show ¬ ((6 : Int) = 2) by decide, show ¬ ((6 : Int) = 3) by decide, if_false]
    exact .ret ⟨rfl, kf _⟩

/-! ## Encode -/
def reachE (c last : Cel) : Bool := decide ((nOf c.re + -nOf last.re).natAbs ≤ 2 ^ 53) && decide ((nOf c.im + -nOf last.im).natAbs ≤ 2 ^ 53)
def deltaGo (k : Int) : Cel → List Cel → Option (List UInt8)
  | _, [] => some []
  | last, c :: l => if k = 6 then (if reachE c last then (deltaGo k c l).map (putE 6 (stepC 6 last c) ++ ·) else none) else (deltaGo k c l).map (uvarE (zig (stepC k last c).i) ++ ·)
def deltaE (k : Int) (l : List Cel) : Option (List UInt8) := if k = 2 ∨ k = 3 ∨ k = 6 then deltaGo k zCel l else none
/-- what the points are asked -/
def PtOK (k : Int) (c : Cel) : Prop := k = 6 → wholeB c.re = true ∧ wholeB c.im = true
theorem zPt : Num zCel.re 0 ∧ Num zCel.im 0 := ⟨Num.zero, Num.zero⟩
theorem stepOK (k : Int) (a b : Cel) : CelOK (stepC k a b) := by
  have w1 : ∀ x : Int, -2 ^ 63 ≤ IntKind.wrap .i64 x ∧ IntKind.wrap .i64 x < 2 ^ 63 := fun x => by rw [wrap_i64']; omega
  unfold stepC
  split
  · exact ⟨(w1 _).1, (w1 _).2, zU1, zU2, zS⟩
  · split
    · exact ⟨(w1 _).1, (w1 _).2, zU1, zU2, zS⟩
    · exact ⟨zI1, zI2, zU1, zU2, zS⟩
theorem stepS (k : Int) (a b : Cel) : (stepC k a b).s.size = 0 := by
  unfold stepC
  split
  · rfl
  · split <;> rfl

theorem deltaE_loop {h0 : H} {v : Value} {m0 p lb : Nat} {k : Int} (hk : k = 2 ∨ k = 3 ∨ k = 6) (hlb : h0.next ≤ lb) (hlp : lb ≠ p) : ∀ (post pre : List Cel) (last : Cel) {h : H} {l : List UInt8}, Sl 6 47 m0 h0 v (pre ++ post).length ((pre ++ post).flatMap celV) → (∀ c ∈ post, PtOK k c) → (k = 6 → Num last.re (nOf last.re) ∧ Num last.im (nOf last.im)) → (pre ++ post).length < 2 ^ 30 → WA h0 h p l → (∀ b, Buf h p b → b ≠ lb) → h.get lb = some (.cells (celV last) 47 true false) → l.length + post.length * 100 ≤ 2 ^ 37 →
    RetL E 106 6 [.int .i64 k, ptr p 0, ptr lb 0, v, .int .i64 ((pre ++ post).length : Nat), .int .i64 (pre.length : Nat)] h fun b vals h' => match deltaGo k last post with
      | some r => b = 0 ∧ vals = [ptr p 0] ∧ WA h0 h' p (l ++ r)
      | none => b = 1 ∧ vals = [.string (bs []), .int .i64 12] ∧ Kp None' h0 h'
  | [], pre, last, h, l, hs, hok, hlast, hn, w, hbl, gl, hl => by
    refine .of_lp rfl (fun C L => delta_Encode_L6_eq C L _ h) ?_
    simp only [delta_Encode_L6]
    simp only [rd, asP_ptr, List.append_nil, Int.lt_irrefl, decide_false]
    exact .ret ⟨rfl, rfl, by simpa using w⟩
  | c :: post, pre, last, h, l, hs, hok, hlast, hn, w, hbl, gl, hl => by
    refine .of_lp rfl (fun C L => delta_Encode_L6_eq C L _ h) ?_
    have hi : pre.length < (pre ++ c :: post).length := by simp
    obtain ⟨b, _, hix, hce⟩ := (hs.kpN w.k).cur
    have hc := hok c (by simp)
    simp only [List.length_cons] at hl
    have k2 := tmp_kp h c
    have gc2 := tmp_get h c
    have gl2 := k2.get gl (fun h => h)
    have hne : h.next ≠ lb := by have := H.get_lt gl; omega
    simp only [delta_Encode_L6]
    simp only [rd, asP_ptr, lt_dec hi, hix, hce, tmp_st, cel_ld gc2, cel_ld gl2]
    refine .seq (step_spec (a := last) (b := c) hk (fun h6 => ⟨_, _, _, _, (hlast h6).1, (hlast h6).2, wholeB_num (hc h6).1, wholeB_num (hc h6).2⟩)) fun q ⟨q1, kq⟩ => ?_
    have gc3 := kq.get gc2 (fun h => h)
    have gl3 := kq.get gl2 (fun h => h)
    have k4 := tmp_kp q.2 (stepC k last c)
    have gs4 := tmp_get q.2 (stepC k last c)
    have gc4 := k4.get gc3 (fun h => h)
    have gl4 := k4.get gl3 (fun h => h)
    have w4 := ((w.other k2).other kq).other k4
    have kk4 : Kp None' h (tmp q.2 (stepC k last c)) := (k2.then kq).then k4
    have hb4 : ∀ b, Buf (tmp q.2 (stepC k last c)) p b → b ≠ lb ∧ b ≠ h.next := fun b hb => by
      have h1 := (w.w.kp kk4 (fun h => h) (fun _ _ h => h)).2 b hb
      have := H.get_lt (w.w.buf h1).1
      exact ⟨hbl b h1, by omega⟩
    simp only [rd, q1, tmp_stA, show ((0 : Int) != 0) = false from rfl]
    -- the rest, after the step is written
    have rest : ∀ (h5 : H) (l' : List UInt8), Wr h5 p (l ++ l') → KpW p (tmp q.2 (stepC k last c)) h5 → l'.length ≤ 100 → W E (fun _ L => (ldA 6 h5 h.next 0).bind fun v29 => (stV 6 h5 lb 0 v29).bind fun h30 => L 106 6 [.int .i64 k, ptr p 0, ptr lb 0, v, .int .i64 ((pre ++ c :: post).length : Nat), .int .i64 (IntKind.wrap .i64 ((pre.length : Nat) + (1 : Int)))] h30) fun z =>
        match (deltaGo k c post).map (l' ++ ·) with
        | some r => z.1 = 0 ∧ z.2.1 = [ptr p 0] ∧ WA h0 z.2.2 p (l ++ r)
        | none => z.1 = 1 ∧ z.2.1 = [.string (bs []), .int .i64 12] ∧ Kp None' h0 z.2.2 := by
      intro h5 l' w5 k5 hl'
      have hpl : h.next ≠ p := by have := w.w.lt; omega
      have keep : ∀ b x, b ≠ p → (∀ b', Buf (tmp q.2 (stepC k last c)) p b' → b' ≠ b) → (tmp q.2 (stepC k last c)).get b = some x → h5.get b = some x := fun b x hbp hnb hg => by
        rw [k5.keep b (H.get_lt hg) hbp (fun hb => hnb b hb rfl)]; exact hg
      have gc5 := keep _ _ hpl (fun b' hb => (hb4 b' hb).2) gc4
      have gl5 := keep _ _ hlp (fun b' hb => (hb4 b' hb).1) gl4
      have wa5 := w4.step w5 k5
      have hb5 : ∀ b, Buf h5 p b → b ≠ lb := fun b hb => (k5.buf b hb).elim (fun h => (hb4 b h).1) (fun h => by have := H.get_lt gl4; omega)
      obtain ⟨h6, hh6⟩ : ∃ h6, h6 = h5.put lb (some (.cells (celV c) 47 true false)) := ⟨_, rfl⟩
      have gl6 : h6.get lb = some (.cells (celV c) 47 true false) := by rw [hh6]; exact H.get_put_same _ _ _ (H.get_lt gl5)
      obtain ⟨w6, b6⟩ := w5.putX lb (some (.cells (celV c) 47 true false)) hlp (fun hb => hb5 lb hb rfl)
      rw [← hh6] at w6 b6
      have wa6 : WA h0 h6 p (l ++ l') := ⟨by rw [hh6]; exact wa5.k.putNew _ hlb, w6, wa5.pl, fun b hb => wa5.b b (b6 b hb)⟩
      simp only [rd, cel_ld gc5, cel_st gl5 (celV_len _) c, ← hh6, wsucc (x := c) (show pre.length < 2 ^ 62 by omega)]
      rw [app_assoc1] at hs hn ⊢
      refine W.mono (deltaE_loop hk hlb hlp post (pre ++ [c]) c hs (fun d hd => hok d (by simp [hd])) (fun h6 => ⟨wholeB_num (hc h6).1, wholeB_num (hc h6).2⟩) hn wa6 (fun b hb => hb5 b (b6 b hb)) gl6 (by rw [List.length_append]; omega)) fun r hr => ?_
      cases hd : deltaGo k c post with
      | none => rw [hd] at hr; exact hr
      | some x => rw [hd] at hr; simp only [Option.map_some]; rw [← List.append_assoc]; exact hr
    unfold deltaGo
    by_cases h6 : k = 6
    · subst h6
      have lp1 : ldV (tmp q.2 (stepC 6 last c)) h.next (0 + 5) = some (.complex .f64 c.re c.im) := ldV_of gc4 rfl rfl
      have lp2 : ldV (tmp q.2 (stepC 6 last c)) lb (0 + 5) = some (.complex .f64 last.re last.im) := ldV_of gl4 rfl rfl
      simp only [rd, show ((6 : Int) != 6) = false from rfl, lp1, if_true]
      refine .seq (dmay2_spec c.re c.im _) fun y ⟨y1, y2⟩ => ?_
      have hw := hc rfl
      have n1 := wholeB_num hw.1
      have n2 := wholeB_num hw.2
      have n3 := (hlast rfl).1
      have n4 := (hlast rfl).2
      simp only [rd, y1, y2, hw.1, hw.2, Bool.and_self, lp1, lp2, cneg_eq]
      refine .seq (Q1 := fun z => z.1 = reachE c last ∧ z.2 = tmp q.2 (stepC 6 last c)) (.seq (reach_spec n1.2.1 n2.2.1 n3.neg n4.neg n1.2.2 n2.2.2 (by rw [Int.natAbs_neg]; exact n3.2.2) (by rw [Int.natAbs_neg]; exact n4.2.2) _) fun z ⟨z1, z2⟩ => ?_) fun z ⟨z1, z2⟩ => ?_
      · simp only [rd, z1, z2]; exact .ret ⟨rfl, rfl⟩
      · simp only [rd, z1, z2]
        cases hr : reachE c last with
        | false =>
          simp only [rd, Bool.false_eq_true, if_false]
          exact .ret ⟨rfl, rfl, w4.k⟩
        | true =>
          simp only [rd, cel_ld gs4, if_true]
          have hpl := putE_len (k := 6) (stepOK 6 last c)
          have hsz := stepS 6 last c
          refine .seq (cPut_spec (k := 6) (stepOK 6 last c) w4.w (by omega)) fun x ⟨_, x2, x3⟩ => ?_
          exact rest x.2 _ x2 x3 (by omega)
    · have lp1 : ldI .i64 (tmp q.2 (stepC k last c)) q.2.next (0 + 2) = some (stepC k last c).i := ldI_of gs4 rfl
      simp only [rd, show (k != 6) = true by simp [h6], lp1, h6, if_false]
      have hz := (zigI_eq (stepC k last c).i).2
      have hzl := uvarE_len hz
      refine .seq (svar_spec (x := (stepC k last c).i) w4.w (by omega)) fun x ⟨_, x2, x3⟩ => ?_
      exact rest x.2 _ x2 x3 (by omega)

theorem deltaE_spec {h : H} {v : Value} {m0 : Nat} {k : Int} {l : List Cel} (hs : Sl 6 47 m0 h v l.length (l.flatMap celV)) (hok : ∀ c ∈ l, PtOK k c) (hn : l.length < 2 ^ 30) :
    Ret E 106 [.int .i64 k, v] h fun r h' => Kp None' h h' ∧ match deltaE k l with
      | some t => r = .tuple #[.string ⟨⟨t⟩⟩, .int .i64 0]
      | none => r = .tuple #[.string (bs []), .int .i64 (if k = 2 ∨ k = 3 ∨ k = 6 then 12 else 14)] := by
  refine .of_fn rfl rfl (fun C L => delta_Encode_eq C L _ h) ?_
  simp only [delta_Encode]
  simp only [rd]
  refine .seq (has_spec k h) fun q ⟨q1, q2⟩ => ?_
  simp only [rd, q1, q2]
  unfold deltaE
  by_cases hk : k = 2 ∨ k = 3 ∨ k = 6
  · obtain ⟨h1, hh1⟩ : ∃ h1, h1 = h.new (.cells [.slice none 0 0] 61 true false) := ⟨_, rfl⟩
    have wa : WA h h1 h.next [] := by rw [hh1]; exact .make (.refl _ _)
    have n1 : h1.next = h.next + 1 := by rw [hh1]; rfl
    have hnb : ∀ b, ¬ Buf h1 h.next b := by
      rintro b ⟨n, c, hb⟩
      rw [hh1, cellAt_of (get_new_self _ _)] at hb
      simp at hb
    obtain ⟨h2, hh2⟩ : ∃ h2, h2 = h1.new (.cells cz 47 true false) := ⟨_, rfl⟩
    have k2 : Kp None' h1 h2 := by rw [hh2]; exact .new _ _
    have hb2 := (wa.w.kp k2 (fun h => h) (fun _ _ h => h)).2
    have g2 : h2.get (h.next + 1) = some (.cells (celV zCel) 47 true false) := by rw [hh2, ← n1]; exact get_new_self _ _
    simp only [rd, hk, decide_true, Bool.not_true, ← hh1, ← hh2, hs.len, if_true, n1]
    refine .seq (deltaE_loop (h0 := h) hk (Nat.le_succ _) (by omega) l [] zCel hs (by simpa using hok) (fun _ => ⟨by rw [zPt.1.nOf]; exact zPt.1, by rw [zPt.2.nOf]; exact zPt.2⟩) (by simpa using hn) (wa.other k2) (fun b hb => absurd (hb2 b hb) (hnb b)) g2 (by simp; omega)) fun r hr => ?_
    cases hd : deltaGo k zCel l with
    | some t =>
      rw [hd] at hr
      obtain ⟨r1, r2, r3⟩ := hr
      simp only [rd, r1, r2, show ((0 : Nat) == 0) = true from rfl, asP_ptr]
      refine .seq (string_spec r3.w) fun z ⟨z1, z2⟩ => ?_
      simp only [rd, z1, z2]
      exact .ret ⟨r3.k, by simp⟩
    | none =>
      rw [hd] at hr
      obtain ⟨r1, r2, r3⟩ := hr
      simp only [rd, r1, r2, show ((1 : Nat) == 0) = false from rfl]
      exact .ret ⟨r3, rfl⟩
  · simp only [rd, hk, decide_false, Bool.not_false, if_false]
    exact .ret ⟨.refl _ _, rfl⟩
end Go.Arm
namespace Go.Arm
open Go.Proofs

theorem FV.zero : FV 0 0 := by
  have := FV.near (n := 0) (by decide)
  rw [nearest0] at this
  exact this
/-- a cell whose point is of whole numbers -/
def PV (c : Cel) (x y : Int) : Prop := FV c.re x ∧ FV c.im y
theorem PV.zero {c : Cel} (h1 : c.re = 0) (h2 : c.im = 0) : PV c 0 0 := by unfold PV; rw [h1, h2]; exact ⟨FV.zero, FV.zero⟩

theorem getD_pv {l : List UInt8} {c : Cel} {n : Nat} (h : getD 6 l = .ok (c, n)) : ∃ x y, PV c x y := by
  unfold getD at h
  split at h
  · cases h
  · cases h
  · rename_i c' n' e
    simp only [Except.ok.injEq, Prod.mk.injEq] at h
    obtain ⟨rfl, rfl⟩ := h
    unfold cellD at e
    rw [if_neg (by decide), if_neg (by decide), if_neg (by decide), if_neg (by decide)] at e
    split at e
    · cases e
    · cases e
    · split at e
      · cases e
      · cases e
      · split at e
        · rename_i hr
          cases e
          exact ⟨_, _, FV.near hr.1, FV.near hr.2⟩
        · cases e

theorem dnext_spec {k : Int} {h : H} {p : Nat} {s : ByteArray} {a : Nat} (hk : k = 2 ∨ k = 3 ∨ k = 6) (r : Rd h p s a 0) (ha : a ≤ s.size) (hs : s.size ≤ 2 ^ 38) (ht : Tabs h) (hp : 2 ≤ p) :
    Ret E 119 [ptr p 0, .int .i64 k] h fun v h' => Kp (Only p) h h' ∧ ((∃ e c, DErr e ∧ v = .tuple #[celA c, .int .i64 e]) ∨
      (∃ (c : Cel) (n : Nat), v = .tuple #[celA c, .int .i64 0] ∧ Rd h' p s (a + n) 0 ∧ a + n ≤ s.size ∧ ∃ x y, PV c x y)) := by
  refine .of_fn rfl rfl (fun C L => delta_next_eq C L _ h) ?_
  obtain ⟨h2, hh2⟩ : ∃ h2, h2 = h.new (.cells cz 47 true false) := ⟨_, rfl⟩
  have g2 : h2.get h.next = some (.cells (celV zCel) 47 true false) := by rw [hh2]; exact get_new_self _ _
  have k2 : Kp None' h h2 := by rw [hh2]; exact .new _ _
  have r2 := r.kpX k2 (fun h => h)
  have hlt := r.lt
  have hpn : h.next ≠ p := by omega
  have ht2 := ht.kp k2 (fun h => h) (fun h => h)
  have fin : ∀ {h3 : H} (c : Cel), Kp (Only p) h2 h3 → ∃ h4, stV 6 h3 h.next 0 (celA c) = some h4 ∧ ldA 6 h4 h.next 0 = some (celA c) ∧ Kp (Only p) h h4 ∧ ∀ {a' : Nat} {e' : Int}, Rd h3 p s a' e' → Rd h4 p s a' e' := by
    intro h3 c k3
    have g3 := k3.get g2 (by simp only [Only]; exact hpn)
    refine ⟨h3.put h.next (some (.cells (celV c) 47 true false)), cel_st g3 (celV_len _) c, cel_ld (H.get_put_same _ _ _ (H.get_lt g3)), ?_, fun r => r.put hpn _⟩
    refine Kp.putNew ?_ _ (Nat.le_refl _)
    exact ⟨Nat.le_trans k2.1 k3.1, fun b hb hx => by
      have := k2.1
      rw [k3.2 b (by omega) hx, k2.2 b hb (fun h => h)]⟩
  simp only [delta_next]
  simp only [rd, ← hh2]
  by_cases h6 : k = 6
  · subst h6
    simp only [rd, show ((6 : Int) == 6) = true from rfl]
    refine .seq (get_spec (by decide) r2 ha hs ht2 hp) fun q ⟨kq, hq⟩ => ?_
    cases hg : getD 6 (rest s a) with
    | error e =>
      rw [hg] at hq
      obtain ⟨hv, _⟩ := hq
      obtain ⟨h4, e1, e2, e3, _⟩ := fin zCel kq
      simp only [rd, hv, e1, e2]
      have : DErr e := by rcases getD_err hg with h | h <;> simp [DErr, h]
      exact .ret ⟨e3, .inl ⟨e, zCel, this, rfl⟩⟩
    | ok cn =>
      obtain ⟨c, n⟩ := cn
      rw [hg] at hq
      obtain ⟨hv, r3⟩ := hq
      have hgo := getD_ok (by decide) hg
      obtain ⟨h4, e1, e2, e3, e4⟩ := fin c kq
      simp only [rd, hv, e1, e2]
      refine .ret ⟨e3, .inr ⟨c, n, rfl, e4 r3, ?_, getD_pv hg⟩⟩
      have := hgo.2.2.1
      rw [rest_length] at this
      omega
  · simp only [rd, show (k == 6) = false by simp [h6]]
    refine .seq (rSvar_ok r2 ha hs) fun q ⟨kq, hq⟩ => ?_
    rcases hq with ⟨e, he, hv, r3⟩ | ⟨y, n, hv, r3, hn, hy, _, _⟩
    · simp only [rd, hv, bldT_47i]
      refine .seq (err_spec r3) fun z ⟨z1, z2⟩ => ?_
      obtain ⟨h4, e1, e2, e3, e4⟩ := fin { zCel with i := unzI 0 } kq
      simp only [rd, z1, z2, e1, e2]
      exact .ret ⟨e3, .inl ⟨e, _, he.derr, rfl⟩⟩
    · simp only [rd, hv, bldT_47i]
      refine .seq (err_spec r3) fun z ⟨z1, z2⟩ => ?_
      obtain ⟨h4, e1, e2, e3, e4⟩ := fin { zCel with i := unzI y } kq
      simp only [rd, z1, z2, e1, e2]
      exact .ret ⟨e3, .inr ⟨_, n, rfl, e4 r3, hn, 0, 0, PV.zero rfl rfl⟩⟩

theorem go_spec {k : Int} {a b : Cel} {h : H} {x y z u : Int} (hk : k = 2 ∨ k = 3 ∨ k = 6) (ha : PV a x y) (hb : PV b z u) (h1 : (x + z).natAbs ≤ 2 ^ 53) (h2 : (y + u).natAbs ≤ 2 ^ 53) :
    Ret E 120 [.int .i64 k, celA a, celA b] h fun v h' => Kp None' h h' ∧ ∃ c x y, v = .tuple #[celA c, .int .i64 0] ∧ CelOK c ∧ PV c x y := by
  refine .of_fn rfl rfl (fun C L => delta_Go_eq C L _ h) ?_
  have e1 : (h.new (.cells (celV a) 47 true false)).next = h.next + 1 := rfl
  have e2 : (h.new (.cells (celV a) 47 true false)).new (.cells (celV b) 47 true false) = new2 h a b := rfl
  have e3 : (new2 h a b).new (.cells [(.bool false), (.bool false), (.int .i64 (0)), (.int .u64 (0)), (.string (bs [])), (.complex .f64 0 0)] 47 true false) = new3 h a b := rfl
  have kf : ∀ x, Kp None' h ((new3 h a b).put (h.next + 2) x) := fun x => (new3_kp h a b).putNew _ (by omega)
  have w1 : ∀ x : Int, -2 ^ 63 ≤ IntKind.wrap .i64 x ∧ IntKind.wrap .i64 x < 2 ^ 63 := fun x => by rw [wrap_i64']; omega
  have w2 : ∀ x : Int, 0 ≤ IntKind.wrap .u64 x ∧ IntKind.wrap .u64 x < 2 ^ 64 := fun x => by rw [wrap_u64']; omega
  simp only [delta_Go]
  simp only [rd, oneL_cel, e1, e2, e3, new2_next]
  rcases hk with rfl | rfl | rfl
  · have l1 : ldI .i64 (new3 h a b) (h.next + 1) (0 + 2) = some b.i := ldI_of (new3_1 h a b) rfl
    have l2 : ldI .i64 (new3 h a b) h.next (0 + 2) = some a.i := ldI_of (new3_0 h a b) rfl
    simp only [rd, show ((2 : Int) == 2) = true from rfl, l1, l2, bldT_47i, new3_fin]
    exact .ret ⟨kf _, _, 0, 0, rfl, ⟨(w1 _).1, (w1 _).2, zU1, zU2, zS⟩, PV.zero rfl rfl⟩
  · have l1 : ldI .i64 (new3 h a b) (h.next + 1) (0 + 2) = some b.i := ldI_of (new3_1 h a b) rfl
    have l2 : ldI .u64 (new3 h a b) h.next (0 + 3) = some a.u := ldI_of (new3_0 h a b) rfl
    simp only [rd, show ((3 : Int) == 2) = false from rfl, show ((3 : Int) == 3) = true from rfl, l1, l2, bldT_47u, new3_fin]
    exact .ret ⟨kf _, _, 0, 0, rfl, ⟨zI1, zI2, (w2 _).1, (w2 _).2, zS⟩, PV.zero rfl rfl⟩
  · obtain ⟨re, hre, fre⟩ := ha.1.add hb.1 h1
    obtain ⟨im, him, fim⟩ := ha.2.add hb.2 h2
    have l1 : ldV (new3 h a b) (h.next + 1) (0 + 5) = some (.complex .f64 b.re b.im) := ldV_of (new3_1 h a b) rfl rfl
    have l2 : ldV (new3 h a b) h.next (0 + 5) = some (.complex .f64 a.re a.im) := ldV_of (new3_0 h a b) rfl rfl
    simp only [rd, show ((6 : Int) == 2) = false from rfl, show ((6 : Int) == 3) = false from rfl, show ((6 : Int) == 6) = true from rfl, l1, l2, cop_add hre him, bldT_47p, new3_fin]
    exact .ret ⟨kf _, _, _, _, rfl, ⟨zI1, zI2, zU1, zU2, zS⟩, fre, fim⟩

theorem deltaD_loop {h0 : H} {p lb : Nat} {s : ByteArray} {k : Int} {N : Nat} (hk : k = 2 ∨ k = 3 ∨ k = 6) (hN : N ≤ 10000) (hs : s.size ≤ 2 ^ 38) (ht : Tabs h0) (hp : h0.next ≤ p) (hp2 : 2 ≤ p) (hlb : p < lb) : ∀ (n : Nat) (pre : List Cel) {a : Nat} {h : H} {v : Value} {last : Cel} {x y : Int}, pre.length + n = N → a ≤ s.size → Rd h p s a 0 → Kp None' h0 h →
    h.get lb = some (.cells (celV last) 47 true false) → PV last x y → Sl 6 47 (lb + 1) h v pre.length (pre.flatMap celV) → (∀ c ∈ pre, CelOK c) →
    RetL E 107 9 [.int .i64 k, ptr p 0, v, ptr lb 0, .int .i64 (N : Nat), .int .i64 (pre.length : Nat)] h fun b vals h' => Kp None' h0 h' ∧ ((∃ (a' : Nat) (v' : Value) (l : List Cel), b = 0 ∧ vals = [ptr p 0, v'] ∧ a' ≤ s.size ∧ Rd h' p s a' 0 ∧ l.length = N ∧ (∀ c ∈ l, CelOK c) ∧ Sl 6 47 (lb + 1) h' v' l.length (l.flatMap celV)) ∨
      (∃ e, DErr e ∧ b = 1 ∧ vals = [.slice none 0 0, .int .i64 e]))
  | 0, pre, a, h, v, last, x, y, hn, ha, r, kk, gl, hv, sl, hok => by
    refine .of_lp rfl (fun C L => delta_Decode_L9_eq C L _ h) ?_
    simp only [delta_Decode_L9]
    simp only [rd, asP_ptr, ge_dec (show N ≤ pre.length by omega)]
    exact .ret ⟨kk, .inl ⟨a, v, pre, rfl, rfl, ha, r, by omega, hok, sl⟩⟩
  | n + 1, pre, a, h, v, last, x, y, hn, ha, r, kk, gl, hpv, sl, hok => by
    refine .of_lp rfl (fun C L => delta_Decode_L9_eq C L _ h) ?_
    simp only [delta_Decode_L9]
    simp only [rd, asP_ptr, lt_dec (show pre.length < N by omega)]
    refine .seq (dnext_spec hk r ha hs (ht.kp kk (fun h => h) (fun h => h)) hp2) fun q ⟨kq, hq⟩ => ?_
    have kk1 := kk.hiO kq hp
    rcases hq with ⟨e, c, he, hv⟩ | ⟨c, m, hv, r', hm, z, u, hc⟩
    · simp only [rd, hv, tmp_stA, he.bne]
      exact .ret ⟨kk1.then (tmp_kp _ _), .inr ⟨e, he, rfl, rfl⟩⟩
    · have kt := tmp_kp q.2 c
      have gs := tmp_get q.2 c
      have gl1 := kq.get gl (by simp only [Only]; omega)
      have gl2 := kt.get gl1 (fun h => h)
      have lp1 : ldV (tmp q.2 c) lb (0 + 5) = some (.complex .f64 last.re last.im) := ldV_of gl2 rfl rfl
      have lp2 : ldV (tmp q.2 c) q.2.next (0 + 5) = some (.complex .f64 c.re c.im) := ldV_of gs rfl rfl
      simp only [rd, hv, tmp_stA, show ((0 : Int) != 0) = false from rfl, lp1, lp2]
      refine .seq (reach_spec hpv.1.f2i hpv.2.f2i hc.1.f2i hc.2.f2i hpv.1.2 hpv.2.2 hc.1.2 hc.2.2 _) fun y1 ⟨y2, y3⟩ => ?_
      simp only [rd, y2, y3]
      by_cases hreach : (x + z).natAbs ≤ 2 ^ 53 ∧ (y + u).natAbs ≤ 2 ^ 53
      · simp only [rd, hreach.1, hreach.2, decide_true, Bool.and_self, Bool.not_true, cel_ld gl2, cel_ld gs]
        refine .seq (go_spec hk hpv hc hreach.1 hreach.2) fun w ⟨kw, d, x', y', hw, hd, hpd⟩ => ?_
        have gl3 := kw.get gl2 (fun h => h)
        obtain ⟨h6, hh6⟩ : ∃ h6, h6 = w.2.put lb (some (.cells (celV d) 47 true false)) := ⟨_, rfl⟩
        have gl6 : h6.get lb = some (.cells (celV d) 47 true false) := by rw [hh6]; exact H.get_put_same _ _ _ (H.get_lt gl3)
        have k6 : Kp (Only lb) w.2 h6 := by rw [hh6]; exact .put _ _ rfl
        have hne : lb ≠ p := by omega
        have r6 : Rd h6 p s (a + m) 0 := by rw [hh6]; exact ((r'.kpX kt (fun h => h)).kpX kw (fun h => h)).put hne _
        have kn : Kp None' h6 (h6.new (.cells (celV d) 47 true false)) := .new _ _
        have hk1 := kk1.1
        have hlt := H.get_lt gl6
        have hlt1 := H.get_lt gl1
        have kk6 : Kp None' h0 h6 := (kk1.then kt |>.then kw).hiO k6 (by omega)
        have sl6 : Sl 6 47 (lb + 1) h6 v pre.length (pre.flatMap celV) := (((sl.kpO kq (by omega)).kpN kt).kpN kw).kpO k6 (by omega)
        obtain ⟨v', h', a1, a2, a3⟩ := (sl6.kpN kn).app1 (bytes := 56) (x := d) celV_len celV_one (get_new_self _ _) (by omega) (by unfold roomy; omega) (by rw [H.next_new]; omega)
        simp only [rd, hw, show ((0 : Int) != 0) = false from rfl, cel_st gl3 (celV_len _) d, ← hh6, cel_ld gl6, bldS_41, a1, wsucc (x := c) (show pre.length < 2 ^ 62 by omega)]
        have el : (pre ++ [c]).length = (pre ++ [d]).length := by simp
        rw [el]
        refine deltaD_loop hk hN hs ht hp hp2 hlb n (pre ++ [d]) (a := a + m) (by simp; omega) hm ((r6.kpX kn (fun h => h)).kpX a3 (by omega)) ((kk6.then kn).hi a3 fun b hb => .inr (by omega)) (a3.get (kn.get gl6 (fun h => h)) (by omega)) hpd a2 ?_
        intro d' hd'
        rcases List.mem_append.1 hd' with hd' | hd'
        · exact hok d' hd'
        · rw [List.mem_singleton.1 hd']; exact hd
      · have hb : (decide ((x + z).natAbs ≤ 2 ^ 53) && decide ((y + u).natAbs ≤ 2 ^ 53)) = false := by
          rw [← Bool.decide_and]; exact decide_eq_false hreach
        simp only [rd, hb, Bool.not_false]
        exact .ret ⟨kk1.then kt, .inr ⟨12, by simp [DErr], rfl, rfl⟩⟩

theorem deltaD_spec {h : H} {s : ByteArray} {k : Int} {N : Nat} (hN : N ≤ 10000) (hs : s.size < 2 ^ 38) (ht : Tabs h) : Ret E 107 [.int .i64 k, .string s, .int .i64 (N : Nat)] h fun v h' => Kp None' h h' ∧ DecR h h' v := by
  have h2 : 2 ≤ h.next := by
    obtain ⟨t, t', _, h1⟩ := ht
    have := H.get_lt h1; omega
  refine .of_fn rfl rfl (fun C L => delta_Decode_eq C L _ h) ?_
  simp only [delta_Decode]
  simp only [rd]
  refine .seq (has_spec k h) fun q ⟨q1, q2⟩ => ?_
  have d1 : decide (((N : Nat) : Int) < 0) = false := by simp
  have d2 : decide (((N : Nat) : Int) > 10000) = false := by simp; omega
  simp only [rd, q1, q2]
  by_cases hk : k = 2 ∨ k = 3 ∨ k = 6
  · simp only [rd, hk, decide_true, Bool.not_true, d1, d2]
    refine .seq (read_spec s h) fun q1 ⟨hv1, r1, k1⟩ => ?_
    have hlt := r1.lt
    obtain ⟨h3, hh3⟩ : ∃ h3, h3 = q1.2.new (.cells cz 47 true false) := ⟨_, rfl⟩
    have g3 : h3.get q1.2.next = some (.cells (celV zCel) 47 true false) := by rw [hh3]; exact get_new_self _ _
    have k3 : Kp None' q1.2 h3 := by rw [hh3]; exact .new _ _
    simp only [rd, hv1, ← hh3]
    have hloop := deltaD_loop (h0 := h) (lb := q1.2.next) hk hN (by omega) ht (Nat.le_refl _) h2 hlt N [] (a := 0) (by simp) (Nat.zero_le _) (r1.kpX k3 (fun h => h)) (k1.then k3) g3 (PV.zero rfl rfl) .nil (by simp)
    refine .seq hloop fun z ⟨z1, hz⟩ => ?_
    rcases hz with ⟨a', v', l, b0, hv, ha', r', hl, hok, sl⟩ | ⟨e, he, b1, hv⟩
    · simp only [rd, b0, hv, show ((0 : Nat) == 0) = true from rfl]
      refine .seq (done_spec r' ha' (by omega)) fun y ⟨hy, hq⟩ => ?_
      rcases hq with ⟨he, _⟩ | ⟨_, _, hv3⟩ | ⟨_, _, hv3⟩
      · exact absurd rfl he
      · simp only [rd, hv3, hy, show ((11 : Int) != 0) = true from rfl]
        exact .ret ⟨z1, .inl ⟨11, by simp [DErr], rfl⟩⟩
      · simp only [rd, hv3, hy, show ((0 : Int) != 0) = false from rfl]
        exact .ret ⟨z1, .inr ⟨v', l, rfl, by omega, hok, sl.low (by omega)⟩⟩
    · simp only [rd, b1, hv, show ((1 : Nat) == 0) = false from rfl]
      exact .ret ⟨z1, .inl ⟨e, he, rfl⟩⟩
  · simp only [rd, hk, decide_false, Bool.not_false]
    exact .ret ⟨.refl _ _, .inl ⟨14, by simp [DErr], rfl⟩⟩
end Go.Arm
namespace Go.Arm
open Go.Proofs

/-! ## keys -/
structure Key where
  n : Int
  s : ByteArray
  p : Int
  q : Int
def keyL (x : Key) : List Value := [.int .u64 x.n, .string x.s, .int .i64 x.p, .int .i64 x.q]
def keyA (x : Key) : Value := .agg ⟨keyL x⟩
theorem keyL_one (x : Key) : (keyL x).all one = true := rfl
theorem bldT_191n (n : Int) : bldT E 191 [(0, .int .u64 n)] = some (keyA ⟨n, bs [], 0, 0⟩) := by kernel_rfl
theorem bldT_191s (s : ByteArray) : bldT E 191 [(1, .string s)] = some (keyA ⟨0, s, 0, 0⟩) := by kernel_rfl
theorem bldT_191z : bldT E 191 [] = some (keyA ⟨0, bs [], 0, 0⟩) := by kernel_rfl
theorem bldT_189 (p q : Int) : bldT E 189 [(0, .int .i64 p), (1, .int .i64 q)] = some (.agg ⟨[.int .i64 p, .int .i64 q]⟩) := by kernel_rfl
theorem bldT_191p (p q : Int) : bldT E 191 [(2, .agg ⟨[.int .i64 p, .int .i64 q]⟩)] = some (keyA ⟨0, bs [], p, q⟩) := by kernel_rfl
def keyEq (a b : Key) : Bool := (a.n == b.n) && ((seq a.s b.s) && (((a.p == b.p) && ((a.q == b.q) && true)) && true))
theorem eqT_key (a b : Key) : eqT E 8 191 (keyA a) (keyA b) = some (keyEq a b) := by kernel_rfl
theorem keyV_key (a : Key) : keyV E 191 (keyA a) = true := by
  unfold keyV
  rw [eqT_key]; rfl
theorem veq_key (a : Key) : veq (keyA a) (keyA a) = true := by simp [veq, keyA, keyL, veqL, veq1]

def keyC (k : Int) (c : Cel) : Key :=
  if k = 1 then ⟨if c.b then 1 else 0, bs [], 0, 0⟩ else if k = 2 then ⟨IntKind.wrap .u64 c.i, bs [], 0, 0⟩ else if k = 3 then ⟨c.u, bs [], 0, 0⟩ else if k = 4 ∨ k = 5 then ⟨0, c.s, 0, 0⟩ else ⟨0, bs [], nOf c.re, nOf c.im⟩
/-- a point's parts can be made whole numbers -/
def Kd (k : Int) (c : Cel) : Prop := k = 6 → f2i .i64 (.float .f64 c.re) = some (nOf c.re) ∧ f2i .i64 (.float .f64 c.im) = some (nOf c.im)
theorem PtOK.kd {k : Int} {c : Cel} (h : PtOK k c) : Kd k c := fun hk => ⟨(wholeB_num (h hk).1).2.1, (wholeB_num (h hk).2).2.1⟩
theorem PV.kd {k : Int} {c : Cel} {x y : Int} (h : PV c x y) : Kd k c := fun _ => by
  have h1 := h.1.f2i
  have h2 := h.2.f2i
  unfold nOf
  rw [h1, h2]; exact ⟨rfl, rfl⟩

abbrev kz0 : Key := ⟨0, bs [], 0, 0⟩
def newK (h : H) (c : Cel) : H := (h.new (.cells (celV c) 47 true false)).new (.cells (keyL kz0) 191 true false)
theorem newK_0 (h : H) (c : Cel) : (newK h c).get h.next = some (.cells (celV c) 47 true false) := H.get_new_old (get_new_self _ _)
theorem newK_1 (h : H) (c : Cel) : (newK h c).get (h.next + 1) = some (.cells (keyL kz0) 191 true false) := get_new_self (h.new (.cells (celV c) 47 true false)) _
theorem newK_kp (h : H) (c : Cel) : Kp None' h (newK h c) := (Kp.new _ _).thenNew _
theorem key_st {h : H} {b : Nat} {y : Key} {l : Bool} (hg : h.get b = some (.cells (keyL y) 191 true l)) (x : Key) : stV 4 h b 0 (keyA x) = some (h.put b (some (.cells (keyL x) 191 true l))) := stV_full (n := 4) hg rfl rfl (keyL_one x)
theorem key_ld {h : H} {b : Nat} {x : Key} {e : TypeId} {o l : Bool} (hg : h.get b = some (.cells (keyL x) e o l)) : ldA 4 h b 0 = some (keyA x) := ldA_full hg rfl
theorem newK_fin (h : H) (c : Cel) (x : Key) : ((stV 4 (newK h c) (h.next + 1) 0 (keyA x)).bind fun h22 => (ldA 4 h22 (h.next + 1) 0).bind fun v23 => some (v23, h22)) = some (keyA x, (newK h c).put (h.next + 1) (some (.cells (keyL x) 191 true false))) := by
  rw [key_st (newK_1 h c) x, Option.bind_some, key_ld (H.get_put_same _ _ _ (H.get_lt (newK_1 h c)))]
  rfl

theorem keyed_spec {k : Int} {c : Cel} {h : H} (hk : 1 ≤ k ∧ k ≤ 6) (hp : Kd k c) : Ret E 130 [.int .i64 k, celA c] h fun v h' => v = keyA (keyC k c) ∧ Kp None' h h' := by
  refine .of_fn rfl rfl (fun C L => dict_keyed_eq C L _ h) ?_
  have e1 : (h.new (.cells (celV c) 47 true false)).next = h.next + 1 := rfl
  have e2 : (h.new (.cells (celV c) 47 true false)).new (.cells [(.int .u64 (0)), (.string (bs [])), (.int .i64 (0)), (.int .i64 (0))] 191 true false) = newK h c := rfl
  have kf : ∀ x, Kp None' h ((newK h c).put (h.next + 1) x) := fun x => (newK_kp h c).putNew _ (by omega)
  have hkk : k = 1 ∨ k = 2 ∨ k = 3 ∨ k = 4 ∨ k = 5 ∨ k = 6 := by omega
  have lB : ldB (newK h c) h.next (0 + 1) = some c.b := ldB_of (newK_0 h c) rfl
  have lI : ldI .i64 (newK h c) h.next (0 + 2) = some c.i := ldI_of (newK_0 h c) rfl
  have lU : ldI .u64 (newK h c) h.next (0 + 3) = some c.u := ldI_of (newK_0 h c) rfl
  have lS : ldS (newK h c) h.next (0 + 4) = some c.s := ldS_of (newK_0 h c) rfl
  have lP : ldV (newK h c) h.next (0 + 5) = some (.complex .f64 c.re c.im) := ldV_of (newK_0 h c) rfl rfl
  simp only [dict_keyed]
  simp only [rd, oneL_cel, e1, e2]
  unfold keyC
  rcases hkk with rfl | rfl | rfl | rfl | rfl | rfl
  · simp only [rd, show ((1 : Int) == 1) = true from rfl, lB, if_true]
    cases c.b with
    | true => simp only [rd, bldT_191n, newK_fin, if_true]; exact .ret ⟨rfl, kf _⟩
    | false => simp only [rd, bldT_191z, newK_fin, Bool.false_eq_true, if_false]; exact .ret ⟨rfl, kf _⟩
  · simp only [rd, show ((2 : Int) == 1) = false from rfl, show ((2 : Int) == 2) = true from rfl, lI, bldT_191n, newK_fin, show ¬ ((2 : Int) = 1) by decide, if_true, if_false]
    exact .ret ⟨rfl, kf _⟩
  · simp only [rd, show ((3 : Int) == 1) = false from rfl, show ((3 : Int) == 2) = false from rfl, show ((3 : Int) == 3) = true from rfl, lU, bldT_191n, newK_fin, show ¬ ((3 : Int) = 1) by decide, show ¬ ((3 : Int) = 2) by decide, if_true, if_false]
    exact .ret ⟨rfl, kf _⟩
  · simp only [rd, show ((4 : Int) == 1) = false from rfl, show ((4 : Int) == 2) = false from rfl, show ((4 : Int) == 3) = false from rfl, show ((4 : Int) == 4) = true from rfl, lS, bldT_191s, newK_fin, show ¬ ((4 : Int) = 1) by decide, show ¬ ((4 : Int) = 2) by decide, show ¬ ((4 : Int) = 3) by decide, show ((4 : Int) = 4 ∨ (4 : Int) = 5) by decide, if_true, if_false]
    exact .ret ⟨rfl, kf _⟩
  · simp only [rd, show ((5 : Int) == 1) = false from rfl, show ((5 : Int) == 2) = false from rfl, show ((5 : Int) == 3) = false from rfl, show ((5 : Int) == 4) = false from rfl, show ((5 : Int) == 5) = true from rfl, lS, bldT_191s, newK_fin, show ¬ ((5 : Int) = 1) by decide, show ¬ ((5 : Int) = 2) by decide, show ¬ ((5 : Int) = 3) by decide, show ((5 : Int) = 4 ∨ (5 : Int) = 5) by decide, if_true, if_false]
    exact .ret ⟨rfl, kf _⟩
  · have hf := hp rfl
    simp only [rd, show ((6 : Int) == 1) = false from rfl, show ((6 : Int) == 2) = false from rfl, show ((6 : Int) == 3) = false from rfl, show ((6 : Int) == 4) = false from rfl, show ((6 : Int) == 5) = false from rfl, show ((6 : Int) == 6) = true from rfl, lP, realV, imagV, hf.1, hf.2, bldT_189, bldT_191p, newK_fin, show ¬ ((6 : Int) = 1) by decide, show ¬ ((6 : Int) = 2) by decide, show ¬ ((6 : Int) = 3) by decide, show ¬ ((6 : Int) = 4 ∨ (6 : Int) = 5) by decide, if_false]
    exact .ret ⟨rfl, kf _⟩

/-! ## a dictionary -/
def Dt (m : Nat) (h : H) (d mb : Nat) (k : Int) (l : List Cel) : Prop :=
  ∃ lv es cl, h.get d = some (.cells [.int .i64 k, lv, .map (some mb)] 179 true false) ∧ Sl 6 47 m h lv l.length (l.flatMap celV) ∧ h.get mb = some (.map es cl) ∧ es.map (·.key) = (l.map (keyC k)).map keyA ∧ es.map (·.val) = (List.range l.length).map fun i => .int .i64 ((i : Nat) : Int)
theorem Dt.kp {X : Nat → Prop} {m : Nat} {h h' : H} {d mb : Nat} {k : Int} {l : List Cel} (D : Dt m h d mb k l) (kp : Kp X h h') (h1 : ¬ X d) (h2 : ¬ X mb) (h3 : ∀ b, m ≤ b → ¬ X b) : Dt m h' d mb k l := by
  obtain ⟨lv, es, cl, g1, sl, g2, e1, e2⟩ := D
  exact ⟨lv, es, cl, kp.get g1 h1, sl.kp kp h3, kp.get g2 h2, e1, e2⟩
theorem Dt.kpN {m : Nat} {h h' : H} {d mb : Nat} {k : Int} {l : List Cel} (D : Dt m h d mb k l) (kp : Kp None' h h') : Dt m h' d mb k l := D.kp kp (fun h => h) (fun h => h) fun _ _ h => h
theorem Dt.ne {m : Nat} {h : H} {d mb : Nat} {k : Int} {l : List Cel} (D : Dt m h d mb k l) : d ≠ mb := by
  obtain ⟨lv, es, cl, g1, _, g2, _⟩ := D
  rintro rfl
  rw [g1] at g2; cases g2
theorem Dt.low {m m' : Nat} {h : H} {d mb : Nat} {k : Int} {l : List Cel} (D : Dt m h d mb k l) (hm : m' ≤ m) : Dt m' h d mb k l := by
  obtain ⟨lv, es, cl, g1, sl, r⟩ := D
  exact ⟨lv, es, cl, g1, sl.low hm, r⟩
def dictAt (k : Int) (l : List Cel) (c : Cel) : Option Nat := if (l.map (keyC k)).any (keyEq (keyC k c)) then some ((l.map (keyC k)).findIdx (keyEq (keyC k c))) else none
theorem mapOf_of {h : H} {mb : Nat} {es : List MapEntry} {cl : Nat} (g : h.get mb = some (.map es cl)) : mapOf h (.map (some mb)) = some (mb, es, cl) := by simp only [mapOf, g]

theorem add_spec {m : Nat} {h : H} {d mb : Nat} {k : Int} {l : List Cel} {c : Cel} (hk : 1 ≤ k ∧ k ≤ 6) (hp : Kd k c) (D : Dt m h d mb k l) (hd : d < m) (hmb : mb < m) (hm : m ≤ h.next) (hl : l.length < 2 ^ 30) :
    Ret E 129 [ptr d 0, celA c] h fun v h' => Kp (fun b => b = d ∨ b = mb ∨ m ≤ b) h h' ∧ match dictAt k l c with
      | some i => v = .tuple #[.int .i64 (i : Nat), .bool false] ∧ i < l.length ∧ Dt m h' d mb k l
      | none => v = .tuple #[.int .i64 (l.length : Nat), .bool true] ∧ Dt m h' d mb k (l ++ [c]) := by
  refine .of_fn rfl rfl (fun C L => __dict_Dict__add_eq C L _ h) ?_
  have hne := D.ne
  obtain ⟨lv, es, cl, g1, sl, g2, e1, e2⟩ := D
  obtain ⟨h1, hh1⟩ : ∃ h1, h1 = h.new (.cells (celV c) 47 true false) := ⟨_, rfl⟩
  have n1 : h1.next = h.next + 1 := by rw [hh1]; rfl
  have k1 : Kp None' h h1 := by rw [hh1]; exact .new _ _
  have gc1 : h1.get h.next = some (.cells (celV c) 47 true false) := by rw [hh1]; exact get_new_self _ _
  obtain ⟨h3, hh3⟩ : ∃ h3, h3 = holes 1 h1 := ⟨_, rfl⟩
  have k3 : Kp None' h1 h3 := by rw [hh3]; exact .new _ _
  have n3 : h3.next = h.next + 2 := by rw [hh3]; show h1.next + 1 = _; omega
  have kk3 := k1.then k3
  have gc3 := k3.get gc1 (fun h => h)
  have gd3 := kk3.get g1 (fun h => h)
  have lk : ldI .i64 h3 d (0 + 0) = some k := ldI_of gd3 rfl
  simp only [__dict_Dict__add]
  simp only [rd, oneL_cel, ← hh1, ← hh3, asP_ptr, lk, cel_ld gc3, Nat.add_zero (h1.next), n1]
  refine .seq (keyed_spec hk hp) fun q ⟨q1, kq⟩ => ?_
  have hk4 := kq.1
  obtain ⟨h4, hh4⟩ : ∃ h4, h4 = q.2.put (h.next + 1) (some (.cells [(.int .u64 (0)), (.string (bs [])), (.int .i64 (0)), (.int .i64 (0))] 191 true false)) := ⟨_, rfl⟩
  have g4 : h4.get (h.next + 1) = some (.cells (keyL kz0) 191 true false) := by rw [hh4]; exact H.get_put_same _ _ _ (by omega)
  have kk4 : Kp None' h h4 := by rw [hh4]; exact (kk3.then kq).putNew _ (by omega)
  have gc4 : h4.get h.next = some (.cells (celV c) 47 true false) := by rw [hh4, H.get_put_ne _ _ _ _ (by omega)]; exact kq.get gc3 (fun h => h)
  obtain ⟨h5, hh5⟩ : ∃ h5, h5 = h4.put (h.next + 1) (some (.cells (keyL (keyC k c)) 191 true false)) := ⟨_, rfl⟩
  have g5 : h5.get (h.next + 1) = some (.cells (keyL (keyC k c)) 191 true false) := by rw [hh5]; exact H.get_put_same _ _ _ (H.get_lt g4)
  have kk5 : Kp None' h h5 := by rw [hh5]; exact kk4.putNew _ (by omega)
  have gc5 : h5.get h.next = some (.cells (celV c) 47 true false) := by rw [hh5, H.get_put_ne _ _ _ _ (by omega)]; exact gc4
  have gd5 := kk5.get g1 (fun h => h)
  have gm5 := kk5.get g2 (fun h => h)
  have sl5 := sl.kpN kk5
  have lm5 : ldV h5 d (0 + 2) = some (.map (some mb)) := ldV_of gd5 rfl rfl
  have ll5 : ldV h5 d (0 + 1) = some lv := ldV_of gd5 rfl sl.one
  simp only [rd, q1, ← hh4, key_st g4, ← hh5, lm5, key_ld g5]
  unfold dictAt
  cases hany : (l.map (keyC k)).any (keyEq (keyC k c)) with
  | true =>
    obtain ⟨e, x, f1, f2, f3, f4, f5⟩ := findE_some eqT_key 0 e1 hany
    obtain ⟨i, hi⟩ : ∃ i, i = (l.map (keyC k)).findIdx (keyEq (keyC k c)) := ⟨_, rfl⟩
    rw [← hi] at f1 f2 f3
    have hil : i < l.length := by
      have := (List.getElem?_eq_some_iff.1 f3).1
      simpa using this
    have hev : e.val = .int .i64 (i : Nat) := by
      have h1 : (es.map (·.val))[i]? = some e.val := by rw [List.getElem?_map, f2]; rfl
      rw [e2, List.getElem?_map, List.getElem?_range hil] at h1
      simpa using h1.symm
    have l1 : lookM E 191 h5 (.map (some mb)) (keyA (keyC k c)) = some (some e.val) := by
      simp only [lookM, keyV_key, if_true, mapOf_of gm5, Option.bind_some, f1, Option.map_some]
    simp only [rd, l1, Option.getD_some, hev, Option.isSome_some, if_true, ← hi]
    exact .ret ⟨kk5.weaken (fun _ h => h.elim), rfl, hil, lv, es, cl, gd5, sl5, gm5, e1, e2⟩
  | false =>
    have f1 := findE_none eqT_key 0 e1 hany
    have l1 : lookM E 191 h5 (.map (some mb)) (keyA (keyC k c)) = some none := by
      simp only [lookM, keyV_key, if_true, mapOf_of gm5, Option.bind_some, f1, Option.map_some, Option.map_none]
    obtain ⟨es', hes'⟩ : ∃ es', es' = es ++ [{ key := keyA (keyC k c), val := .int .i64 (l.length : Nat), born := cl }] := ⟨_, rfl⟩
    have s1 : setM E 191 h5 (.map (some mb)) (keyA (keyC k c)) (.int .i64 (l.length : Nat)) = some (h5.put mb (some (.map es' (cl + 1)))) := by
      simp only [setM, keyV_key, if_true, mapOf_of gm5, Option.bind_some, f1, hes']
    have hm5 := H.get_lt gm5
    have hdl := H.get_lt g1
    have hml := H.get_lt g2
    obtain ⟨h6, hh6⟩ : ∃ h6, h6 = h5.put mb (some (.map es' (cl + 1))) := ⟨_, rfl⟩
    have gm6 : h6.get mb = some (.map es' (cl + 1)) := by rw [hh6]; exact H.get_put_same _ _ _ hm5
    have k6 : Kp (Only mb) h5 h6 := by rw [hh6]; exact .put _ _ rfl
    have gd6 := k6.get gd5 (by simp only [Only]; exact hne)
    have gc6 := k6.get gc5 (by simp only [Only]; omega)
    have sl6 := sl5.kpO k6 hmb
    -- the list goes on
    obtain ⟨h7, hh7⟩ : ∃ h7, h7 = holes 1 h6 := ⟨_, rfl⟩
    have k7 : Kp None' h6 h7 := by rw [hh7]; exact .new _ _
    have n7 : h7.next = h6.next + 1 := by rw [hh7]; rfl
    have gd7 := k7.get gd6 (fun h => h)
    have gc7 := k7.get gc6 (fun h => h)
    have gm7 := k7.get gm6 (fun h => h)
    have ll7 : ldV h7 d (0 + 1) = some lv := ldV_of gd7 rfl sl.one
    have hk5 := kk5.1
    have hk6 := k6.1
    obtain ⟨h8, hh8⟩ : ∃ h8, h8 = h7.put h6.next (some (.cells (celV c) 47 true false)) := ⟨_, rfl⟩
    have k8 : Kp None' h6 h8 := by rw [hh8]; exact k7.putNew _ (Nat.le_refl _)
    have g8 : h8.get h6.next = some (.cells (celV c) 47 true false) := by rw [hh8]; exact H.get_put_same _ _ _ (by omega)
    have n8 : h8.next = h6.next + 1 := by rw [hh8]; exact n7
    obtain ⟨lv', h9, a1, a2, a3⟩ := (sl6.kpN k8).app1 (bytes := 56) (x := c) celV_len celV_one g8 (by omega) (by unfold roomy; omega) (by omega)
    have gd9 := a3.get (k8.get gd6 (fun h => h)) (by omega)
    have gm9 := a3.get (k8.get gm6 (fun h => h)) (by omega)
    have s9 : stV 1 h9 d (0 + 1) lv' = some (h9.put d (some (.cells [.int .i64 k, lv', .map (some mb)] 179 true false))) := stV1_of gd9 (by simp) a2.one
    obtain ⟨hA, hhA⟩ : ∃ hA, hA = h9.put d (some (.cells [.int .i64 k, lv', .map (some mb)] 179 true false)) := ⟨_, rfl⟩
    have gdA : hA.get d = some (.cells [.int .i64 k, lv', .map (some mb)] 179 true false) := by rw [hhA]; exact H.get_put_same _ _ _ (H.get_lt gd9)
    have kA : Kp (Only d) h9 hA := by rw [hhA]; exact .put _ _ rfl
    have gmA := kA.get gm9 (by simp only [Only]; exact Ne.symm hne)
    have slA := a2.kpO kA hd
    have llA : ldV hA d (0 + 1) = some lv' := ldV_of gdA rfl a2.one
    have w1 : IntKind.wrap .i64 (((l ++ [c]).length : Nat) - (1 : Int)) = ((l.length : Nat) : Int) := by rw [List.length_append, List.length_singleton, wrap_i64 (by omega) (by omega)]; omega
    simp only [rd, l1, Option.getD_none, Option.isSome_none, ll5, sl.len, s1, ← hh6, ← hh7, ll7, cel_ld gc7, bldS_41, Nat.add_zero (h6.next), ← hh8, a1, s9, ← hhA, llA, slA.len, w1, Bool.false_eq_true, if_false]
    refine .ret ⟨?_, rfl, lv', es', cl + 1, gdA, slA, gmA, by rw [hes', List.map_append, e1, List.map_append, List.map_append]; rfl, ?_⟩
    · have hk8 := k8.1
      have hk9 := a3.1
      have hkA := kA.1
      refine ⟨by show h.next ≤ hA.next; omega, fun b hb hx => ?_⟩
      show hA.get b = h.get b
      have hx1 : b ≠ d := fun h => hx (.inl h)
      have hx2 : b ≠ mb := fun h => hx (.inr (.inl h))
      have hx3 : ¬ m ≤ b := fun h => hx (.inr (.inr h))
      rw [kA.2 b (by omega) hx1, a3.2 b (by omega) hx3, k8.2 b (by omega) (fun h => h), k6.2 b (by omega) hx2, kk5.2 b hb (fun h => h)]
    · rw [hes', List.map_append, e2, List.length_append, List.length_singleton, List.range_succ, List.map_append]
      rfl

theorem bldT_179 (k : Int) (mb : Nat) : bldT E 179 [(0, .int .i64 k), (2, .map (some mb))] = some (.agg ⟨[.int .i64 k, .slice none 0 0, .map (some mb)]⟩) := by kernel_rfl
theorem dnone_spec (k : Int) (h : H) : Ret E 128 [.int .i64 k] h fun v h' => Kp None' h h' ∧ v = ptr (h.next + 1) 0 ∧ h'.next = h.next + 2 ∧ ∀ m, Dt m h' (h.next + 1) h.next k [] := by
  refine .of_fn rfl rfl (fun C L => dict_none_eq C L _ h) ?_
  have hone : oneL (Value.agg ⟨[.int .i64 k, .slice none 0 0, .map (some h.next)]⟩).cells.toList = some [.int .i64 k, .slice none 0 0, .map (some h.next)] := rfl
  simp only [dict_none]
  simp only [rd, bldT_179, hone]
  refine .ret ⟨(Kp.new _ _).thenNew _, rfl, rfl, fun m => ⟨.slice none 0 0, [], 0, ?_, .nil, ?_, rfl, rfl⟩⟩
  · exact get_new_self (h.new (.map [] 0)) _
  · exact H.get_new_old (get_new_self _ _)
theorem dlen_spec {m : Nat} {h : H} {d mb : Nat} {k : Int} {l : List Cel} (D : Dt m h d mb k l) : Ret E 122 [ptr d 0] h fun v h' => v = .int .i64 (l.length : Nat) ∧ h' = h := by
  refine .of_fn rfl rfl (fun C L => __dict_Dict__Len_eq C L _ h) ?_
  obtain ⟨lv, es, cl, g1, sl, _⟩ := D
  have ll : ldV h d (0 + 1) = some lv := ldV_of g1 rfl sl.one
  simp only [__dict_Dict__Len]
  simp only [rd, nilT, Option.isNone_some, asP_ptr, ll, sl.len]
  exact .ret ⟨rfl, rfl⟩
end Go.Arm
