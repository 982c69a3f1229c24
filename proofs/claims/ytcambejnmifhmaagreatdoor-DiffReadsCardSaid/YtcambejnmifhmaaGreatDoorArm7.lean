/- Plain laws: floats.
   Specs: cells are written.
   Plain laws: numbers below 0 as numbers that are not.
   Drawn regions, the first part: an operation looks only at its own slots.
   Drawn regions: what is asked of numbers that are set aside (ArmHol).
   Drawn regions: what stands ahead of an operation.
   Drawn regions: an operation's value and heap, told apart from what follows.
   Drawn regions: a block that floats.
   Drawn regions: what the evaluator goes through, told as a trace in the text's order.
   Drawn regions: the evaluator gives a trace.
   Drawn regions: what the checks tell; slots.
   Drawn regions: blocks that float, heaps. -/
import Derived.Test.YtcambejnmifhmaaGreatDoorArm1
import Derived.Test.YtcambejnmifhmaaGreatDoorArm6
import Derived.Test.YtcambejnmifhmaaGreatDoorArm3
import Derived.Orders
import Derived.OrdersIn
namespace Go.Arm
open Ieee

theorem fop_lss (a b : Nat) : fop .lss (.float .f64 a) (.float .f64 b) = some (.bool (Ieee.double.order a b == some .lt)) := by rfl
theorem fop_gtr (a b : Nat) : fop .gtr (.float .f64 a) (.float .f64 b) = some (.bool (Ieee.double.order a b == some .gt)) := by rfl
theorem fop_leq (a b : Nat) : fop .leq (.float .f64 a) (.float .f64 b) = some (.bool (Ieee.double.order a b == some .lt || Ieee.double.order a b == some .eq)) := by rfl
theorem fop_geq (a b : Nat) : fop .geq (.float .f64 a) (.float .f64 b) = some (.bool (Ieee.double.order a b == some .gt || Ieee.double.order a b == some .eq)) := by rfl
theorem fop_eql (a b : Nat) : fop .eql (.float .f64 a) (.float .f64 b) = some (.bool (Ieee.double.order a b == some .eq)) := by rfl
theorem fop_neq (a b : Nat) : fop .neq (.float .f64 a) (.float .f64 b) = some (.bool (!(Ieee.double.order a b == some .eq))) := by rfl

abbrev cLo : Nat := 14069245235905429504
abbrev cHi : Nat := 4845873199050653696
theorem read_lo : Ieee.double.read cLo = .number true (2 ^ 52) 1 := by decide +kernel
theorem read_hi : Ieee.double.read cHi = .number false (2 ^ 52) 1 := by decide +kernel

theorem shl_eq (m k : Nat) : m <<< k = m * 2 ^ k := Nat.shiftLeft_eq m k

/-- what is cut towards nought is no more than the whole -/
theorem cut_le (s : Bool) (m d B : Nat) (h : m ≤ B * 2 ^ d) : Toward.zero.cut s m d ≤ B := by
  unfold Toward.cut
  simp only [Bool.toNat_false, Nat.add_zero, shl_eq, Nat.one_mul]
  rcases Nat.le_total d (m.log2 + 2) with hd | hd
  · rw [Nat.min_eq_left hd]
    exact Nat.div_le_of_le_mul (by rw [Nat.mul_comm]; exact h)
  · rw [Nat.min_eq_right hd]
    have hm : m < 2 ^ (m.log2 + 2) := Nat.lt_of_lt_of_le Nat.lt_log2_self (Nat.pow_le_pow_right (by omega) (by omega))
    rw [Nat.div_eq_of_lt hm]
    omega

theorem signed_abs (s : Bool) (m : Nat) : -(m : Int) ≤ signed s m 0 ∧ signed s m 0 ≤ (m : Int) := by
  unfold signed
  cases s <;> simp <;> omega

/-- a float in reach is a whole number, cut -/
theorem f2i_reach {b : Nat} (h1 : (Ieee.double.order b cLo == some .lt) = false) (h2 : (Ieee.double.order b cHi == some .gt) = false) (h3 : (Ieee.double.order b b == some .eq) = true) :
    ∃ n : Int, f2i .i64 (.float .f64 b) = some n ∧ -2 ^ 53 ≤ n ∧ n ≤ 2 ^ 53 := by
  unfold Ieee.Format.order at h1 h2 h3
  rw [read_lo] at h1
  rw [read_hi] at h2
  have key : ∃ n : Int, (Ieee.double.read b).toInt .zero = some n ∧ -2 ^ 53 ≤ n ∧ n ≤ 2 ^ 53 := by
    cases hd : Ieee.double.read b with
    | nan s t => rw [hd] at h3; simp [Datum.order] at h3
    | infinity s => rw [hd] at h1 h2; cases s <;> simp [Datum.order] at h1 h2
    | number s m i =>
      rw [hd] at h1 h2
      simp only [Datum.order, beq_eq_false_iff_ne, ne_eq, Option.some.injEq, Int.compare_eq_lt, Int.compare_eq_gt] at h1 h2
      refine ⟨signed s (Toward.zero.cut s (m <<< i.toNat) (-i).toNat) 0, rfl, ?_⟩
      have hcut : Toward.zero.cut s (m <<< i.toNat) (-i).toNat ≤ 2 ^ 53 := by
        refine cut_le s _ _ _ ?_
        rw [shl_eq]
        unfold signed at h1 h2
        simp only [shl_eq] at h1 h2
        rcases Int.le_total i 1 with hi | hi
        · rw [Int.min_eq_left hi] at h1 h2
          simp only [Int.sub_self, Int.toNat_zero, Nat.pow_zero, Nat.mul_one] at h1 h2
          by_cases h0 : i = 1
          · subst h0
            simp at h1 h2 ⊢
            cases s <;> simp at h1 h2 <;> omega
          · have e1 : i.toNat = 0 := by omega
            have e2 : (1 - i).toNat = 1 + (-i).toNat := by omega
            rw [e1, Nat.pow_zero, Nat.mul_one]
            rw [e2, Nat.pow_add] at h1 h2
            generalize 2 ^ (-i).toNat = z at *
            cases s <;> simp at h1 h2 <;> omega
        · rw [Int.min_eq_right hi] at h1 h2
          simp only [Int.sub_self, Int.toNat_zero, Nat.pow_zero, Nat.mul_one] at h1 h2
          have e1 : (-i).toNat = 0 := by omega
          have e2 : i.toNat = (i - 1).toNat + 1 := by omega
          rw [e1, e2, Nat.pow_succ, Nat.pow_zero, Nat.mul_one, ← Nat.mul_assoc]
          generalize m * 2 ^ (i - 1).toNat = z at *
          cases s <;> simp at h1 h2 <;> omega
      have := signed_abs s (Toward.zero.cut s (m <<< i.toNat) (-i).toNat)
      omega
  obtain ⟨n, hn, h4, h5⟩ := key
  refine ⟨n, ?_, h4, h5⟩
  have hdec : FloatKind.decode .f64 b = Ieee.double.read b := rfl
  simp only [f2i, hdec, hn]
  rw [if_pos]
  constructor
  · have : IntKind.min .i64 = -2 ^ 63 := by decide
    omega
  · have : IntKind.max .i64 = 2 ^ 63 - 1 := by decide
    omega

/-! ## whole numbers as floats -/
theorem cut_exact (way : Toward) (s : Bool) (m d : Nat) (h : d ≤ (m * 2 ^ d).log2 + 2) : way.cut s (m * 2 ^ d) d = m := by
  have hp : 0 < 2 ^ d := Nat.pos_of_ne_zero (by simp)
  unfold Toward.cut
  simp only [shl_eq, Nat.one_mul, Nat.min_eq_left h]
  rw [Nat.mul_div_cancel _ hp, Nat.mul_mod_left]
  have hne : ¬ (2 ^ d = 0) := by omega
  cases way <;> simp [hne]

theorem log2_shift {n : Nat} (hn : n ≠ 0) (k : Nat) : (n * 2 ^ k).log2 = n.log2 + k := by
  have h1 : 2 ^ n.log2 ≤ n := Nat.log2_self_le hn
  have h2 : n < 2 ^ (n.log2 + 1) := Nat.lt_log2_self
  have hk : 0 < 2 ^ k := Nat.pos_of_ne_zero (by simp)
  have hne : n * 2 ^ k ≠ 0 := Nat.mul_ne_zero hn (by omega)
  refine Nat.le_antisymm ?_ ?_
  · have : n * 2 ^ k < 2 ^ (n.log2 + k + 1) := by
      rw [show n.log2 + k + 1 = (n.log2 + 1) + k by omega, Nat.pow_add]
      exact Nat.mul_lt_mul_of_pos_right h2 hk
    have := (Nat.log2_lt hne).2 this
    omega
  · refine (Nat.le_log2 hne).2 ?_
    rw [Nat.pow_add]
    exact Nat.mul_le_mul_right _ h1

theorem d_binade : Ieee.double.binade = 4503599627370496 := by decide +kernel
theorem d_sign : Ieee.double.signWeight = 9223372036854775808 := by decide +kernel
theorem d_inf : Ieee.double.infRung = 9218868437227405312 := by decide +kernel
theorem d_least : Ieee.double.leastPlace = -1074 := by decide +kernel
theorem d_frac : ((Ieee.double.fractionBits : Nat) : Int) = 52 := by decide +kernel

theorem read_split (w : Nat) (neg : Bool) (rung : Nat) (e1 : w % 9223372036854775808 = rung) (e2 : (w / 9223372036854775808 % 2 == 1) = neg) (h1 : 4503599627370496 ≤ rung) (h2 : rung < 9218868437227405312) :
    Ieee.double.read w = .number neg (4503599627370496 + rung % 4503599627370496) (-1074 + ((rung / 4503599627370496 - 1 : Nat) : Int)) := by
  unfold Ieee.Format.read
  rw [d_binade, d_sign, d_inf, d_least, e1, e2]
  simp only
  rw [if_neg (Nat.not_lt.2 h1), if_pos h2]

theorem read_word (neg : Bool) (L kept : Nat) (h1 : 4503599627370496 ≤ kept) (h2 : kept < 9007199254740992) (hL : L ≤ 53) :
    Ieee.double.read (Ieee.double.word neg ((L + 1022) * 4503599627370496 + kept)) = .number neg kept ((L : Int) - 52) := by
  obtain ⟨rung, hr⟩ : ∃ rung, rung = (L + 1022) * 4503599627370496 + kept := ⟨_, rfl⟩
  rw [← hr]
  have hlt : rung < 9218868437227405312 := by omega
  have hge : 4503599627370496 ≤ rung := by omega
  have e3 : 4503599627370496 + rung % 4503599627370496 = kept := by omega
  have e4 : rung / 4503599627370496 - 1 = L + 1022 := by omega
  have hw : ∀ w, w = Ieee.double.word neg rung → w % 9223372036854775808 = rung ∧ (w / 9223372036854775808 % 2 == 1) = neg := by
    intro w hw
    unfold Ieee.Format.word at hw
    rw [d_sign] at hw
    cases neg with
    | false =>
      rw [if_neg (by decide)] at hw
      subst hw
      have q : w / 9223372036854775808 % 2 = 0 := by omega
      exact ⟨by omega, by rw [q]; rfl⟩
    | true =>
      rw [if_pos rfl] at hw
      have q : w / 9223372036854775808 % 2 = 1 := by omega
      exact ⟨by omega, by rw [q]; rfl⟩
  obtain ⟨e1, e2⟩ := hw _ rfl
  rw [read_split _ neg rung e1 e2 hge hlt, e3, e4]
  have e5 : (-1074 : Int) + ((L + 1022 : Nat) : Int) = (L : Int) - 52 := by omega
  rw [e5]

theorem read_p53 : Ieee.double.read (FloatKind.nearest .f64 (2 ^ 53)) = .number (decide ((2 ^ 53 : Int) < 0)) (2 ^ 52) 1 := by decide +kernel
theorem read_n53 : Ieee.double.read (FloatKind.nearest .f64 (-2 ^ 53)) = .number (decide ((-2 ^ 53 : Int) < 0)) (2 ^ 52) 1 := by decide +kernel
/-- a whole number's float: what it reads as -/
theorem read_nearest {n : Int} (h : n.natAbs ≤ 2 ^ 53) (h0 : n ≠ 0) : (∃ i : Nat, i ≤ 52 ∧ Ieee.double.read (FloatKind.nearest .f64 n) = .number (decide (n < 0)) (n.natAbs * 2 ^ i) (-(i : Int)) ∧ 2 ^ 52 ≤ n.natAbs * 2 ^ i) ∨
    (n.natAbs = 2 ^ 53 ∧ Ieee.double.read (FloatKind.nearest .f64 n) = .number (decide (n < 0)) (2 ^ 52) 1) := by
  have hne : n.natAbs ≠ 0 := by omega
  have hl1 : 2 ^ n.natAbs.log2 ≤ n.natAbs := Nat.log2_self_le hne
  have hl2 : n.natAbs < 2 ^ (n.natAbs.log2 + 1) := Nat.lt_log2_self
  have hL : n.natAbs.log2 ≤ 53 := by
    rcases Nat.lt_or_ge n.natAbs.log2 54 with h1 | h1
    · omega
    · have : 2 ^ 54 ≤ 2 ^ n.natAbs.log2 := Nat.pow_le_pow_right (by omega) h1
      omega
  by_cases h53 : n.natAbs.log2 = 53
  · have hN : n.natAbs = 2 ^ 53 := by rw [h53] at hl1; omega
    refine .inr ⟨hN, ?_⟩
    have : n = 2 ^ 53 ∨ n = -2 ^ 53 := by omega
    rcases this with rfl | rfl
    · exact read_p53
    · exact read_n53
  · refine .inl ⟨52 - n.natAbs.log2, by omega, ?_, ?_⟩
    · obtain ⟨i, hi⟩ : ∃ i, i = 52 - n.natAbs.log2 := ⟨_, rfl⟩
      have hk1 : 4503599627370496 ≤ n.natAbs * 2 ^ i := by
        have : 2 ^ n.natAbs.log2 * 2 ^ i ≤ n.natAbs * 2 ^ i := Nat.mul_le_mul_right _ hl1
        rw [← Nat.pow_add, show n.natAbs.log2 + i = 52 by omega] at this
        exact this
      have hk2 : n.natAbs * 2 ^ i < 9007199254740992 := by
        have : n.natAbs * 2 ^ i < 2 ^ (n.natAbs.log2 + 1) * 2 ^ i := Nat.mul_lt_mul_of_pos_right hl2 (Nat.pos_of_ne_zero (by simp))
        rw [← Nat.pow_add, show n.natAbs.log2 + 1 + i = 53 by omega] at this
        exact this
      have hlast : max (0 + (n.natAbs.log2 : Int) - (Ieee.double.fractionBits : Nat)) Ieee.double.leastPlace = -(i : Int) := by
        rw [d_frac, d_least]
        omega
      have hnear : FloatKind.nearest .f64 n = Ieee.double.word (decide (n < 0)) ((n.natAbs.log2 + 1022) * 4503599627370496 + n.natAbs * 2 ^ i) := by
        show Ieee.double.nearest (decide (n < 0)) n.natAbs 0 = _
        unfold Ieee.Format.nearest
        rw [if_neg hne]
        simp only [hlast]
        have e3 : (0 - -(i : Int)).toNat = i := by omega
        have e4 : (-(i : Int) - 0).toNat = 0 := by omega
        rw [e3, e4, shl_eq]
        have hc := cut_exact .even (decide (n < 0)) (n.natAbs * 2 ^ i) 0 (by omega)
        rw [Nat.pow_zero, Nat.mul_one] at hc
        rw [hc]
        congr 1
        have e5 : (-(i : Int) - Ieee.double.leastPlace).toNat = n.natAbs.log2 + 1022 := by
          rw [d_least]
          omega
        rw [e5, d_binade, d_inf]
        exact Nat.min_eq_left (by omega)
      rw [← hi, hnear, read_word _ _ _ hk1 hk2 hL]
      congr 1
      omega
    · have : 2 ^ n.natAbs.log2 * 2 ^ (52 - n.natAbs.log2) ≤ n.natAbs * 2 ^ (52 - n.natAbs.log2) := Nat.mul_le_mul_right _ hl1
      rw [← Nat.pow_add, show n.natAbs.log2 + (52 - n.natAbs.log2) = 52 by omega] at this
      exact this

theorem nearest0 : FloatKind.nearest .f64 0 = 0 := by decide +kernel
theorem f2i_of_toInt {b : Nat} {n : Int} (h : (Ieee.double.read b).toInt .zero = some n) (h1 : -2 ^ 63 ≤ n) (h2 : n < 2 ^ 63) : f2i .i64 (.float .f64 b) = some n := by
  have hdec : FloatKind.decode .f64 b = Ieee.double.read b := rfl
  simp only [f2i, hdec, h]
  rw [if_pos]
  constructor
  · have : IntKind.min .i64 = -2 ^ 63 := by decide
    omega
  · have : IntKind.max .i64 = 2 ^ 63 - 1 := by decide
    omega

/-- what is known of a whole number's float -/
structure Near (n : Int) (b : Nat) : Prop where
  f2i : f2i .i64 (.float .f64 b) = some n
  self : (Ieee.double.order b b == some .eq) = true
  lo : (Ieee.double.order b cLo == some .lt) = false
  hi : (Ieee.double.order b cHi == some .gt) = false
  lo2 : (Ieee.double.order b cLo == some .gt || Ieee.double.order b cLo == some .eq) = true
  hi2 : (Ieee.double.order b cHi == some .lt || Ieee.double.order b cHi == some .eq) = true

theorem near {n : Int} (h : n.natAbs ≤ 2 ^ 53) : Near n (FloatKind.nearest .f64 n) := by
  by_cases h0 : n = 0
  · subst h0
    rw [nearest0]
    exact ⟨by decide +kernel, by decide +kernel, by decide +kernel, by decide +kernel, by decide +kernel, by decide +kernel⟩
  · have sgn : ∀ m : Nat, signed (decide (n < 0)) m 0 = if n < 0 then -(m : Int) else (m : Int) := by
      intro m
      unfold signed
      by_cases hn : n < 0 <;> simp [hn]
    have ord : ∀ (x y : Int), (compare x y = .lt → x < y) ∧ (compare x y = .gt → y < x) := fun x y => ⟨fun h => Int.compare_eq_lt.1 h, fun h => Int.compare_eq_gt.1 h⟩
    have fin : ∀ (x y : Int), (y ≤ x → ((some (compare x y) == some Ordering.lt) = false ∧ (some (compare x y) == some Ordering.gt || some (compare x y) == some Ordering.eq) = true)) ∧
        (x ≤ y → ((some (compare x y) == some Ordering.gt) = false ∧ (some (compare x y) == some Ordering.lt || some (compare x y) == some Ordering.eq) = true)) := by
      intro x y
      cases hc : compare x y with
      | lt => have := (ord x y).1 hc; exact ⟨fun h => absurd h (by omega), fun _ => ⟨rfl, rfl⟩⟩
      | gt => have := (ord x y).2 hc; exact ⟨fun _ => ⟨rfl, rfl⟩, fun h => absurd h (by omega)⟩
      | eq => exact ⟨fun _ => ⟨rfl, rfl⟩, fun _ => ⟨rfl, rfl⟩⟩
    rcases read_nearest h h0 with ⟨i, hi, hr, hbig⟩ | ⟨hN, hr⟩
    · have hint : (Ieee.double.read (FloatKind.nearest .f64 n)).toInt .zero = some n := by
        rw [hr]
        have e1 : (-(i : Int)).toNat = 0 := by omega
        have e2 : (-(-(i : Int))).toNat = i := by omega
        show some (signed (decide (n < 0)) (Toward.zero.cut (decide (n < 0)) ((n.natAbs * 2 ^ i) <<< (-(i : Int)).toNat) (-(-(i : Int))).toNat) 0) = some n
        rw [e1, e2, shl_eq, Nat.pow_zero, Nat.mul_one, cut_exact _ _ _ _ (by
          have : 52 ≤ (n.natAbs * 2 ^ i).log2 := (Nat.le_log2 (by omega)).2 hbig
          omega), sgn]
        congr 1
        split <;> omega
      have ho : ∀ (t : Bool) (b : Nat), Ieee.double.read b = .number t (2 ^ 52) 1 → Ieee.double.order (FloatKind.nearest .f64 n) b = some (compare (signed (decide (n < 0)) (n.natAbs * 2 ^ i) 0) (signed t (2 ^ 52) (1 + i))) := by
        intro t b hb
        unfold Ieee.Format.order
        rw [hr, hb]
        have e1 : min (-(i : Int)) 1 = -(i : Int) := by omega
        have e2 : (-(i : Int) - -(i : Int)).toNat = 0 := by omega
        have e3 : (1 - -(i : Int)).toNat = 1 + i := by omega
        simp only [Datum.order, e1, e2, e3]
      have hle : n.natAbs * 2 ^ i ≤ 2 ^ 52 * 2 ^ (1 + i) := by
        rw [Nat.pow_add, ← Nat.mul_assoc]
        exact Nat.mul_le_mul_right _ h
      have hlo := ho true cLo read_lo
      have hhi := ho false cHi read_hi
      have s1 : signed true (2 ^ 52) (1 + i) = -((2 ^ 52 * 2 ^ (1 + i) : Nat) : Int) := by unfold signed; rw [if_pos rfl, shl_eq]
      have s2 : signed false (2 ^ 52) (1 + i) = ((2 ^ 52 * 2 ^ (1 + i) : Nat) : Int) := by unfold signed; rw [if_neg (by decide), shl_eq]
      rw [s1, sgn] at hlo
      rw [s2, sgn] at hhi
      refine ⟨f2i_of_toInt hint (by omega) (by omega), ?_, ?_, ?_, ?_, ?_⟩
      · unfold Ieee.Format.order
        rw [hr]
        simp [Datum.order]
      all_goals (first | rw [hlo] | rw [hhi])
      · exact ((fin _ _).1 (by split <;> omega)).1
      · exact ((fin _ _).2 (by split <;> omega)).1
      · exact ((fin _ _).1 (by split <;> omega)).2
      · exact ((fin _ _).2 (by split <;> omega)).2
    · have : n = 2 ^ 53 ∨ n = -2 ^ 53 := by omega
      rcases this with rfl | rfl
      · exact ⟨by decide +kernel, by decide +kernel, by decide +kernel, by decide +kernel, by decide +kernel, by decide +kernel⟩
      · exact ⟨by decide +kernel, by decide +kernel, by decide +kernel, by decide +kernel, by decide +kernel, by decide +kernel⟩

end Go.Arm
namespace Go.Arm
open Go.Proofs

structure Cel where
  null : Bool
  b : Bool
  i : Int
  u : Int
  s : ByteArray
  re : Nat
  im : Nat
def celV (c : Cel) : List Value := [.bool c.null, .bool c.b, .int .i64 c.i, .int .u64 c.u, .string c.s, .complex .f64 c.re c.im]
def celA (c : Cel) : Value := .agg ⟨celV c⟩
structure CelOK (c : Cel) : Prop where
  i1 : -2 ^ 63 ≤ c.i
  i2 : c.i < 2 ^ 63
  u1 : 0 ≤ c.u
  u2 : c.u < 2 ^ 64
  s : c.s.size < 2 ^ 28
theorem celA_one (c : Cel) : oneL (celA c).cells.toList = some (celV c) := by rfl

/-! ## points -/
def wholeP (b : Nat) : Int × Bool :=
  if (Ieee.double.order b cLo == some .lt) = true ∨ (Ieee.double.order b cHi == some .gt) = true ∨ (Ieee.double.order b b == some .eq) = false then (0, false)
  else match f2i .i64 (.float .f64 b) with
    | some n => (n, Ieee.double.order (FloatKind.nearest .f64 n) b == some .eq)
    | none => (0, false)

theorem whole_spec (b : Nat) (h : H) : Ret E 95 [.float .f64 b] h fun v h' => v = .tuple #[.int .i64 (wholeP b).1, .bool (wholeP b).2] ∧ h' = h := by
  refine .of_fn rfl rfl (fun C L => plain_whole_eq C L _ h) ?_
  simp only [plain_whole, lget, fop_lss, fop_gtr, fop_neq, fop_eql, asB, Option.bind_some]
  unfold wholeP
  by_cases h1 : (Ieee.double.order b cLo == some .lt) = true
  · simp only [h1, cond_true, Option.bind_some, true_or, if_true]
    exact .ret ⟨rfl, rfl⟩
  · have h1' : (Ieee.double.order b cLo == some .lt) = false := by simpa using h1
    by_cases h2 : (Ieee.double.order b cHi == some .gt) = true
    · simp only [h1', h2, cond_true, cond_false, Option.bind_some, true_or, or_true, if_true]
      exact .ret ⟨rfl, rfl⟩
    · have h2' : (Ieee.double.order b cHi == some .gt) = false := by simpa using h2
      by_cases h3 : (Ieee.double.order b b == some .eq) = true
      · obtain ⟨n, hn, _, _⟩ := f2i_reach h1' h2' h3
        simp only [h1', h2', h3, cond_false, Option.bind_some, Bool.not_true, Bool.false_eq_true, or_self, if_false, hn, Bool.true_eq_false]
        exact .ret ⟨rfl, rfl⟩
      · have h3' : (Ieee.double.order b b == some .eq) = false := by simpa using h3
        simp only [h1', h2', h3', cond_false, cond_true, Option.bind_some, Bool.not_false, or_true, if_true]
        exact .ret ⟨rfl, rfl⟩

theorem wholeP_near {n : Int} (h : n.natAbs ≤ 2 ^ 53) : wholeP (FloatKind.nearest .f64 n) = (n, true) := by
  have hn := near h
  unfold wholeP
  rw [if_neg (by rw [hn.lo, hn.hi, hn.self]; simp), hn.f2i]
  simp only [hn.self]

def pointP (re im : Nat) : Int × Int := if (wholeP re).2 = true ∧ (wholeP im).2 = true then ((wholeP re).1, (wholeP im).1) else (0, 0)

theorem point_spec {re im : Nat} {h : H} {p : Nat} {l : List UInt8} (w : Wr h p l) (hsz : l.length + 20 ≤ 2 ^ 38) :
    Ret E 66 [ptr p 0, .complex .f64 re im] h fun v h' => v = junk ∧ Wr h' p (l ++ (uvarE (zig (pointP re im).1) ++ uvarE (zig (pointP re im).2))) ∧ KpW p h h' := by
  refine .of_fn rfl rfl (fun C L => plain_point_eq C L _ h) ?_
  simp only [plain_point, lget, realV, imagV, Option.bind_some]
  refine .seq (whole_spec re h) fun q1 ⟨hv1, hh1⟩ => ?_
  simp only [hv1, hh1, tup2, asI_int, asB, Option.bind_some]
  refine .seq (whole_spec im h) fun q2 ⟨hv2, hh2⟩ => ?_
  simp only [hv2, hh2, tup2, asI_int, asB, Option.bind_some]
  have two : ∀ x y : Int, W E (fun C _ => (C 96 [ptr p 0, .int .i64 x] h).bind fun p16 => (C 96 [ptr p 0, .int .i64 y] p16.2).bind fun p17 => some (junk, p17.2)) fun r => r.1 = junk ∧ Wr r.2 p (l ++ (uvarE (zig x) ++ uvarE (zig y))) ∧ KpW p h r.2 := by
    intro x y
    have hx := uvarE_len (zigI_eq x).2
    refine .seq (svar_spec (x := x) w (by omega)) fun r ⟨_, h2, h3⟩ => ?_
    refine .seq (svar_spec (x := y) h2 (by simp; omega)) fun r2 ⟨_, h5, h6⟩ => .ret ⟨rfl, by simpa using h5, h3.trans h6⟩
  unfold pointP
  cases hb1 : (wholeP re).2 with
  | false =>
    simp only [Bool.not_false, cond_true, Option.bind_some, Bool.false_eq_true, false_and, if_false]
    exact two 0 0
  | true =>
    cases hb2 : (wholeP im).2 with
    | false =>
      simp only [Bool.not_true, Bool.not_false, cond_true, cond_false, Option.bind_some, Bool.false_eq_true, and_false, if_false]
      exact two 0 0
    | true =>
      simp only [Bool.not_true, cond_false, Option.bind_some, and_self, if_true]
      exact two _ _

/-- a cell's bytes -/
def putE (k : Int) (c : Cel) : List UInt8 :=
  if k = 1 then [if c.b then 1 else 0]
  else if k = 2 then fixE 8 (IntKind.wrap .u64 c.i).toNat
  else if k = 3 then fixE 8 c.u.toNat
  else if k = 4 ∨ k = 5 then uvarE c.s.size ++ c.s.data.toList
  else if k = 6 then uvarE (zig (pointP c.re c.im).1) ++ uvarE (zig (pointP c.re c.im).2)
  else []

theorem wrap_u64_nat (x : Int) : IntKind.wrap .u64 x = ((IntKind.wrap .u64 x).toNat : Int) ∧ (IntKind.wrap .u64 x).toNat < 2 ^ 64 := by
  simp [IntKind.wrap, IntKind.bits, IntKind.signed]
  omega

theorem cPut_spec {k : Int} {c : Cel} {h : H} {p : Nat} {l : List UInt8} (hc : CelOK c) (w : Wr h p l) (hsz : l.length + 40 + c.s.size ≤ 2 ^ 38) :
    Ret E 41 [ptr p 0, .int .i64 k, celA c] h fun v h' => v = junk ∧ Wr h' p (l ++ putE k c) ∧ KpW p h h' := by
  refine .of_fn rfl rfl (fun C L => plain_Put_eq C L _ h) ?_
  have w2 : Wr (h.new (.cells (celV c) 47 true false)) p l := w.new _
  have k2 : KpW p h (h.new (.cells (celV c) 47 true false)) := .new w.lt _
  have hg : (h.new (.cells (celV c) 47 true false)).get h.next = some (.cells (celV c) 47 true false) := by rw [get_new, if_pos rfl]
  have eB : ldB (h.new (.cells (celV c) 47 true false)) h.next (0 + 1) = some c.b := ldB_of hg rfl
  have eI : ldI .i64 (h.new (.cells (celV c) 47 true false)) h.next (0 + 2) = some c.i := ldI_of hg rfl
  have eU : ldI .u64 (h.new (.cells (celV c) 47 true false)) h.next (0 + 3) = some c.u := ldI_of hg rfl
  have eS : ldS (h.new (.cells (celV c) 47 true false)) h.next (0 + 4) = some c.s := ldS_of hg rfl
  have eP : ldV (h.new (.cells (celV c) 47 true false)) h.next (0 + 5) = some (.complex .f64 c.re c.im) := ldV_of hg rfl rfl
  simp only [plain_Put, lget, asI_int, Option.bind_some, celA_one, eB, eI, eU]
  generalize h.new (.cells (celV c) 47 true false) = h2 at *
  have un : ∀ {e : CF → LF → Option (Value × H)} {x : List UInt8}, putE k c = x → W E e (fun r => r.1 = junk ∧ Wr r.2 p (l ++ x) ∧ KpW p h2 r.2) → W E (fun C L => (e C L).bind fun q => some (junk, q.2)) fun r => r.1 = junk ∧ Wr r.2 p (l ++ putE k c) ∧ KpW p h r.2 := by
    intro e x hx hw
    exact .seq hw fun r ⟨_, q2, q3⟩ => .ret ⟨rfl, by rw [hx]; exact q2, k2.trans q3⟩
  by_cases h1 : k = 1
  · subst h1
    simp only [show ((1 : Int) == 1) = true from rfl, cond_true]
    cases hb : c.b with
    | true => exact un (x := [1]) (by simp [putE, hb]) (u8_spec 1 w2 (by omega))
    | false => exact un (x := [0]) (by simp [putE, hb]) (u8_spec 0 w2 (by omega))
  have h1' : (k == 1) = false := by simp [h1]
  by_cases h2' : k = 2
  · subst h2'
    obtain ⟨z1, z2⟩ := wrap_u64_nat c.i
    simp only [h1', show ((2 : Int) == 2) = true from rfl, cond_true, cond_false]
    rw [z1]
    exact un (by simp [putE]) (u64_spec z2 w2 (by omega))
  have h2'' : (k == 2) = false := by simp [h2']
  by_cases h3 : k = 3
  · subst h3
    have hu : c.u = (c.u.toNat : Int) := by have := hc.u1; omega
    have hu2 : c.u.toNat < 2 ^ 64 := by have := hc.u2; omega
    simp only [h1', h2'', show ((3 : Int) == 3) = true from rfl, cond_true, cond_false]
    rw [hu]
    exact un (x := fixE 8 c.u.toNat) (by simp [putE]) (u64_spec hu2 w2 (by omega))
  have h3' : (k == 3) = false := by simp [h3]
  have hs := hc.s
  by_cases h4 : k = 4
  · subst h4
    simp only [h1', h2'', h3', show ((4 : Int) == 4) = true from rfl, cond_true, cond_false, eS, Option.bind_some]
    exact un (x := uvarE c.s.size ++ c.s.data.toList) (by simp [putE]) (text_spec w2 (by omega) (by omega))
  have h4' : (k == 4) = false := by simp [h4]
  by_cases h5 : k = 5
  · subst h5
    simp only [h1', h2'', h3', h4', show ((5 : Int) == 5) = true from rfl, cond_true, cond_false, eS, Option.bind_some]
    exact un (x := uvarE c.s.size ++ c.s.data.toList) (by simp [putE]) (text_spec w2 (by omega) (by omega))
  have h5' : (k == 5) = false := by simp [h5]
  by_cases h6 : k = 6
  · subst h6
    simp only [h1', h2'', h3', h4', h5', show ((6 : Int) == 6) = true from rfl, cond_true, cond_false, eP, Option.bind_some]
    exact un (x := uvarE (zig (pointP c.re c.im).1) ++ uvarE (zig (pointP c.re c.im).2)) (by simp [putE]) (point_spec w2 (by omega))
  · have h6' : (k == 6) = false := by simp [h6]
    simp only [h1', h2'', h3', h4', h5', h6', cond_false]
    exact .ret ⟨rfl, by simpa [putE, h1, h2', h3, h4, h5, h6] using w2, k2⟩

end Go.Arm
namespace Go.Arm

theorem xor_zero64 (k : IntKind) (hk : k.bits = 64) {m : Nat} (hm : m < 2 ^ 64) : (BitVec.ofInt k.bits (m : Int) ^^^ BitVec.ofInt k.bits (0 : Int)).toNat = m := by
  rw [hk]
  have : BitVec.ofInt 64 (0 : Int) = 0#64 := by decide
  rw [this, BitVec.xor_zero]
  simp [BitVec.toNat_ofInt]
  omega
theorem xor_ones64 (k : IntKind) (hk : k.bits = 64) {m : Nat} (hm : m < 2 ^ 64) (z : Int) (hz : z = -1 ∨ z = 18446744073709551615) : (BitVec.ofInt k.bits (m : Int) ^^^ BitVec.ofInt k.bits z).toNat = 2 ^ 64 - 1 - m := by
  rw [hk]
  have : BitVec.ofInt 64 z = BitVec.allOnes 64 := by rcases hz with rfl | rfl <;> decide
  rw [this, BitVec.xor_allOnes, BitVec.toNat_not]
  simp [BitVec.toNat_ofInt]
  omega
theorem wrap_i64' (x : Int) : IntKind.wrap .i64 x = (x + 2 ^ 63) % 2 ^ 64 - 2 ^ 63 := by
  simp [IntKind.wrap, IntKind.bits, IntKind.signed]
  omega
theorem wrap_u64' (x : Int) : IntKind.wrap .u64 x = x % 2 ^ 64 := by
  simp [IntKind.wrap, IntKind.bits, IntKind.signed]

theorem iand1 (x : Nat) (hx : x < 2 ^ 64) : iand .u64 (x : Int) 1 = ((x % 2 : Nat) : Int) := by
  unfold iand
  have h1 : (BitVec.ofInt (IntKind.bits .u64) (x : Int) &&& BitVec.ofInt (IntKind.bits .u64) (1 : Int)).toNat = x % 2 := by
    rw [BitVec.toNat_and, toNat_ofInt64 hx]
    have : (BitVec.ofInt (IntKind.bits .u64) (1 : Int)).toNat = 1 := by decide
    rw [this, Nat.and_one_is_mod]
  rw [h1, wrap_u64 (by omega)]

theorem unzI_eq {x : Nat} (hx : x < 2 ^ 64) : unzI x = if x % 2 = 0 then ((x / 2 : Nat) : Int) else -1 - ((x / 2 : Nat) : Int) := by
  unfold unzI
  have e1 : ishr .u64 (x : Int) 1 = ((x / 2 : Nat) : Int) := shr_u64 x 1 (by omega)
  rw [e1, iand1 x hx]
  rw [wrap_i64 (x := ((x / 2 : Nat) : Int)) (by omega) (by omega), wrap_i64 (x := ((x % 2 : Nat) : Int)) (by omega) (by omega), wrap_i64 (x := 0 - ((x % 2 : Nat) : Int)) (by omega) (by omega)]
  unfold ixor
  by_cases h : x % 2 = 0
  · rw [if_pos h, h]
    rw [show (0 : Int) - ((0 : Nat) : Int) = 0 by rfl, xor_zero64 .i64 rfl (by omega), wrap_i64 (by omega) (by omega)]
  · have h1 : x % 2 = 1 := by omega
    rw [if_neg h, h1]
    rw [show (0 : Int) - ((1 : Nat) : Int) = -1 by rfl, xor_ones64 .i64 rfl (by omega) _ (.inl rfl), wrap_i64']
    all_goals omega

theorem zig_eq {v : Int} (h1 : -2 ^ 63 ≤ v) (h2 : v < 2 ^ 63) : zig v = if 0 ≤ v then (2 * v).toNat else (-2 * v - 1).toNat := by
  unfold zig zigI ixor
  have e63 : ishr .i64 v 63 = v / 2 ^ 63 := by
    unfold ishr
    have : min (63 : Int).toNat (IntKind.bits .i64) = 63 := by decide
    rw [this, Int.fdiv_eq_ediv_of_nonneg _ (by omega)]
  have e1 : ∀ z : Int, ishl .u64 z 1 = (z * 2) % 2 ^ 64 := by
    intro z
    unfold ishl
    have : min (1 : Int).toNat (IntKind.bits .u64) = 1 := by decide
    rw [this, wrap_u64']
    rfl
  rw [e63, e1, wrap_u64' v, wrap_u64' (v / 2 ^ 63)]
  by_cases h : 0 ≤ v
  · rw [if_pos h]
    have q1 : v % 2 ^ 64 * 2 % 2 ^ 64 = ((2 * v).toNat : Int) := by omega
    have q2 : v / 2 ^ 63 % 2 ^ 64 = 0 := by omega
    rw [q1, q2, xor_zero64 .u64 rfl (by omega), wrap_u64 (by omega)]
    simp
    omega
  · rw [if_neg h]
    have q1 : v % 2 ^ 64 * 2 % 2 ^ 64 = ((2 ^ 64 + 2 * v).toNat : Int) := by omega
    have q2 : v / 2 ^ 63 % 2 ^ 64 = 18446744073709551615 := by omega
    rw [q1, q2, xor_ones64 .u64 rfl (by omega) _ (.inr rfl), wrap_u64 (by omega)]
    omega

theorem zig_unz {x : Nat} (hx : x < 2 ^ 64) : zig (unzI x) = x := by
  rw [unzI_eq hx]
  by_cases h : x % 2 = 0
  · rw [if_pos h, zig_eq (by omega) (by omega), if_pos (by omega)]
    omega
  · rw [if_neg h, zig_eq (by omega) (by omega), if_neg (by omega)]
    omega
theorem unzI_range {x : Nat} (hx : x < 2 ^ 64) : -2 ^ 63 ≤ unzI x ∧ unzI x < 2 ^ 63 := by
  rw [unzI_eq hx]
  split <;> omega

end Go.Arm
namespace Go.Arm
variable {R : Type} {E : Env} {P : Program} {C : CF} {L : LF}

theorem optI_congr {tm tm' : List Value} (x : Option Operand) (h : ∀ y, x = some y → opv E tm y = opv E tm' y) : optI E tm x = optI E tm' x := by
  cases x with
  | none => rfl
  | some y => simp only [optI, h y rfl]
theorem optM_congr {tm tm' : List Value} (hi x : Option Operand) (h : ∀ y, x = some y → opv E tm y = opv E tm' y) : optM E tm hi x = optM E tm' hi x := by
  cases x with
  | none => rfl
  | some y => cases hi <;> simp only [optM, optI_congr (some y) h]

theorem biK_congr {tm tm' : List Value} (b : Builtin) (args : List Operand) (ts : List Nat) (rt : Nat) (h : H) (K : Value → H → Option R) (hc : ∀ x ∈ args, opv E tm x = opv E tm' x) : biK E b args ts rt tm h K = biK E b args ts rt tm' h K := by
  match args with
  | [] => cases b <;> simp [biK]
  | [x] =>
    have hx := hc x (by simp)
    unfold biK
    split <;> simp_all
  | [x, y] =>
    have hx := hc x (by simp)
    have hy := hc y (by simp)
    unfold biK
    split <;> simp_all
  | x :: y :: z :: l => unfold biK; split <;> simp_all

theorem stepK_congr {o : Oper} {tm tm' : List Value} {h : H} {K : Value → H → Option R} (hc : ∀ x ∈ o.op.operands, opv E tm x = opv E tm' x) : stepK E C L o tm h K = stepK E C L o tm' h K := by
  obtain ⟨dst, op, type, pos, after, guard⟩ := o
  have pairs : ∀ ps : Array (Nat × Operand), (∀ x ∈ ps.map (·.2), opv E tm x = opv E tm' x) →
      (ps.toList.map fun p => (p.1, opv E tm p.2)) = (ps.toList.map fun p => (p.1, opv E tm' p.2)) := fun ps hp =>
    List.map_congr_left fun p hm => by simp only [hp p.2 (Array.mem_map.2 ⟨p, Array.mem_toList_iff.1 hm, rfl⟩)]
  cases op <;> simp only [Op.operands] at hc <;> simp only [stepK]
  case build t ps => rw [pairs ps fun x hx => hc x (by simpa using hx)]
  case buildSlice t n ps => rw [pairs ps fun x hx => hc x (by simpa using hx)]
  case makeFunc fn first captured =>
    rw [List.map_congr_left (l := first.toList) fun x hx => hc x (by simp [Array.mem_toList_iff.1 hx]), List.map_congr_left (l := captured.toList) fun x hx => hc x (by simp [Array.mem_toList_iff.1 hx])]
  case call c =>
    have hargs : c.args.toList.map (opv E tm) = c.args.toList.map (opv E tm') := List.map_congr_left fun x hx => hc x (by simp [Call.operands, Array.mem_toList_iff.1 hx])
    have harg : ∀ x ∈ c.args.toList, opv E tm x = opv E tm' x := fun x hx => hc x (by simp [Call.operands, Array.mem_toList_iff.1 hx])
    cases hcal : c.callee with
    | value f =>
      have hf : opv E tm f = opv E tm' f := hc f (by simp [Call.operands, hcal])
      simp only [hargs, hf]
    | invoke r m => rfl
    | builtin b => exact biK_congr _ _ _ _ _ _ harg
  case makeMap t r => cases r <;> simp_all
  case slice t x lo hi mx =>
    have hx : opv E tm x = opv E tm' x := hc x (by simp)
    have h1 : ∀ y, lo = some y → opv E tm y = opv E tm' y := fun y hy => hc y (by simp [hy])
    have h2 : ∀ y, hi = some y → opv E tm y = opv E tm' y := fun y hy => hc y (by simp [hy])
    have h3 : ∀ y, mx = some y → opv E tm y = opv E tm' y := fun y hy => hc y (by simp [hy])
    rw [optI_congr lo h1, optI_congr hi h2, optM_congr hi mx h3, hx]
  case binOp op xt x y yt =>
    have h1 : opv E tm x = opv E tm' x := hc x (by simp)
    have h2 : opv E tm y = opv E tm' y := hc y (by simp)
    simp only [binK, nilK, h1, h2]
  case unOp op t x =>
    have h1 : opv E tm x = opv E tm' x := hc x (by simp)
    simp only [unK, h1]
  case convert s d x =>
    have h1 : opv E tm x = opv E tm' x := hc x (by simp)
    simp only [convK, h1]
  all_goals (first | rfl | (simp_all; done))

end Go.Arm

namespace Go.Arm

theorem befsGo_length : ∀ (l : List Oper) (acc : List Nat), (befsGo l acc).length = acc.length + l.length
  | [], acc => by simp [befsGo]
  | o :: l, acc => by rw [befsGo, befsGo_length l]; simp; omega

theorem befsGo_pre : ∀ (l : List Oper) (acc : List Nat) (i : Nat), i < acc.length → (befsGo l acc).getD i 0 = acc.getD i 0
  | [], acc, i, h => rfl
  | o :: l, acc, i, h => by
    rw [befsGo, befsGo_pre l _ i (by simp; omega)]
    simp [List.getD_eq_getElem?_getD, List.getElem?_append_left h]

theorem befsGo_at : ∀ (l : List Oper) (acc : List Nat) (i : Nat) (o : Oper), l[i]? = some o → (befsGo l acc).getD (acc.length + i) 0 = befMask ((befsGo l acc).take (acc.length + i)) o
  | [], acc, i, o, h => by simp at h
  | o' :: l, acc, 0, o, h => by
    simp at h
    subst h
    rw [befsGo, Nat.add_zero, befsGo_pre l _ acc.length (by simp)]
    have ht : ∀ (l : List Oper) (acc : List Nat) (n : Nat), n ≤ acc.length → (befsGo l acc).take n = acc.take n := by
      intro l
      induction l with
      | nil => intro acc n hn; rfl
      | cons o l ih => intro acc n hn; rw [befsGo, ih _ n (by simp; omega), List.take_append_of_le_length hn]
    rw [ht l _ acc.length (by simp)]
    simp
  | o' :: l, acc, i + 1, o, h => by
    have := befsGo_at l (acc ++ [befMask acc o']) i o (by simpa using h)
    rw [befsGo]
    simp only [List.length_append, List.length_cons, List.length_nil, Nat.zero_add] at this
    rw [show acc.length + (i + 1) = acc.length + 1 + i by omega]
    exact this

theorem befs_at {all : List Oper} {i : Nat} {o : Oper} (h : all[i]? = some o) : (befs all).getD i 0 = befMask ((befs all).take i) o := by
  have := befsGo_at all [] i o h
  simpa [befs] using this

theorem foldl_bit (acc : List Nat) (j : Nat) : ∀ (es : List Edge) (s0 : Nat), (es.foldl (fun s e => match e.ground with
    | .textOnly _ => s
    | .gcOnly _ => s
    | _ => s ||| 2 ^ e.on ||| acc.getD e.on 0) s0).testBit j = true → s0.testBit j = true ∨ ∃ e ∈ es, Region.binds .any e = true ∧ (j = e.on ∨ (acc.getD e.on 0).testBit j = true)
  | [], s0, h => .inl h
  | e :: es, s0, h => by
    rw [List.foldl_cons] at h
    rcases foldl_bit acc j es _ h with h1 | ⟨e', he', hb, hj⟩
    · cases hg : e.ground with
      | textOnly q => rw [hg] at h1; exact .inl h1
      | gcOnly q => rw [hg] at h1; exact .inl h1
      | _ =>
        simp only [hg, Nat.testBit_or, Bool.or_eq_true] at h1
        rcases h1 with (h1 | h1) | h1
        · exact .inl h1
        · refine .inr ⟨e, by simp, by simp [Region.binds, hg], .inl ?_⟩
          rw [Nat.testBit_two_pow] at h1
          simpa using (of_decide_eq_true h1).symm
        · exact .inr ⟨e, by simp, by simp [Region.binds, hg], .inr h1⟩
    · exact .inr ⟨e', by simp [he'], hb, hj⟩

/-- what is closed downwards along the edges holds all that the masks tell -/
theorem mask_closed {all : List Oper} {D : Nat → Prop} (hD : ∀ i o, all[i]? = some o → D i → ∀ e ∈ o.after, Region.binds .any e = true → D e.on) :
    ∀ i, D i → ∀ j, ((befs all).getD i 0).testBit j = true → D j := by
  intro i
  induction i using Nat.strongRecOn with
  | _ i ih =>
    intro hi j hj
    cases ho : all[i]? with
    | none =>
      have : (befs all).length = all.length := by unfold befs; rw [befsGo_length]; simp
      rw [List.getD_eq_getElem?_getD, List.getElem?_eq_none (by rw [this]; exact List.getElem?_eq_none_iff.1 ho)] at hj
      simp at hj
    | some o =>
      rw [befs_at ho] at hj
      unfold befMask at hj
      rcases foldl_bit _ j o.after.toList 0 hj with h0 | ⟨e, he, hb, h1 | h1⟩
      · simp at h0
      · rw [h1]; exact hD i o ho hi e (Array.mem_toList_iff.1 he) hb
      · have hen : D e.on := hD i o ho hi e (Array.mem_toList_iff.1 he) hb
        rw [List.getD_eq_getElem?_getD, List.getElem?_take] at h1
        split at h1
        · rename_i hlt
          exact ih e.on hlt hen j (by rw [List.getD_eq_getElem?_getD]; exact h1)
        · simp at h1

end Go.Arm
namespace Go.Arm
variable {R : Type} {E : Env} {C : CF} {L : LF}
def stepV (E : Env) (C : CF) (L : LF) (o : Oper) (tm : List Value) (h : H) : Option (Value × H) := stepK E C L o tm h fun v h' => some (v, h')

theorem src1_nat {t : Nat} {v : Value} {K : Value → Option R} : src1 E t v K = (src1 E t v some).bind K := by
  unfold src1
  split
  · split
    · cases asI _ v <;> rfl
    · cases asB v <;> rfl
    · cases asS v <;> rfl
    · rfl
  · rfl
theorem binI_nat {op : BinOp} {k : IntKind} {x y : Int} {K : Value → Option R} : binI op k x y K = (binI op k x y some).bind K := by
  have hc : ∀ (b : Bool) (u : Option R) (v : Option Value), u = v.bind K → cond b none u = (cond b none v).bind K := by
    intro b u v h
    cases b
    · exact h
    · rfl
  cases op <;> first | rfl | exact hc _ _ _ rfl
theorem nilK_nat {k : Nat} {op : BinOp} {x y : Operand} {tm : List Value} {K : Value → Option R} : nilK E k op x y tm K = (nilK E k op x y tm some).bind K := by
  unfold nilK
  split
  · cases nilT k (opv E tm x) <;> cases op <;> rfl
  · split
    · cases nilT k (opv E tm y) <;> cases op <;> rfl
    · rfl
theorem unK_nat {op : UnOp} {t : Nat} {x : Operand} {tm : List Value} {K : Value → Option R} : unK E op t x tm K = (unK E op t x tm some).bind K := by
  unfold unK
  split
  · rfl
  · split
    · split <;> rfl
    · split <;> rfl
    · rfl
    · cases fneg _ <;> rfl
    · cases fneg _ <;> rfl
    · rfl
theorem binK_nat {op : BinOp} {t : Nat} {x y : Operand} {tm : List Value} {K : Value → Option R} : binK E op t x y tm K = (binK E op t x y tm some).bind K := by
  unfold binK
  split
  · rfl
  · split
    · split
      · split
        · exact binI_nat
        · rfl
      · rfl
    · split
      · cases op <;> rfl
      · rfl
    · split
      · rename_i a b _ _
        cases op <;> first | rfl | (cases decide (roomy < a.size + b.size) <;> rfl)
      · rfl
    · cases fop op (opv E tm x) (opv E tm y) with
      | none => rfl
      | some v => cases op <;> first | rfl | (simp only [Option.bind_some]; cases asB v <;> rfl)
    · cases fop op (opv E tm x) (opv E tm y) with
      | none => rfl
      | some v => cases op <;> first | rfl | (simp only [Option.bind_some]; cases asB v <;> rfl)
    · cases eqT E 8 t (opv E tm x) (opv E tm y) <;> cases op <;> rfl
    · cases eqT E 8 t (opv E tm x) (opv E tm y) <;> cases op <;> rfl
    · exact nilK_nat
    · exact nilK_nat
    · exact nilK_nat
    · exact nilK_nat
    · exact nilK_nat
    · rfl
theorem convK_nat {s d : Nat} {x : Operand} {tm : List Value} {h : H} {K : Value → H → Option R} : convK E s d x tm h K = (convK E s d x tm h fun v h' => some (v, h')).bind fun p => K p.1 p.2 := by
  unfold convK
  split
  · split
    · split <;> rfl
    · split
      · split <;> rfl
      · rfl
    · cases f2i _ (opv E tm x) <;> rfl
    · cases asS (opv E tm x) <;> rfl
    · split
      · cases strOf h (opv E tm x) <;> rfl
      · rfl
    · split
      · rename_i e r _ _
        cases bytesOf e h r <;> rfl
      · rfl
    · rfl
  · rfl
theorem biK_nat {b : Builtin} {args : List Operand} {ts : List Nat} {rt : Nat} {tm : List Value} {h : H} {K : Value → H → Option R} : biK E b args ts rt tm h K = (biK E b args ts rt tm h fun v h' => some (v, h')).bind fun p => K p.1 p.2 := by
  unfold biK
  split
  · split
    · split
      · split <;> rfl
      · rfl
      · cases lenV _ <;> rfl
      · cases lenM h _ <;> rfl
      · rfl
    · rfl
  · split
    · split
      · split
        · rfl
        · cases appA _ _ _ h _ _ <;> rfl
      · rfl
    · rfl
  · split
    · split
      · cases copyA _ h _ _ <;> rfl
      · rfl
    · rfl
  · cases realV _ <;> rfl
  · cases imagV _ <;> rfl
  · cases cplxV _ _ <;> rfl
  · split <;> rfl
  · split <;> rfl
  · split
    · cases delM E _ h _ _ <;> rfl
    · rfl
  · split
    · cases clrM h _ <;> rfl
    · rfl
  · rfl
theorem src_nat {t : Nat} {v : Value} {K : Value → Option R} : src E t v K = (src E t v some).bind K := by
  unfold src
  split
  · split
    · cases tup2 v with
      | none => rfl
      | some p =>
        simp only [Option.bind_some]
        rw [src1_nat]
        conv => rhs; rw [src1_nat]
        cases src1 E _ p.1 some with
        | none => rfl
        | some y =>
          simp only [Option.bind_some]
          rw [src1_nat]
          conv => rhs; rw [src1_nat]
          cases src1 E _ p.2 some <;> rfl
    · cases tup3 v with
      | none => rfl
      | some p =>
        simp only [Option.bind_some]
        rw [src1_nat]
        conv => rhs; rw [src1_nat]
        cases src1 E _ p.1 some with
        | none => rfl
        | some y =>
          simp only [Option.bind_some]
          rw [src1_nat]
          conv => rhs; rw [src1_nat]
          cases src1 E _ p.2.1 some with
          | none => rfl
          | some z =>
            simp only [Option.bind_some]
            rw [src1_nat]
            conv => rhs; rw [src1_nat]
            cases src1 E _ p.2.2 some <;> rfl
    · exact src1_nat
  · rfl
theorem cond_nat {α : Type} (c : Bool) (x y : Option α) (F : α → Option R) : (cond c x y).bind F = cond c (x.bind F) (y.bind F) := by cases c <;> rfl

theorem stepK_nat {o : Oper} {tm : List Value} {h : H} {K : Value → H → Option R} : stepK E C L o tm h K = (stepV E C L o tm h).bind fun p => K p.1 p.2 := by
  unfold stepV
  obtain ⟨dst, op, type, pos, after, guard⟩ := o
  cases op <;> simp only [stepK]
  case pick c a b =>
    split
    · rw [cond_nat]; rfl
    · rfl
  case alloc e =>
    split
    · split <;> rfl
    · rfl
  case box e x =>
    split
    · split
      · cases oneL _ <;> rfl
      · cases oneL _ <;> rfl
      · rw [cond_nat]; rfl
    · rfl
  case build t ps => cases bldT E _ _ <;> rfl
  case buildSlice t n ps =>
    split
    · cases bldS E _ _ _ <;> rfl
    · rfl
  case load t a =>
    cases asP (opv E tm a) with
    | none => rfl
    | some p =>
      simp only [Option.bind_some]
      split
      · split
        · cases ldI _ h _ _ <;> rfl
        · cases ldB h _ _ <;> rfl
        · cases ldS h _ _ <;> rfl
        · cases ldA _ h _ _ <;> rfl
        · cases ldA _ h _ _ <;> rfl
        · rfl
        · cases ldV h _ _ <;> rfl
      · rfl
  case store t a x =>
    cases asP (opv E tm a) with
    | none => rfl
    | some p =>
      simp only [Option.bind_some]
      split
      · cases stV _ h _ _ _ <;> rfl
      · rfl
  case nilCheck x => cases asP (opv E tm x) <;> rfl
  case binOp op t x y yt => rw [binK_nat]; conv => rhs; rw [binK_nat]
                            cases binK E op t x y tm some <;> rfl
  case unOp op t x => rw [unK_nat]; conv => rhs; rw [unK_nat]
                      cases unK E op t x tm some <;> rfl
  case convert s d x => exact convK_nat
  case makeInterface t x =>
    split
    · split <;> rfl
    · rfl
  case makeFunc fn a b => split <;> rfl
  case makeMap t r =>
    split
    · split
      · rfl
      · split <;> rfl
    · rfl
  case makeSlice t l c =>
    split
    · split
      · split
        · cases mkS _ _ _ h _ _ <;> rfl
        · rfl
      · rfl
    · rfl
  case slice t x lo hi mx =>
    split
    · split
      · split
        · split
          · cases slS _ _ _ <;> rfl
          · rfl
        · rfl
      · split
        · cases slV _ _ h _ _ _ _ <;> rfl
        · rfl
      · split
        · cases asP (opv E tm x) with
          | none => rfl
          | some p => simp only [Option.bind_some]; cases slP _ _ _ _ _ _ _ <;> rfl
        · rfl
      · rfl
    · rfl
  case fieldAddr t x f =>
    split
    · split
      · split
        · split
          · rfl
          · cases asP (opv E tm x) <;> rfl
        · rfl
      · rfl
    · rfl
  case field t x f =>
    split
    · split
      · split
        · cases partV _ _ _ _ with
          | none => rfl
          | some v =>
            simp only [Option.bind_some]
            rw [src1_nat]
            conv => rhs; rw [src1_nat]
            cases src1 E _ v some <;> rfl
        · rfl
      · rfl
    · rfl
  case indexAddr t x ix =>
    split
    · split
      · split
        · cases asP (opv E tm x) with
          | none => rfl
          | some p => simp only [Option.bind_some]; rw [cond_nat]; rfl
        · rfl
      · split
        · cases idx _ _ _ <;> rfl
        · rfl
      · rfl
    · rfl
  case index t x ix =>
    split
    · split
      · split
        · cases byteAt _ _ <;> rfl
        · rfl
      · split
        · rw [cond_nat]
          congr 1
          cases partV _ _ _ _ with
          | none => rfl
          | some v =>
            simp only [Option.bind_some]
            rw [src1_nat]
            conv => rhs; rw [src1_nat]
            cases src1 E _ v some <;> rfl
        · rfl
      · rfl
    · rfl
  case lookup t x ix ok =>
    split
    · split
      · split
        · rfl
        · cases lookM E _ h _ _ with
          | none => rfl
          | some r =>
            simp only [Option.bind_some]
            rw [src1_nat]
            conv => rhs; rw [src1_nat]
            cases src1 E _ _ some with
            | none => rfl
            | some v => simp only [Option.bind_some]; cases ok <;> rfl
      · rfl
    · rfl
  case mapUpdate t m k x =>
    split
    · cases setM E _ h _ _ _ <;> rfl
    · rfl
  case insert t m k x =>
    split
    · cases setM E _ h _ _ _ <;> rfl
    · rfl
  case mapEntry t m k =>
    split
    · split
      · split
        · rfl
        · cases entM E _ h _ _ _ with
          | none => rfl
          | some p =>
            simp only [Option.bind_some]
            rw [src1_nat]
            conv => rhs; rw [src1_nat]
            cases src1 E _ p.1 some <;> rfl
      · rfl
    · rfl
  case entryStore t m s x =>
    split
    · cases entSt h _ _ _ <;> rfl
    · rfl
  case extract x i =>
    split
    · split <;> rfl
    · rfl
  case call c =>
    split
    · exact biK_nat
    · cases callV C L _ _ h with
      | none => rfl
      | some p =>
        simp only [Option.bind_some]
        rw [src_nat]
        conv => rhs; rw [src_nat]
        cases src E _ p.1 some <;> rfl
    · rfl
  all_goals rfl

theorem stepV0' {o : Oper} {tm : List Value} {h g : H} {K : Value → H → Option R} (hc : cls o.op = 0) : stepK E C L o tm h K = (stepV E C L o tm g).bind fun p => K p.1 h := by
  unfold stepV
  obtain ⟨dst, op, type, pos, after, guard⟩ := o
  cases op <;> simp only [stepK] <;> try (simp [cls] at hc; done)
  case move => rfl
  case assign => rfl
  case pick c a b =>
    split
    · rw [cond_nat]; rfl
    · rfl
  case build t ps => cases bldT E _ _ <;> rfl
  case nilCheck x => cases asP (opv E tm x) <;> rfl
  case binOp op t x y yt => rw [binK_nat]; conv => rhs; rw [binK_nat]
                            cases binK E op t x y tm some <;> rfl
  case unOp op t x => rw [unK_nat]; conv => rhs; rw [unK_nat]
                      cases unK E op t x tm some <;> rfl
  case makeInterface t x =>
    split
    · split <;> rfl
    · rfl
  case makeFunc fn a b => split <;> rfl
  case fieldAddr t x f =>
    split
    · split
      · split
        · split
          · rfl
          · cases asP (opv E tm x) <;> rfl
        · rfl
      · rfl
    · rfl
  case field t x f =>
    split
    · split
      · split
        · cases partV _ _ _ _ with
          | none => rfl
          | some v =>
            simp only [Option.bind_some]
            rw [src1_nat]
            conv => rhs; rw [src1_nat]
            cases src1 E _ v some <;> rfl
        · rfl
      · rfl
    · rfl
  case indexAddr t x ix =>
    split
    · split
      · split
        · cases asP (opv E tm x) with
          | none => rfl
          | some p => simp only [Option.bind_some]; rw [cond_nat]; rfl
        · rfl
      · split
        · cases idx _ _ _ <;> rfl
        · rfl
      · rfl
    · rfl
  case index t x ix =>
    split
    · split
      · split
        · cases byteAt _ _ <;> rfl
        · rfl
      · split
        · rw [cond_nat]
          congr 1
          cases partV _ _ _ _ with
          | none => rfl
          | some v =>
            simp only [Option.bind_some]
            rw [src1_nat]
            conv => rhs; rw [src1_nat]
            cases src1 E _ v some <;> rfl
        · rfl
      · rfl
    · rfl
  case extract x i =>
    split
    · split <;> rfl
    · rfl
  case call c =>
    split
    · rename_i b hb
      have hc' : b = .real ∨ b = .imag ∨ b = .complex ∨ b = .max ∨ b = .min := by
        obtain ⟨callee, args, ats⟩ := c
        simp only at hb
        subst hb
        cases b <;> simp [cls] at hc ⊢
      unfold biK
      rcases hc' with rfl | rfl | rfl | rfl | rfl
      · split <;> first | contradiction | (simp_all; done) | (cases realV _ <;> rfl)
      · split <;> first | contradiction | (simp_all; done) | (cases imagV _ <;> rfl)
      · split <;> first | contradiction | (simp_all; done) | (cases cplxV _ _ <;> rfl)
      · split <;> first | contradiction | (simp_all; done) | (split <;> rfl)
      · split <;> first | contradiction | (simp_all; done) | (split <;> rfl)
    · rename_i f hb
      obtain ⟨callee, args, ats⟩ := c
      simp only at hb
      subst hb
      simp [cls] at hc
    · rfl

/-- an operation that has nothing with memory answers alike in any -/
theorem stepV0 {o : Oper} {tm : List Value} {h h' : H} {v : Value} (hc : cls o.op = 0) (e : stepV E C L o tm h = some (v, h')) : h' = h ∧ ∀ g, stepV E C L o tm g = some (v, g) := by
  have key : ∀ g g', stepV E C L o tm g = (stepV E C L o tm g').bind fun p => some (p.1, g) := fun g g' => stepV0' (R := Value × H) hc
  refine ⟨?_, fun g => by rw [key g h, e]; rfl⟩
  have := key h h
  rw [e] at this
  cases this
  rfl

theorem stepV1' {o : Oper} {tm : List Value} {h : H} {K : Value → H → Option R} (hc : cls o.op = 1) (hr : readOk E o = true) : stepK E C L o tm h K = (stepV E C L o tm h).bind fun p => K p.1 h := by
  unfold stepV
  obtain ⟨dst, op, type, pos, after, guard⟩ := o
  cases op <;> simp only [stepK] <;> try (simp [cls] at hc; done)
  case load t a =>
    cases asP (opv E tm a) with
    | none => rfl
    | some p =>
      simp only [Option.bind_some]
      split
      · split
        · cases ldI _ h _ _ <;> rfl
        · cases ldB h _ _ <;> rfl
        · cases ldS h _ _ <;> rfl
        · cases ldA _ h _ _ <;> rfl
        · cases ldA _ h _ _ <;> rfl
        · rfl
        · cases ldV h _ _ <;> rfl
      · rfl
  case convert s d x =>
    unfold convK
    simp only [readOk] at hr
    split
    · rename_i i j hi hj
      split
      · split <;> rfl
      · split
        · split <;> rfl
        · rfl
      · cases f2i _ (opv E tm x) <;> rfl
      · cases asS (opv E tm x) <;> rfl
      · split
        · cases strOf h (opv E tm x) <;> rfl
        · rfl
      · rename_i hty
        obtain ⟨a1, a2, a3, a4, a5, a6⟩ := j
        simp only at hty
        subst hty
        rw [hj] at hr
        simp at hr
      · rfl
    · rfl
  case slice t x lo hi mx =>
    split
    · split
      · split
        · split
          · cases slS _ _ _ <;> rfl
          · rfl
        · rfl
      · split
        · cases slV _ _ h _ _ _ _ <;> rfl
        · rfl
      · split
        · cases asP (opv E tm x) with
          | none => rfl
          | some p => simp only [Option.bind_some]; cases slP _ _ _ _ _ _ _ <;> rfl
        · rfl
      · rfl
    · rfl
  case lookup t x ix ok =>
    split
    · split
      · split
        · rfl
        · cases lookM E _ h _ _ with
          | none => rfl
          | some r =>
            simp only [Option.bind_some]
            rw [src1_nat]
            conv => rhs; rw [src1_nat]
            cases src1 E _ _ some with
            | none => rfl
            | some v => simp only [Option.bind_some]; cases ok <;> rfl
      · rfl
    · rfl
  case call c =>
    split
    · rename_i b hb
      have hc' : b = .len := by
        obtain ⟨callee, args, ats⟩ := c
        simp only at hb
        subst hb
        cases b <;> simp [cls] at hc ⊢
      subst hc'
      unfold biK
      split <;> first | contradiction | (simp_all; done) | skip
      · split
        · split
          · split <;> rfl
          · rfl
          · cases lenV _ <;> rfl
          · cases lenM h _ <;> rfl
          · rfl
        · rfl
    · rename_i f hb
      obtain ⟨callee, args, ats⟩ := c
      simp only at hb
      subst hb
      simp [cls] at hc
    · rfl

/-- a read turns nothing -/
theorem stepV1 {o : Oper} {tm : List Value} {h h' : H} {v : Value} (hc : cls o.op = 1) (hr : readOk E o = true) (e : stepV E C L o tm h = some (v, h')) : h' = h := by
  have key : stepV E C L o tm h = (stepV E C L o tm h).bind fun p => some (p.1, h) := stepV1' (R := Value × H) hc hr
  rw [e] at key
  cases key
  rfl

end Go.Arm
namespace Go.Arm
variable {R : Type} {E : Env} {P : Program} {C : CF} {L : LF}

def floatV (E : Env) (o : Oper) (id : Nat) (tm : List Value) : Option (Value × Blk) := floatK E o id tm fun v b => some (v, b)

theorem floatK_nat {o : Oper} {id : Nat} {tm : List Value} {K : Value → Blk → Option R} : floatK E o id tm K = (floatV E o id tm).bind fun p => K p.1 p.2 := by
  unfold floatV floatK
  split
  · split
    · split <;> rfl
    · rfl
  · split
    · split
      · cases oneL _ <;> rfl
      · cases oneL _ <;> rfl
      · rw [cond_nat]; rfl
    · rfl
  · split
    · cases bldS E _ _ _ <;> rfl
    · rfl
  · rfl

theorem floatV_congr {o : Oper} {id : Nat} {tm tm' : List Value} (hc : ∀ x ∈ o.op.operands, opv E tm x = opv E tm' x) : floatV E o id tm = floatV E o id tm' := by
  obtain ⟨dst, op, type, pos, after, guard⟩ := o
  unfold floatV floatK
  cases op <;> simp only [Op.operands] at hc <;> try rfl
  case box e x =>
    have := hc x (by simp)
    simp only [this]
  case buildSlice t n ps =>
    have : (ps.toList.map fun p => (p.1, opv E tm p.2)) = (ps.toList.map fun p => (p.1, opv E tm' p.2)) :=
      List.map_congr_left fun p hm => by simp only [hc p.2 (by simpa using ⟨p.1, Array.mem_toList_iff.1 hm⟩)]
    simp only [this]

/-- what a float does -/
def FloatW (E : Env) (P : Program) (o : Oper) (id : Nat) (tm : List Value) (v : Value) (b : Blk) : Prop :=
  b ≠ .hole ∧ ∀ β S h w (a : Act), TmR β tm a → RH E β h S w → β id = none → ∃ x o' v', x.blk = w.heap.size ∧ (execOp a.eval o).run P w = .ok (.value v') (w.alloc o') ∧ VR (β.set id x) v v' ∧
    ∀ S' : Sc, S' w.heap.size → BlkOK E (β.set id x) S' (w.alloc o') x b

theorem FloatW.ptr {o : Oper} {id : Nat} {tm : List Value} {cs : List Value} (e : TypeId)
    (hs : ∀ β S h w (a : Act), TmR β tm a → RH E β h S w → ∃ cs', VL β cs cs' ∧ (execOp a.eval o).run P w = .ok (.value (Arm.ptr w.heap.size 0)) (w.alloc (.cells ⟨cs'⟩ e))) : FloatW E P o id tm (Arm.ptr id 0) (.cells cs e true false) := by
  refine ⟨by simp, fun β S h w a ht r hid => ?_⟩
  obtain ⟨cs', hv, hrun⟩ := hs β S h w a ht r
  refine ⟨⟨w.heap.size, 0, cs.length, cs.length, 0, false⟩, _, _, rfl, hrun, ?_, fun S' hS' => BlkOK.newCells hS' hid hv⟩
  exact VR.cptr (β := β.set id _) id 0 _ (Beta.set_same _ _ _)

theorem float_ok (hE : EnvOK P E) {o : Oper} {id : Nat} {tm : List Value} {v : Value} {b : Blk} (e : floatV E o id tm = some (v, b)) : FloatW E P o id tm v b := by
  unfold floatV floatK at e
  split at e
  · rename_i t ho
    split at e
    case h_2 => cases e
    rename_i i hi
    split at e
    case isFalse => cases e
    rename_i hc
    cases e
    simp only [Bool.and_eq_true, Bool.not_eq_true'] at hc
    refine .ptr t fun β S h w a ht r => ?_
    have hok := hE.tys t i hi
    obtain ⟨f, hf, hs, _, hz⟩ := hok.inf
    obtain ⟨z, hz1, hz2⟩ := hz hc.2
    refine ⟨i.zero, VL.refl_closed β hok.cl, ?_⟩
    simp [execOp, ho, Instr.alloc, zeroValue, typeInfo, hf, hz1, newVar, newRow, hz2]
  · rename_i t x ho
    split at e
    case h_2 => cases e
    rename_i i hi
    have base : ∀ l, (opv E tm x).cells.toList = l → (∀ u ∈ l, one u = true) → FloatW E P o id tm (ptr id 0) (.cells l t true false) := by
      intro l hl h1
      subst hl
      refine .ptr t fun β S h w a ht r => ⟨_, (opv_rel r ht x).cells' h1, ?_⟩
      simp only [execOp, ho, Sem.run_bind, run_box, Result.andThen_ok, Sem.run_pure]
    split at e
    · obtain ⟨l, hl, e⟩ := Option.bind_eq_some_iff.1 e
      obtain ⟨rfl, h1⟩ := oneL_some hl
      cases e
      exact base _ rfl h1
    · obtain ⟨l, hl, e⟩ := Option.bind_eq_some_iff.1 e
      obtain ⟨rfl, h1⟩ := oneL_some hl
      cases e
      exact base _ rfl h1
    · cases h1 : one (opv E tm x) with
      | false => simp [h1] at e
      | true => simp only [h1, cond_true] at e; cases e; exact base _ (cells_one h1) (by simpa using h1)
  · rename_i t n ps ho
    split at e
    case h_2 => cases e
    rename_i _ _ _ el _ _ hi
    obtain ⟨l, hl, e⟩ := Option.bind_eq_some_iff.1 e
    cases e
    refine ⟨by simp, fun β S h w a ht r hid => ?_⟩
    have hu : P.underlying t = some (.slice el) := (hE.tys t _ hi).und
    obtain ⟨A, hvl, hrun, _⟩ := bldS_run hE hu hl ⟨_, hi, rfl⟩ r ht ho
    refine ⟨⟨w.heap.size, 0, l.length, l.length, 0, false⟩, _, _, rfl, by simpa using hrun, ?_, fun S' hS' => BlkOK.newCells hS' hid (by simpa using hvl)⟩
    exact VR.slice (β := β.set id _) id 0 n n n _ (Beta.set_same _ _ _) (Nat.le_refl _) (.inl rfl)
  · cases e

end Go.Arm
namespace Go.Arm
variable {R : Type} {E : Env} {P : Program} {C : CF} {L : LF}

/-! ## equality as far as it is asked -/
theorem veq1_true {x y : Value} (e : veq1 x y = true) : y = x := by
  unfold veq1 at e
  split at e <;> simp_all
theorem veqL_true : ∀ {l l' : List Value}, veqL l l' = true → l' = l
  | [], [], _ => rfl
  | [], _ :: _, e => by simp [veqL] at e
  | _ :: _, [], e => by simp [veqL] at e
  | x :: xs, y :: ys, e => by
    simp only [veqL, Bool.and_eq_true] at e
    rw [veq1_true e.1, veqL_true e.2]
theorem veq_true {x y : Value} (e : veq x y = true) : y = x := by
  unfold veq at e
  split at e
  · rename_i a b
    have := veqL_true e
    rw [Array.toList_inj.1 this]
  · rename_i a b
    have := veqL_true e
    rw [Array.toList_inj.1 this]
  · exact veq1_true e

/-! ## one step -/
def goK (E : Env) (C : CF) (L : LF) (all : List Oper) (bf ef : List Nat) (base : Nat) (o : Oper) (rest : List Oper) (i : Nat) (h : H) (st : DrawSt) (K : List Value → H → Option R) (kn : List (Tmp × Option Bool)) (tm : List Value) : Option R :=
  match cls o.op with
  | 0 => stepK E C L o tm h fun v h' => drawK E C L all bf ef base rest (i + 1) (setKn kn o.dst) (putD tm o.dst v) h' st K
  | 1 => if readOk E o = false then none else stepK E C L o tm h fun v _ =>
    let f : H → Option Bool := fun g => stepK E C L o tm g fun v' _ => some (veq v v')
    let lo := (ef.filter fun e => (bf.getD i 0).testBit e).length
    let hi := (ef.filter fun e => !(bf.getD e 0).testBit i).length
    let k0 := (ef.filter fun e => e < i).length
    chkH f (drawK E C L all bf ef base rest (i + 1) (setKn kn o.dst) (putD tm o.dst v) h { st with again := if k0 < hi then (hi, f) :: st.again else st.again } K) (st.hist.take (k0 - lo))
  | 2 => floatK E o (base + fnum all i) tm fun v b => drawK E C L all bf ef base rest (i + 1) (setKn kn o.dst) (putD tm o.dst v) h { st with flo := st.flo ++ [(i, base + fnum all i, b)] } K
  | _ =>
    let p := layF (bf.getD i 0) false st.flo h
    stepK E C L o tm p.1 fun v h' =>
      let k := (ef.filter fun e => e < i).length + 1
      chk k h' (drawK E C L all bf ef base rest (i + 1) (setKn kn o.dst) (putD tm o.dst v) h' { st with hist := h :: st.hist, flo := p.2 } K) st.again
def skipK (E : Env) (C : CF) (L : LF) (all : List Oper) (bf ef : List Nat) (base : Nat) (o : Oper) (rest : List Oper) (i : Nat) (h : H) (st : DrawSt) (K : List Value → H → Option R) (kn : List (Tmp × Option Bool)) (tm : List Value) : Option R :=
  drawK E C L all bf ef base rest (i + 1) (offKn kn o.dst) (putD tm o.dst junk) h st K

theorem drawK_cons {all : List Oper} {bf ef : List Nat} {base : Nat} {o : Oper} {rest : List Oper} {i : Nat} {h : H} {st : DrawSt} {K : List Value → H → Option R} {kn : List (Tmp × Option Bool)} {tm : List Value} :
    drawK E C L all bf ef base (o :: rest) i kn tm h st K = match o.guard with
    | none => goK E C L all bf ef base o rest i h st K kn tm
    | some (j, want) => match gslot all j with
      | none => none
      | some g => match kn.lookup g with
        | some (some b) => if b == want then goK E C L all bf ef base o rest i h st K kn tm else skipK E C L all bf ef base o rest i h st K kn tm
        | some none => skipK E C L all bf ef base o rest i h st K kn tm
        | none => match lget tm g with
          | .bool b => cond b
              (if want then goK E C L all bf ef base o rest i h st K ((g, some true) :: kn) (lset tm g (.bool true)) else skipK E C L all bf ef base o rest i h st K ((g, some true) :: kn) (lset tm g (.bool true)))
              (if want then skipK E C L all bf ef base o rest i h st K ((g, some false) :: kn) (lset tm g (.bool false)) else goK E C L all bf ef base o rest i h st K ((g, some false) :: kn) (lset tm g (.bool false)))
          | _ => none := by rfl

theorem chkH_some {f : H → Option Bool} {K : Option R} {res : R} : ∀ {l : List H}, chkH f K l = some res → (∀ g ∈ l, f g = some true) ∧ K = some res
  | [], e => ⟨by simp, e⟩
  | g :: l, e => by
    simp only [chkH] at e
    obtain ⟨b, hb, e⟩ := Option.bind_eq_some_iff.1 e
    cases b with
    | false => simp at e
    | true =>
      obtain ⟨h1, h2⟩ := chkH_some (show chkH f K l = some res from e)
      exact ⟨fun g' hg => (List.mem_cons.1 hg).elim (fun q => by rw [q]; exact hb) (h1 g'), h2⟩
theorem chk_some {n : Nat} {h : H} {K : Option R} {res : R} : ∀ {l : List (Nat × (H → Option Bool))}, chk n h K l = some res → (∀ p ∈ l, n ≤ p.1 → p.2 h = some true) ∧ K = some res
  | [], e => ⟨by simp, e⟩
  | (m, f) :: l, e => by
    simp only [chk] at e
    split at e
    · rename_i hle
      obtain ⟨b, hb, e⟩ := Option.bind_eq_some_iff.1 e
      cases b with
      | false => simp at e
      | true =>
        obtain ⟨h1, h2⟩ := chk_some (show chk n h K l = some res from e)
        exact ⟨fun g' hg => (List.mem_cons.1 hg).elim (fun q _ => by rw [q]; exact hb) (h1 g'), h2⟩
    · rename_i hle
      obtain ⟨h1, h2⟩ := chk_some e
      exact ⟨fun g' hg => (List.mem_cons.1 hg).elim (fun q h => absurd (by rw [q] at h; exact h) hle) (h1 g'), h2⟩

theorem lset_self : ∀ {tm : List Value} {g : Nat} {v : Value}, lget tm g = v → lset tm g v = tm
  | [], _, _, _ => rfl
  | _ :: _, 0, _, h => by rw [lset, ← h]; rfl
  | x :: l, g + 1, v, h => by rw [lset, lset_self (tm := l) h]

/-! ## the trace -/
structure Rec where
  tm : List Value
  h : H
  flo : List (Nat × Nat × Blk)
  /-- what the operation ahead came to; none: it was left out -/
  out : Option Value
  blk : Blk

def isAct (all : List Oper) (e : Nat) : Prop := ∃ o, all[e]? = some o ∧ cls o.op = 3
def nact (ef : List Nat) (i : Nat) : Nat := (ef.filter fun e => e < i).length

structure StepR (E : Env) (C : CF) (L : LF) (all : List Oper) (bf : List Nat) (base : Nat) (o : Oper) (i : Nat) (r r' : Rec) : Prop where
  tm : r'.tm = putD r.tm o.dst (r'.out.getD junk)
  none : r'.out = none → r'.h = r.h ∧ r'.flo = r.flo
  c0 : ∀ v, r'.out = some v → cls o.op = 0 → (∀ g, stepV E C L o r.tm g = some (v, g)) ∧ r'.h = r.h ∧ r'.flo = r.flo
  c1 : ∀ v, r'.out = some v → cls o.op = 1 → r'.h = r.h ∧ r'.flo = r.flo
  c2 : ∀ v, r'.out = some v → cls o.op = 2 → floatV E o (base + fnum all i) r.tm = some (v, r'.blk) ∧ r'.h = r.h ∧ r'.flo = r.flo ++ [(i, base + fnum all i, r'.blk)]
  c3 : ∀ v, r'.out = some v → cls o.op = 3 → stepV E C L o r.tm (layF (bf.getD i 0) false r.flo r.h).1 = some (v, r'.h) ∧ r'.flo = (layF (bf.getD i 0) false r.flo r.h).2

/-- between which acts a read may stand -/
def Win (all : List Oper) (bf : List Nat) (i p : Nat) : Prop :=
  (∀ e, isAct all e → (bf.getD i 0).testBit e = true → e < p) ∧ (∀ e, isAct all e → e < p → (bf.getD e 0).testBit i = false)

def GuardR (all : List Oper) (tr : Nat → Rec) (i : Nat) : Option (Nat × Bool) → Prop
  | none => (tr (i + 1)).out.isSome = true
  | some (j, want) => ∃ s, gslot all j = some s ∧ ((∃ b, lget (tr i).tm s = .bool b ∧ ((tr (i + 1)).out.isSome = (b == want))) ∨
      ((tr (i + 1)).out = none ∧ ∃ q oq, q < i ∧ all[q]? = some oq ∧ oq.dst = some s ∧ (tr (q + 1)).out = none))

structure Good (E : Env) (C : CF) (L : LF) (all : List Oper) (bf : List Nat) (base : Nat) (tr : Nat → Rec) (i : Nat) : Prop where
  step : ∀ j o, j < i → all[j]? = some o → StepR E C L all bf base o j (tr j) (tr (j + 1))
  guard : ∀ j o, j < i → all[j]? = some o → GuardR all tr j o.guard
  reads : ∀ j o v, j < i → all[j]? = some o → cls o.op = 1 → (tr (j + 1)).out = some v → ∀ p, p ≤ i → Win all bf j p → stepV E C L o (tr j).tm (tr p).h = some (v, (tr p).h)

def KnT (all : List Oper) (tr : Nat → Rec) (i : Nat) (kn : List (Tmp × Option Bool)) : Prop :=
  ∀ s b, kn.lookup s = some b → match b with
    | some b => lget (tr i).tm s = .bool b
    | none => ∃ q oq, q < i ∧ all[q]? = some oq ∧ oq.dst = some s ∧ (tr (q + 1)).out = none
def HistOK (ef : List Nat) (tr : Nat → Rec) (i : Nat) (hist : List H) : Prop :=
  ∀ p d, p ≤ i → nact ef i ≤ nact ef p + d → (tr p).h = (tr i).h ∨ (tr p).h ∈ hist.take d
def hiOf (bf ef : List Nat) (i : Nat) : Nat := (ef.filter fun e => !(bf.getD e 0).testBit i).length
def AgOK (E : Env) (C : CF) (L : LF) (all : List Oper) (bf ef : List Nat) (tr : Nat → Rec) (i : Nat) (again : List (Nat × (H → Option Bool))) : Prop :=
  ∀ j o v, j < i → all[j]? = some o → cls o.op = 1 → (tr (j + 1)).out = some v → nact ef j < hiOf bf ef j →
    readOk E o = true ∧ (hiOf bf ef j, fun g => stepK E C L o (tr j).tm g fun v' _ => some (veq v v')) ∈ again

theorem mem_effs : ∀ (l : List Oper) (i e : Nat), e ∈ effs l i ↔ i ≤ e ∧ ∃ o, l[e - i]? = some o ∧ cls o.op = 3
  | [], i, e => by simp [effs]
  | o :: l, i, e => by
    have key : (e ∈ effs l (i + 1)) ↔ i + 1 ≤ e ∧ ∃ o, l[e - (i + 1)]? = some o ∧ cls o.op = 3 := mem_effs l (i + 1) e
    have hsucc : i + 1 ≤ e → (o :: l)[e - i]? = l[e - (i + 1)]? := fun h => by
      rw [show e - i = (e - (i + 1)) + 1 by omega, List.getElem?_cons_succ]
    rw [effs]
    split
    · rename_i hc
      rw [List.mem_cons, key]
      constructor
      · rintro (rfl | ⟨h1, h2⟩)
        · exact ⟨Nat.le_refl _, o, by simp, hc⟩
        · exact ⟨by omega, by rw [hsucc h1]; exact h2⟩
      · rintro ⟨h1, h2⟩
        by_cases he : e = i
        · exact .inl he
        · exact .inr ⟨by omega, by rw [← hsucc (by omega)]; exact h2⟩
    · rename_i hc
      rw [key]
      constructor
      · rintro ⟨h1, h2⟩
        exact ⟨by omega, by rw [hsucc h1]; exact h2⟩
      · rintro ⟨h1, o', h2, h3⟩
        by_cases he : e = i
        · subst he; simp at h2; subst h2; exact absurd h3 hc
        · exact ⟨by omega, o', by rw [← hsucc (by omega)]; exact h2, h3⟩
theorem mem_effs0 {all : List Oper} {e : Nat} : e ∈ effs all 0 ↔ isAct all e := by
  rw [mem_effs]; simp [isAct]
theorem effs_sorted : ∀ (l : List Oper) (i : Nat), (effs l i).Pairwise (· < ·)
  | [], i => .nil
  | o :: l, i => by
    rw [effs]
    split
    · refine .cons (fun e he => ?_) (effs_sorted l (i + 1))
      have := ((mem_effs l (i + 1) e).1 he).1
      omega
    · exact effs_sorted l (i + 1)

theorem filter_len_le {α : Type} {p q : α → Bool} : ∀ {l : List α}, (∀ x ∈ l, p x = true → q x = true) → (l.filter p).length ≤ (l.filter q).length
  | [], _ => Nat.le_refl _
  | x :: l, h => by
    have ih := filter_len_le (l := l) fun y hy => h y (by simp [hy])
    have hx := h x (by simp)
    cases hp : p x <;> cases hq : q x <;> simp_all <;> omega

theorem nact_mono {ef : List Nat} {i j : Nat} (h : i ≤ j) : nact ef i ≤ nact ef j := filter_len_le fun x _ hx => by simp at hx ⊢; omega
theorem nact_succ : ∀ {ef : List Nat} {i : Nat}, ef.Pairwise (· < ·) → nact ef (i + 1) = nact ef i + (if i ∈ ef then 1 else 0)
  | [], i, _ => rfl
  | e :: ef, i, h => by
    have ih := nact_succ (ef := ef) (i := i) h.of_cons
    have hlt : ∀ x ∈ ef, e < x := fun x hx => (List.pairwise_cons.1 h).1 x hx
    unfold nact at ih ⊢
    by_cases h1 : e < i
    · have h2 : e < i + 1 := by omega
      have h3 : i ≠ e := by omega
      simp [h1, h2, h3, ih]
      split <;> omega
    · by_cases h2 : e = i
      · subst h2
        have h3 : e ∉ ef := fun hx => by have := hlt e hx; omega
        rw [if_neg h3] at ih
        simp [ih]
      · have h3 : ¬ e < i + 1 := by omega
        have h4 : i ≠ e := by omega
        simp [h1, h3, h4, ih]

theorem cls_le (o : Op) : cls o = 0 ∨ cls o = 1 ∨ cls o = 2 ∨ cls o = 3 := by
  unfold cls
  split <;> first | (simp; done) | (split <;> simp)

/-! ## the trace is drawn -/
def ext (tr : Nat → Rec) (i : Nat) (r : Rec) : Nat → Rec := fun j => if j = i + 1 then r else tr j
theorem ext_new {tr : Nat → Rec} {i : Nat} {r : Rec} : ext tr i r (i + 1) = r := by simp [ext]
theorem ext_old {tr : Nat → Rec} {i j : Nat} {r : Rec} (h : j ≤ i) : ext tr i r j = tr j := by
  unfold ext; rw [if_neg (by omega)]

theorem GuardR.congr {all : List Oper} {tr tr' : Nat → Rec} {i : Nat} {g : Option (Nat × Bool)} (h : ∀ j, j ≤ i + 1 → tr' j = tr j) (x : GuardR all tr i g) : GuardR all tr' i g := by
  cases g with
  | none => simp only [GuardR] at x ⊢; rw [h _ (Nat.le_refl _)]; exact x
  | some jw =>
    obtain ⟨j, want⟩ := jw
    obtain ⟨s, h1, h2⟩ := x
    refine ⟨s, h1, ?_⟩
    rcases h2 with ⟨b, h3, h4⟩ | ⟨h3, q, oq, hq, h5, h6, h7⟩
    · exact .inl ⟨b, by rw [h _ (by omega)]; exact h3, by rw [h _ (Nat.le_refl _)]; exact h4⟩
    · exact .inr ⟨by rw [h _ (Nat.le_refl _)]; exact h3, q, oq, hq, h5, h6, by rw [h _ (by omega)]; exact h7⟩

theorem Good.ext {all : List Oper} {bf : List Nat} {base : Nat} {tr : Nat → Rec} {i : Nat} (hb : ∀ i j, (bf.getD i 0).testBit j = true → j < i) (g : Good E C L all bf base tr i) {o : Oper} (ho : all[i]? = some o) {r : Rec}
    (hs : StepR E C L all bf base o i (tr i) r) (hg : GuardR all (ext tr i r) i o.guard)
    (hr : ∀ v, cls o.op = 1 → r.out = some v → (∀ p, p ≤ i → Win all bf i p → stepV E C L o (tr i).tm (tr p).h = some (v, (tr p).h)))
    (hn : r.h = (tr i).h ∨ ∀ j o v, j < i → all[j]? = some o → cls o.op = 1 → (tr (j + 1)).out = some v → Win all bf j (i + 1) → stepV E C L o (tr j).tm r.h = some (v, r.h)) : Good E C L all bf base (Arm.ext tr i r) (i + 1) := by
  refine ⟨fun j o' hj ho' => ?_, fun j o' hj ho' => ?_, fun j o' v hj ho' hc hout p hp hw => ?_⟩
  · by_cases hji : j = i
    · subst hji
      rw [ho] at ho'; cases ho'
      rw [ext_new, ext_old (Nat.le_refl _)]; exact hs
    · rw [ext_old (by omega), ext_old (by omega)]; exact g.step j o' (by omega) ho'
  · by_cases hji : j = i
    · subst hji
      rw [ho] at ho'; cases ho'
      exact hg
    · exact (g.guard j o' (by omega) ho').congr fun k hk => ext_old (by omega)
  · have hback : ∀ j, j ≤ i → Win all bf j (i + 1) → Win all bf j i := fun j hj h => ⟨fun e he hbt => by have := hb _ _ hbt; omega, fun e he hlt => h.2 e he (by omega)⟩
    by_cases hji : j = i
    · subst hji
      rw [ho] at ho'; cases ho'
      rw [ext_new] at hout
      rw [ext_old (Nat.le_refl _)]
      by_cases hpi : p ≤ j
      · rw [ext_old hpi]; exact hr v hc hout p hpi hw
      · have : p = j + 1 := by omega
        subst this
        rw [ext_new, (hs.c1 v hout hc).1]
        exact hr v hc hout j (Nat.le_refl _) (hback j (Nat.le_refl _) hw)
    · rw [ext_old (by omega)] at hout ⊢
      by_cases hpi : p ≤ i
      · rw [ext_old hpi]; exact g.reads j o' v (by omega) ho' hc hout p hpi hw
      · have : p = i + 1 := by omega
        subst this
        rw [ext_new]
        rcases hn with h1 | h1
        · rw [h1]; exact g.reads j o' v (by omega) ho' hc hout i (Nat.le_refl _) (hback j (by omega) hw)
        · exact h1 j o' v (by omega) ho' hc hout hw

theorem KnT.set {all : List Oper} {tr : Nat → Rec} {i : Nat} {kn : List (Tmp × Option Bool)} (h : KnT all tr i kn) {o : Oper} {r : Rec} {v : Value} (hr : r.tm = putD (tr i).tm o.dst v) : KnT all (ext tr i r) (i + 1) (setKn kn o.dst) := by
  have key : ∀ s b, (o.dst ≠ some s) → kn.lookup s = some b → match b with
    | some b => lget (ext tr i r (i + 1)).tm s = .bool b
    | none => ∃ q oq, q < i + 1 ∧ all[q]? = some oq ∧ oq.dst = some s ∧ (ext tr i r (q + 1)).out = none := by
    intro s b hd hl
    have := h s b hl
    cases b with
    | some b =>
      simp only at this ⊢
      rw [ext_new, hr]
      cases hod : o.dst with
      | none => exact this
      | some d => simp only [putD]; rw [lget_lset, if_neg (fun hh => hd (by rw [hod, hh.1]))]; exact this
    | none =>
      obtain ⟨q, oq, hq, h1, h2, h3⟩ := this
      exact ⟨q, oq, by omega, h1, h2, by rw [ext_old (by omega)]; exact h3⟩
  intro s b hl
  cases hod : o.dst with
  | none => rw [hod] at hl; exact key s b (by rw [hod]; simp) hl
  | some d =>
    rw [hod] at hl
    simp only [setKn, lookup_filter] at hl
    split at hl
    · cases hl
    · rename_i hne
      exact key s b (by rw [hod]; intro e; cases e; exact hne rfl) hl
theorem KnT.off {all : List Oper} {tr : Nat → Rec} {i : Nat} {kn : List (Tmp × Option Bool)} (h : KnT all tr i kn) {o : Oper} (ho : all[i]? = some o) {r : Rec} {v : Value} (hr : r.tm = putD (tr i).tm o.dst v) (hout : r.out = none) : KnT all (ext tr i r) (i + 1) (offKn kn o.dst) := by
  have h1 := h.set (o := o) hr
  cases hod : o.dst with
  | none => rw [hod] at h1; exact h1
  | some d =>
    intro s b hl
    simp only [offKn, List.lookup_cons] at hl
    split at hl
    · rename_i he
      cases hl
      have : s = d := by simpa using he
      subst this
      exact ⟨i, o, by omega, ho, hod, by rw [ext_new]; exact hout⟩
    · rw [hod] at h1; exact h1 s b hl
theorem KnT.know {all : List Oper} {tr : Nat → Rec} {i : Nat} {kn : List (Tmp × Option Bool)} (h : KnT all tr i kn) {g : Tmp} {b : Bool} (hg : lget (tr i).tm g = .bool b) : KnT all tr i ((g, some b) :: kn) := by
  intro s b' hl
  simp only [List.lookup_cons] at hl
  split at hl
  · rename_i he
    cases hl
    have : s = g := by simpa using he
    subst this
    exact hg
  · exact h s b' hl

theorem HistOK.same {ef : List Nat} {tr : Nat → Rec} {i : Nat} {hist : List H} (h : HistOK ef tr i hist) {r : Rec} (hr : r.h = (tr i).h) : HistOK ef (ext tr i r) (i + 1) hist := by
  intro p d hp hd
  rw [ext_new, hr]
  by_cases hpi : p ≤ i
  · rw [ext_old hpi]; exact h p d hpi (Nat.le_trans (nact_mono (Nat.le_succ i)) hd)
  · have : p = i + 1 := by omega
    subst this
    rw [ext_new, hr]; exact .inl rfl
theorem HistOK.act {ef : List Nat} {tr : Nat → Rec} {i : Nat} {hist : List H} (h : HistOK ef tr i hist) (hs : ef.Pairwise (· < ·)) (hi : i ∈ ef) {r : Rec} : HistOK ef (ext tr i r) (i + 1) ((tr i).h :: hist) := by
  intro p d hp hd
  rw [ext_new]
  by_cases hpi : p ≤ i
  · rw [ext_old hpi]
    have h1 := nact_succ (i := i) hs
    rw [if_pos hi] at h1
    have h2 := nact_mono (ef := ef) hpi
    obtain ⟨d, rfl⟩ : ∃ d', d = d' + 1 := ⟨d - 1, by omega⟩
    rw [List.take_succ_cons]
    rcases h p d hpi (by omega) with h3 | h3
    · exact .inr (by rw [h3]; simp)
    · exact .inr (by simp [h3])
  · have : p = i + 1 := by omega
    subst this
    rw [ext_new]; exact .inl rfl

theorem AgOK.ext {all : List Oper} {bf ef : List Nat} {tr : Nat → Rec} {i : Nat} {again again' : List (Nat × (H → Option Bool))} (h : AgOK E C L all bf ef tr i again) {o : Oper} (ho : all[i]? = some o) {r : Rec}
    (hsub : ∀ x ∈ again, x ∈ again') (hnew : ∀ v, cls o.op = 1 → r.out = some v → nact ef i < hiOf bf ef i → readOk E o = true ∧ (hiOf bf ef i, fun g => stepK E C L o (tr i).tm g fun v' _ => some (veq v v')) ∈ again') : AgOK E C L all bf ef (Arm.ext tr i r) (i + 1) again' := by
  intro j o' v hj ho' hc hout hlt
  by_cases hji : j = i
  · subst hji
    rw [ho] at ho'; cases ho'
    rw [ext_new] at hout
    rw [ext_old (Nat.le_refl _)]
    exact hnew v hc hout hlt
  · rw [ext_old (by omega)] at hout ⊢
    obtain ⟨h1, h2⟩ := h j o' v (by omega) ho' hc hout hlt
    exact ⟨h1, hsub _ h2⟩

theorem read_again {o : Oper} {tm : List Value} {g : H} {v : Value} (hc : cls o.op = 1) (hr : readOk E o = true) (e : (stepK E C L o tm g fun v' _ => some (veq v v')) = some true) : stepV E C L o tm g = some (v, g) := by
  rw [stepK_nat] at e
  obtain ⟨⟨v', g'⟩, h1, h2⟩ := Option.bind_eq_some_iff.1 e
  have := veq_true (Option.some.inj h2)
  subst this
  rw [h1, stepV1 hc hr h1]

end Go.Arm
namespace Go.Arm
variable {R : Type} {E : Env} {P : Program} {C : CF} {L : LF}

/-- what stands at an operation -/
structure At (E : Env) (C : CF) (L : LF) (all : List Oper) (bf ef : List Nat) (base : Nat) (tr : Nat → Rec) (i : Nat) (kn : List (Tmp × Option Bool)) (tm : List Value) (h : H) (st : DrawSt) : Prop where
  good : Good E C L all bf base tr i
  kn : KnT all tr i kn
  tm : (tr i).tm = tm
  h : (tr i).h = h
  flo : (tr i).flo = st.flo
  hist : HistOK ef tr i st.hist
  again : AgOK E C L all bf ef tr i st.again

/-- an operation that is left out -/
theorem At.skip {all : List Oper} {bf ef : List Nat} {base : Nat} {tr : Nat → Rec} {i : Nat} {kn : List (Tmp × Option Bool)} {tm : List Value} {h : H} {st : DrawSt} (hb : ∀ i j, (bf.getD i 0).testBit j = true → j < i)
    (a : At E C L all bf ef base tr i kn tm h st) {o : Oper} (ho : all[i]? = some o) (hg : GuardR all (ext tr i ⟨putD tm o.dst junk, h, st.flo, none, .hole⟩) i o.guard) :
    At E C L all bf ef base (ext tr i ⟨putD tm o.dst junk, h, st.flo, none, .hole⟩) (i + 1) (offKn kn o.dst) (putD tm o.dst junk) h st := by
  have hstep : StepR E C L all bf base o i (tr i) ⟨putD tm o.dst junk, h, st.flo, none, .hole⟩ :=
    ⟨by rw [a.tm]; rfl, fun _ => ⟨a.h.symm, a.flo.symm⟩, fun v hv => (by cases hv), fun v hv => (by cases hv), fun v hv => (by cases hv), fun v hv => (by cases hv)⟩
  refine ⟨a.good.ext hb ho hstep hg (fun v _ hv => (by cases hv)) (.inl a.h.symm), a.kn.off ho (by rw [a.tm]) rfl, by rw [ext_new], by rw [ext_new], by rw [ext_new], a.hist.same a.h.symm, a.again.ext ho (fun _ h => h) fun v _ hv => (by cases hv)⟩

theorem draw_text {all : List Oper} {bf ef : List Nat} {base : Nat} (hef : ef = effs all 0) (hb : ∀ i j, (bf.getD i 0).testBit j = true → j < i) : ∀ (rest : List Oper) (i : Nat) (kn : List (Tmp × Option Bool)) (tm : List Value) (h : H) (st : DrawSt) (tr : Nat → Rec) (K : List Value → H → Option R) (res : R), i ≤ all.length →
    (∀ q, rest[q]? = all[i + q]?) → At E C L all bf ef base tr i kn tm h st → drawK E C L all bf ef base rest i kn tm h st K = some res →
    ∃ tr', Good E C L all bf base tr' all.length ∧ (∀ j, j ≤ i → tr' j = tr j) ∧ K (tr' all.length).tm (layF 0 true (tr' all.length).flo (tr' all.length).h).1 = some res := by
  have hs : ef.Pairwise (· < ·) := by rw [hef]; exact effs_sorted _ _
  have hmem : ∀ e, e ∈ ef ↔ isAct all e := fun e => by rw [hef]; exact mem_effs0
  intro rest
  induction rest with
  | nil =>
    intro i kn tm h st tr K res hi hrest a e
    simp only [drawK] at e
    have hi2 : all.length ≤ i := by
      have := hrest 0
      simpa using this
    have : i = all.length := by omega
    subst this
    exact ⟨tr, a.good, fun _ _ => rfl, by rw [a.tm, a.flo, a.h]; exact e⟩
  | cons o rest ih =>
    intro i kn tm h st tr K res hi hrest a e
    have ho : all[i]? = some o := by have := hrest 0; simpa using this.symm
    have hlt : i < all.length := (List.getElem?_eq_some_iff.1 ho).1
    have hrest' : ∀ q, rest[q]? = all[i + 1 + q]? := fun q => by
      have := hrest (q + 1)
      rw [List.getElem?_cons_succ] at this
      rw [this]
      congr 1
      omega
    have fin : ∀ (r : Rec) (kn' : List (Tmp × Option Bool)) (tm' : List Value) (h' : H) (st' : DrawSt), At E C L all bf ef base (ext tr i r) (i + 1) kn' tm' h' st' → drawK E C L all bf ef base rest (i + 1) kn' tm' h' st' K = some res →
        ∃ tr', Good E C L all bf base tr' all.length ∧ (∀ j, j ≤ i → tr' j = tr j) ∧ K (tr' all.length).tm (layF 0 true (tr' all.length).flo (tr' all.length).h).1 = some res := by
      intro r kn' tm' h' st' ha he
      obtain ⟨tr', h1, h2, h3⟩ := ih (i + 1) kn' tm' h' st' _ K res (by omega) hrest' ha he
      exact ⟨tr', h1, fun j hj => by rw [h2 j (by omega), ext_old hj], h3⟩
    have skip : ∀ kn', KnT all tr i kn' → GuardR all (ext tr i ⟨putD tm o.dst junk, h, st.flo, none, .hole⟩) i o.guard → skipK E C L all bf ef base o rest i h st K kn' tm = some res →
        ∃ tr', Good E C L all bf base tr' all.length ∧ (∀ j, j ≤ i → tr' j = tr j) ∧ K (tr' all.length).tm (layF 0 true (tr' all.length).flo (tr' all.length).h).1 = some res := by
      intro kn' hkn hg he
      exact fin _ _ _ _ _ (At.skip hb ⟨a.good, hkn, a.tm, a.h, a.flo, a.hist, a.again⟩ ho hg) he
    have go : ∀ kn', KnT all tr i kn' → (∀ r : Rec, r.out.isSome = true → GuardR all (ext tr i r) i o.guard) → goK E C L all bf ef base o rest i h st K kn' tm = some res →
        ∃ tr', Good E C L all bf base tr' all.length ∧ (∀ j, j ≤ i → tr' j = tr j) ∧ K (tr' all.length).tm (layF 0 true (tr' all.length).flo (tr' all.length).h).1 = some res := by
      intro kn' hkn hg he
      unfold goK at he
      rcases cls_le o.op with h0 | h0 | h0 | h0
      · simp only [h0] at he
        rw [stepK_nat] at he
        obtain ⟨⟨v, h'⟩, hv, he2⟩ := Option.bind_eq_some_iff.1 he
        clear he
        simp only at he2
        obtain ⟨rfl, hall⟩ := stepV0 h0 hv
        have hstep : StepR E C L all bf base o i (tr i) ⟨putD tm o.dst v, h', st.flo, some v, .hole⟩ :=
          ⟨by rw [a.tm]; rfl, fun hn => (by cases hn), fun u hu _ => (by cases hu; rw [a.tm]; exact ⟨hall, a.h.symm, a.flo.symm⟩), fun _ _ hc => absurd hc (by omega), fun _ _ hc => absurd hc (by omega), fun _ _ hc => absurd hc (by omega)⟩
        refine fin ⟨putD tm o.dst v, h', st.flo, some v, .hole⟩ _ _ _ _ ?_ he2
        exact ⟨a.good.ext hb ho hstep (hg _ rfl) (fun v hc => absurd hc (by omega)) (.inl a.h.symm), hkn.set (v := v) (by rw [a.tm]), by rw [ext_new], by rw [ext_new], by rw [ext_new], a.hist.same a.h.symm, a.again.ext ho (fun _ h => h) fun v hc => absurd hc (by omega)⟩
      · simp only [h0] at he
        split at he
        · cases he
        rename_i hro
        have hro : readOk E o = true := by simpa using hro
        rw [stepK_nat] at he
        obtain ⟨⟨v, h'⟩, hv, he2⟩ := Option.bind_eq_some_iff.1 he
        clear he
        simp only at he2
        have hh := stepV1 h0 hro hv
        subst hh
        obtain ⟨hchk, he3⟩ := chkH_some he2
        have hstep : StepR E C L all bf base o i (tr i) ⟨putD tm o.dst v, h', st.flo, some v, .hole⟩ :=
          ⟨by rw [a.tm]; rfl, fun hn => (by cases hn), fun _ _ hc => absurd hc (by omega), fun u hu _ => ⟨a.h.symm, a.flo.symm⟩, fun _ _ hc => absurd hc (by omega), fun _ _ hc => absurd hc (by omega)⟩
        refine fin ⟨putD tm o.dst v, h', st.flo, some v, .hole⟩ _ _ _ _ ?_ he3
        refine ⟨a.good.ext hb ho hstep (hg _ rfl) (fun u _ hu p hp hw => ?_) (.inl a.h.symm), hkn.set (v := v) (by rw [a.tm]), by rw [ext_new], by rw [ext_new], by rw [ext_new], a.hist.same a.h.symm, a.again.ext ho (fun x hx => ?_) fun u hc hu hlt => ⟨hro, ?_⟩⟩
        · cases hu
          rw [a.tm]
          have hlo : (ef.filter fun e => (bf.getD i 0).testBit e).length ≤ nact ef p := filter_len_le fun e he hbt => by
            simpa using hw.1 e ((hmem e).1 he) hbt
          rcases a.hist p (nact ef i - (ef.filter fun e => (bf.getD i 0).testBit e).length) hp (by omega) with h1 | h1
          · rw [h1, a.h]; exact hv
          · exact read_again h0 hro (hchk _ h1)
        · simp only
          split
          · exact List.mem_cons_of_mem _ hx
          · exact hx
        · cases hu
          rw [a.tm]
          simp only
          rw [if_pos (show (ef.filter fun e => e < i).length < (ef.filter fun e => !(bf.getD e 0).testBit i).length from hlt)]
          exact List.mem_cons_self
      · simp only [h0] at he
        rw [floatK_nat] at he
        obtain ⟨⟨v, b⟩, hv, he2⟩ := Option.bind_eq_some_iff.1 he
        clear he
        simp only at he2
        have hstep : StepR E C L all bf base o i (tr i) ⟨putD tm o.dst v, h, st.flo ++ [(i, base + fnum all i, b)], some v, b⟩ :=
          ⟨by rw [a.tm]; rfl, fun hn => (by cases hn), fun _ _ hc => absurd hc (by omega), fun _ _ hc => absurd hc (by omega), fun u hu _ => (by cases hu; rw [a.tm, a.flo]; exact ⟨hv, a.h.symm, rfl⟩), fun _ _ hc => absurd hc (by omega)⟩
        refine fin ⟨putD tm o.dst v, h, st.flo ++ [(i, base + fnum all i, b)], some v, b⟩ _ _ _ _ ?_ he2
        exact ⟨a.good.ext hb ho hstep (hg _ rfl) (fun v hc => absurd hc (by omega)) (.inl a.h.symm), hkn.set (v := v) (by rw [a.tm]), by rw [ext_new], by rw [ext_new], by rw [ext_new], a.hist.same a.h.symm, a.again.ext ho (fun _ h => h) fun v hc => absurd hc (by omega)⟩
      · simp only [h0] at he
        rw [stepK_nat] at he
        obtain ⟨⟨v, h'⟩, hv, he2⟩ := Option.bind_eq_some_iff.1 he
        clear he
        simp only at he2
        obtain ⟨hchk, he3⟩ := chk_some he2
        have hie : i ∈ ef := (hmem i).2 ⟨o, ho, h0⟩
        have hstep : StepR E C L all bf base o i (tr i) ⟨putD tm o.dst v, h', (layF (bf.getD i 0) false st.flo h).2, some v, .hole⟩ :=
          ⟨by rw [a.tm]; rfl, fun hn => (by cases hn), fun _ _ hc => absurd hc (by omega), fun _ _ hc => absurd hc (by omega), fun _ _ hc => absurd hc (by omega), fun u hu _ => (by cases hu; rw [a.tm, a.flo, a.h]; exact ⟨hv, rfl⟩)⟩
        refine fin ⟨putD tm o.dst v, h', (layF (bf.getD i 0) false st.flo h).2, some v, .hole⟩ _ _ _ _ ?_ he3
        refine ⟨a.good.ext hb ho hstep (hg _ rfl) (fun v hc => absurd hc (by omega)) (.inr fun j o' u hj ho' hc hout hw => ?_), hkn.set (v := v) (by rw [a.tm]), by rw [ext_new], by rw [ext_new], by rw [ext_new], by rw [← a.h]; exact a.hist.act hs hie, a.again.ext ho (fun _ h => h) fun v hc => absurd hc (by omega)⟩
        have hn1 := nact_succ (i := i) hs
        rw [if_pos hie] at hn1
        have hle : nact ef (i + 1) ≤ hiOf bf ef j := filter_len_le fun e he hlt => by
          have := hw.2 e ((hmem e).1 he) (by simpa using hlt)
          rw [this]; rfl
        have hmono := nact_mono (ef := ef) (show j ≤ i by omega)
        obtain ⟨hro, hin⟩ := a.again j o' u hj ho' hc hout (by omega)
        exact read_again hc hro (hchk _ hin (by show (ef.filter fun e => e < i).length + 1 ≤ _; show nact ef i + 1 ≤ _; omega))
    rw [drawK_cons] at e
    cases hgd : o.guard with
    | none =>
      simp only [hgd] at e
      refine go kn a.kn (fun r hr => ?_) e
      rw [hgd]
      show (ext tr i r (i + 1)).out.isSome = true
      rw [ext_new]; exact hr
    | some jw =>
      obtain ⟨j, want⟩ := jw
      simp only [hgd] at e
      cases hgs : gslot all j with
      | none => simp only [hgs] at e; cases e
      | some g =>
        simp only [hgs] at e
        have gB : ∀ b, lget tm g = .bool b → ∀ r : Rec, r.out.isSome = (b == want) → GuardR all (ext tr i r) i o.guard := by
          intro b hb' r hr
          rw [hgd]
          exact ⟨g, hgs, .inl ⟨b, by rw [ext_old (Nat.le_refl _), a.tm]; exact hb', by rw [ext_new]; exact hr⟩⟩
        cases hkg : kn.lookup g with
        | some q =>
          cases q with
          | some b =>
            have hb' := a.kn g _ hkg
            simp only at hb'
            rw [a.tm] at hb'
            simp only [hkg] at e
            split at e
            · rename_i hbw
              exact go kn a.kn (fun r hr => gB b hb' r (by rw [hr, hbw])) e
            · rename_i hbw
              exact skip kn a.kn (gB b hb' _ (by simp at hbw ⊢; exact hbw)) e
          | none =>
            have hb' := a.kn g _ hkg
            simp only [hkg] at e
            refine skip kn a.kn ?_ e
            rw [hgd]
            obtain ⟨q, oq, hq, h1, h2, h3⟩ := hb'
            exact ⟨g, hgs, .inr ⟨by rw [ext_new], q, oq, hq, h1, h2, by rw [ext_old (by omega)]; exact h3⟩⟩
        | none =>
          simp only [hkg] at e
          split at e
          · rename_i b hgb
            have hk : KnT all tr i ((g, some b) :: kn) := a.kn.know (by rw [a.tm]; exact hgb)
            cases b with
            | true =>
              simp only [cond_true, lset_self hgb] at e
              split at e
              · rename_i hw
                exact go _ hk (fun r hr => gB true hgb r (by rw [hr, hw]; rfl)) e
              · rename_i hw
                exact skip _ hk (gB true hgb _ (by simp at hw; rw [hw]; rfl)) e
            | false =>
              simp only [cond_false, lset_self hgb] at e
              split at e
              · rename_i hw
                exact skip _ hk (gB false hgb _ (by rw [hw]; rfl)) e
              · rename_i hw
                exact go _ hk (fun r hr => gB false hgb r (by simp at hw; rw [hr, hw]; rfl)) e
          · cases e

end Go.Arm
namespace Go.Arm
variable {R : Type} {E : Env} {P : Program} {C : CF} {L : LF}

/-! ## masks -/
theorem foldl_bit_mono (acc : List Nat) (j : Nat) : ∀ (es : List Edge) (s0 : Nat), s0.testBit j = true → (es.foldl (fun s e => match e.ground with
    | .textOnly _ => s
    | .gcOnly _ => s
    | _ => s ||| 2 ^ e.on ||| acc.getD e.on 0) s0).testBit j = true
  | [], s0, h => h
  | e :: es, s0, h => by
    rw [List.foldl_cons]
    refine foldl_bit_mono acc j es _ ?_
    split
    · exact h
    · exact h
    · simp [Nat.testBit_or, h]
theorem foldl_bit_edge (acc : List Nat) : ∀ (es : List Edge) (s0 : Nat) (e : Edge), e ∈ es → Region.binds .any e = true → (es.foldl (fun s e => match e.ground with
    | .textOnly _ => s
    | .gcOnly _ => s
    | _ => s ||| 2 ^ e.on ||| acc.getD e.on 0) s0).testBit e.on = true
  | [], s0, e, h, _ => by cases h
  | e' :: es, s0, e, h, hb => by
    rw [List.foldl_cons]
    rcases List.mem_cons.1 h with rfl | h
    · refine foldl_bit_mono acc _ es _ ?_
      cases hg : e.ground with
      | textOnly q => simp [Region.binds, hg] at hb
      | gcOnly q => simp [Region.binds, hg] at hb
      | _ => simp [Nat.testBit_or]
    · exact foldl_bit_edge acc es _ e h hb
theorem mask_edge {all : List Oper} {i : Nat} {o : Oper} (h : all[i]? = some o) {e : Edge} (he : e ∈ o.after) (hb : Region.binds .any e = true) : ((befs all).getD i 0).testBit e.on = true := by
  rw [befs_at h]
  exact foldl_bit_edge _ _ _ e (Array.mem_toList_iff.2 he) hb

theorem tmpsOk_spec (bf : List Nat) : ∀ (l prev : List Oper) (j : Nat), tmpsOk l bf prev j = true → prev.length = j → ∀ i o, l[i]? = some o → bf.getD (j + i) 0 < 2 ^ (j + i) ∧ ∀ q p, q < j + i → (prev ++ l)[q]? = some p → clash o p = true → (bf.getD (j + i) 0).testBit q = true
  | [], prev, j, h, hl, i, o, ho => by simp at ho
  | o' :: l, prev, j, h, hl, i, o, ho => by
    simp only [tmpsOk, Bool.and_eq_true, decide_eq_true_eq] at h
    obtain ⟨⟨h1, h2⟩, h3⟩ := h
    cases i with
    | zero =>
      simp at ho
      subst ho
      refine ⟨h1, fun q p hq hp hc => ?_⟩
      rw [List.getElem?_append_left (by omega)] at hp
      have := List.all_eq_true.1 h2 (p, q) (by rw [List.mem_zipIdx_iff_getElem?]; exact hp)
      simp only [Bool.or_eq_true, Bool.not_eq_true'] at this
      rcases this with h4 | h4
      · exact h4
      · rw [hc] at h4; cases h4
    | succ i =>
      have := tmpsOk_spec bf l (prev ++ [o']) (j + 1) h3 (by simp [hl]) i o (by simpa using ho)
      rw [show j + (i + 1) = j + 1 + i by omega]
      refine ⟨this.1, fun q p hq hp hc => this.2 q p hq ?_ hc⟩
      rw [List.append_assoc]
      exact hp

theorem filter_one {α : Type} (f : α → Bool) : ∀ (l : List α) (p q : Nat) (x y : α), (l.filter f).length ≤ 1 → l[p]? = some x → l[q]? = some y → f x = true → f y = true → p = q
  | [], p, q, x, y, _, hp, _, _, _ => by simp at hp
  | a :: l, p, q, x, y, h, hp, hq, hx, hy => by
    have nomem : f a = true → ∀ z, z ∈ l → f z = true → False := fun ha z hz hfz => by
      have h1 : z ∈ l.filter f := List.mem_filter.2 ⟨hz, hfz⟩
      have h2 : 0 < (l.filter f).length := List.length_pos_of_mem h1
      rw [List.filter_cons_of_pos ha, List.length_cons] at h
      omega
    cases p with
    | zero =>
      cases q with
      | zero => rfl
      | succ q =>
        simp at hp hq
        subst hp
        exact (nomem hx y (List.mem_of_getElem? hq) hy).elim
    | succ p =>
      cases q with
      | zero =>
        simp at hp hq
        subst hq
        exact (nomem hy x (List.mem_of_getElem? hp) hx).elim
      | succ q =>
        simp at hp hq
        have h1 : (l.filter f).length ≤ 1 := by
          by_cases ha : f a = true
          · rw [List.filter_cons_of_pos ha, List.length_cons] at h; omega
          · rw [List.filter_cons_of_neg ha] at h; exact h
        rw [filter_one f l p q x y h1 hp hq hx hy]

theorem guardsOk_spec (all : List Oper) (bf : List Nat) : ∀ (l : List Oper) (j : Nat), guardsOk all bf l j = true → ∀ i o g w, l[i]? = some o → o.guard = some (g, w) →
    (bf.getD (j + i) 0).testBit g = true ∧ ∃ s, gslot all g = some s ∧ (all.filter fun p => p.dst == some s).length = 1
  | [], j, h, i, o, g, w, ho, hg => by simp at ho
  | o' :: l, j, h, i, o, g, w, ho, hg => by
    simp only [guardsOk, Bool.and_eq_true] at h
    cases i with
    | zero =>
      simp at ho
      subst ho
      have h1 := h.1
      simp only [hg, Bool.and_eq_true] at h1
      refine ⟨h1.1, ?_⟩
      have h2 := h1.2
      split at h2
      · rename_i s hs; exact ⟨s, hs, by simpa using h2⟩
      · cases h2
    | succ i =>
      have := guardsOk_spec all bf l (j + 1) h.2 i o g w (by simpa using ho) hg
      rwa [show j + 1 + i = j + (i + 1) by omega] at this

/-- what is checked of a region -/
structure DrawC (all : List Oper) (bf : List Nat) : Prop where
  bits : ∀ i j, (bf.getD i 0).testBit j = true → j < i
  clash : ∀ i o q p, all[i]? = some o → q < i → all[q]? = some p → clash o p = true → (bf.getD i 0).testBit q = true
  guard : ∀ i o g w, all[i]? = some o → o.guard = some (g, w) → (bf.getD i 0).testBit g = true ∧ ∃ s, gslot all g = some s ∧ ∀ (p q : Nat) (x y : Oper), all[p]? = some x → all[q]? = some y → x.dst = some s → y.dst = some s → p = q
  chain : ∀ D : Nat → Prop, (∀ i, D i → ∀ j, (bf.getD i 0).testBit j = true → D j) → ∀ e, isAct all e → D e → ∀ e', isAct all e' → e' < e → D e'
  edge : ∀ i o, all[i]? = some o → ∀ e ∈ o.after, Region.binds .any e = true → (bf.getD i 0).testBit e.on = true

theorem chain_spec {bf : List Nat} {D : Nat → Prop} (hD : ∀ i, D i → ∀ j, (bf.getD i 0).testBit j = true → D j) : ∀ (l : List Nat), chain bf l = true → l.Pairwise (· < ·) → ∀ e ∈ l, D e → ∀ e' ∈ l, e' < e → D e'
  | [], _, _, e, he, _, _, _, _ => by cases he
  | [a], _, _, e, he, _, e', he', hlt => by simp at he he'; omega
  | a :: b :: r, hc, hp, e, he, hDe, e', he', hlt => by
    simp only [chain, Bool.and_eq_true] at hc
    have hpa := List.pairwise_cons.1 hp
    have ih := chain_spec hD (b :: r) hc.2 hpa.2
    have hDb : D b → D a := fun h => hD b h a hc.1
    rcases List.mem_cons.1 he with rfl | he
    · rcases List.mem_cons.1 he' with rfl | he'
      · omega
      · have := hpa.1 e' he'; omega
    · have hb : D b := by
        rcases List.mem_cons.1 he with rfl | her
        · exact hDe
        · exact ih e he hDe b (by simp) ((List.pairwise_cons.1 hpa.2).1 e her)
      rcases List.mem_cons.1 he' with rfl | he'
      · exact hDb hb
      · exact ih e he hDe e' he' hlt

theorem drawOk_spec {all : List Oper} (h : drawOk all = true) : DrawC all (befs all) := by
  unfold drawOk at h
  simp only [Bool.and_eq_true] at h
  obtain ⟨⟨h1, h2⟩, h3⟩ := h
  refine ⟨fun i j hj => ?_, fun i o q p ho hq hp hc => ?_, fun i o g w ho hg => ?_, fun D hD e he hDe e' he' hlt => ?_, fun i o ho e he hb => mask_edge ho he hb⟩
  · cases ho : all[i]? with
    | none =>
      have : (befs all).length = all.length := by unfold befs; rw [befsGo_length]; simp
      rw [List.getD_eq_getElem?_getD, List.getElem?_eq_none (by rw [this]; exact List.getElem?_eq_none_iff.1 ho)] at hj
      simp at hj
    | some o =>
      have := (tmpsOk_spec _ all [] 0 h2 rfl i o ho).1
      rw [Nat.zero_add] at this
      rcases Nat.lt_or_ge j i with h4 | h4
      · exact h4
      · have h5 : (befs all).getD i 0 < 2 ^ j := Nat.lt_of_lt_of_le this (Nat.pow_le_pow_right (by omega) h4)
        rw [Nat.testBit_lt_two_pow h5] at hj
        cases hj
  · have := (tmpsOk_spec _ all [] 0 h2 rfl i o ho).2 q p (by omega) (by simpa using hp) hc
    rwa [Nat.zero_add] at this
  · obtain ⟨h4, s, h5, h6⟩ := guardsOk_spec all _ all 0 h3 i o g w ho hg
    rw [Nat.zero_add] at h4
    exact ⟨h4, s, h5, fun p q x y hp hq hx hy => filter_one _ all p q x y (by rw [h6]; exact Nat.le_refl _) hp hq (by simp [hx]) (by simp [hy])⟩
  · exact chain_spec hD _ h1 (effs_sorted _ _) e (mem_effs0.2 he) hDe e' (mem_effs0.2 he') hlt

/-! ## slots -/
def slotsF (all : List Oper) (tr : Nat → Rec) (D : Nat → Bool) : Nat → List Value
  | 0 => (tr 0).tm
  | i + 1 => match all[i]? with
    | some o => if D i then putD (slotsF all tr D i) o.dst ((tr (i + 1)).out.getD junk) else slotsF all tr D i
    | none => slotsF all tr D i

theorem slotsF_length {all : List Oper} {tr : Nat → Rec} {D : Nat → Bool} : ∀ i, (slotsF all tr D i).length = (tr 0).tm.length
  | 0 => rfl
  | i + 1 => by
    have ih := slotsF_length (all := all) (tr := tr) (D := D) i
    unfold slotsF
    split
    · split
      · rw [length_putD]; exact ih
      · exact ih
    · exact ih

theorem Good.length {all : List Oper} {bf : List Nat} {base : Nat} {tr : Nat → Rec} {n : Nat} (g : Good E C L all bf base tr n) (hn : n ≤ all.length) : ∀ i, i ≤ n → (tr i).tm.length = (tr 0).tm.length
  | 0, _ => rfl
  | i + 1, hi => by
    have ho : all[i]? = some all[i] := List.getElem?_eq_getElem (by omega)
    rw [(g.step i _ (by omega) ho).tm, length_putD]
    exact g.length hn i (by omega)

theorem lget_putD {tm : List Value} {d : Option Tmp} {v : Value} {t : Nat} : lget (putD tm d v) t = if d = some t ∧ t < tm.length then v else lget tm t := by
  cases d with
  | none => simp [putD]
  | some d =>
    simp only [putD]
    rw [lget_lset]
    by_cases h : t = d
    · subst h; simp
    · have : ¬ d = t := fun e => h e.symm
      simp [h, this]

theorem slots_text {all : List Oper} {bf : List Nat} {base : Nat} {tr : Nat → Rec} (g : Good E C L all bf base tr all.length) {D : Nat → Bool} {t : Nat} : ∀ i, i ≤ all.length → (∀ j o, j < i → all[j]? = some o → o.dst = some t → D j = true) → lget (slotsF all tr D i) t = lget (tr i).tm t
  | 0, _, _ => rfl
  | i + 1, hi, h => by
    have ho : all[i]? = some all[i] := List.getElem?_eq_getElem (by omega)
    have ih := slots_text g i (by omega) fun j o hj => h j o (by omega)
    rw [(g.step i _ (by omega) ho).tm]
    unfold slotsF
    simp only [ho]
    have hl := g.length (Nat.le_refl _) i (by omega)
    have hl2 := slotsF_length (all := all) (tr := tr) (D := D) i
    by_cases hd : all[i].dst = some t
    · rw [h i _ (by omega) ho hd]
      simp only [if_true]
      rw [lget_putD, lget_putD, hl, hl2, ih]
    · have hr : lget (putD (tr i).tm all[i].dst ((tr (i + 1)).out.getD junk)) t = lget (tr i).tm t := by rw [lget_putD]; exact if_neg (fun hh => hd hh.1)
      rw [hr, ← ih]
      split
      · rw [lget_putD, if_neg (fun hh => hd hh.1)]
      · rfl

theorem slots_tail {all : List Oper} {tr : Nat → Rec} {D : Nat → Bool} {t i : Nat} : ∀ m, (∀ j o, i ≤ j → j < i + m → all[j]? = some o → o.dst = some t → D j = false) → lget (slotsF all tr D (i + m)) t = lget (slotsF all tr D i) t
  | 0, _ => rfl
  | m + 1, h => by
    have ih := slots_tail (all := all) (tr := tr) (D := D) (t := t) (i := i) m fun j o h1 h2 => h j o h1 (by omega)
    rw [← ih, ← Nat.add_assoc]
    conv => lhs; unfold slotsF
    split
    · rename_i o ho
      split
      · rename_i hD
        rw [lget_putD, if_neg]
        rintro ⟨hd, _⟩
        rw [h (i + m) o (by omega) (by omega) ho hd] at hD
        cases hD
      · rfl
    · rfl

theorem slots_add {all : List Oper} {tr : Nat → Rec} {D D' : Nat → Bool} {i : Nat} {o : Oper} (ho : all[i]? = some o) (hD : D i = false) (hD' : ∀ j, D' j = (D j || j == i))
    (hlate : ∀ j q t, i < j → all[j]? = some q → q.dst = some t → o.dst = some t → D j = false) (t : Nat) : lget (slotsF all tr D' all.length) t = lget (putD (slotsF all tr D all.length) o.dst ((tr (i + 1)).out.getD junk)) t := by
  have hil : i < all.length := (List.getElem?_eq_some_iff.1 ho).1
  have same : ∀ m, m ≤ i → slotsF all tr D' m = slotsF all tr D m := by
    intro m
    induction m with
    | zero => intro _; rfl
    | succ m ih =>
      intro hm
      unfold slotsF
      rw [ih (by omega), hD' m]
      have : (m == i) = false := by simp; omega
      simp [this]
  rw [lget_putD]
  by_cases hd : o.dst = some t
  · have h1 := slots_tail (all := all) (tr := tr) (D := D') (t := t) (i := i + 1) (all.length - (i + 1)) fun j q h1 h2 hq hqt => by
      rw [hD' j, hlate j q t (by omega) hq hqt hd]
      have : (j == i) = false := by simp; omega
      simp [this]
    rw [show i + 1 + (all.length - (i + 1)) = all.length by omega] at h1
    rw [h1]
    have h2 : slotsF all tr D' (i + 1) = putD (slotsF all tr D i) o.dst ((tr (i + 1)).out.getD junk) := by
      conv => lhs; unfold slotsF
      simp only [ho, hD' i, same i (Nat.le_refl _)]
      simp
    rw [h2, lget_putD, slotsF_length, slotsF_length]
    split
    · rfl
    · rename_i hn
      have hge : (tr 0).tm.length ≤ t := by
        rcases Nat.lt_or_ge t (tr 0).tm.length with h3 | h3
        · exact absurd ⟨hd, h3⟩ hn
        · exact h3
      rw [lget_ge _ _ (by rw [slotsF_length]; exact hge), lget_ge _ _ (by rw [slotsF_length]; exact hge)]
  · rw [if_neg (fun hh => hd hh.1)]
    have key : ∀ m, lget (slotsF all tr D' m) t = lget (slotsF all tr D m) t := by
      intro m
      induction m with
      | zero => rfl
      | succ m ih =>
        unfold slotsF
        cases hm : all[m]? with
        | none => exact ih
        | some q =>
          simp only
          by_cases hmi : m = i
          · subst hmi
            rw [ho] at hm; cases hm
            rw [hD' m, hD]
            simp only [Bool.false_or, beq_self_eq_true, if_true, Bool.false_eq_true, if_false]
            rw [lget_putD, if_neg (fun hh => hd hh.1)]
            exact ih
          · have : (m == i) = false := by simp; exact hmi
            rw [hD' m, this, Bool.or_false]
            split
            · rw [lget_putD, lget_putD, ih, slotsF_length, slotsF_length]
            · exact ih
    exact key _

end Go.Arm
namespace Go.Arm
variable {R : Type} {E : Env} {P : Program} {C : CF} {L : LF}

def isFlo (all : List Oper) (j : Nat) : Prop := ∃ o, all[j]? = some o ∧ cls o.op = 2

theorem fnum_succ {all : List Oper} {i : Nat} {o : Oper} (ho : all[i]? = some o) : fnum all (i + 1) = fnum all i + (if cls o.op = 2 then 1 else 0) := by
  unfold fnum
  rw [List.take_add_one, ho]
  simp only [Option.toList, List.filter_append, List.length_append]
  congr 1
  by_cases h : cls o.op = 2 <;> simp [h]
theorem fnum_mono {all : List Oper} {i j : Nat} (h : i ≤ j) : fnum all i ≤ fnum all j := by
  unfold fnum
  exact List.Sublist.length_le (List.Sublist.filter _ (List.take_sublist_take_left h))
theorem fnum_lt {all : List Oper} {i j : Nat} (hi : isFlo all i) (h : i < j) : fnum all i < fnum all j := by
  obtain ⟨o, ho, hc⟩ := hi
  have h1 := fnum_succ ho
  rw [if_pos hc] at h1
  have h2 := fnum_mono (all := all) (show i + 1 ≤ j from h)
  omega
theorem fnum_inj {all : List Oper} {i j : Nat} (hi : isFlo all i) (hj : isFlo all j) (h : fnum all i = fnum all j) : i = j := by
  rcases Nat.lt_trichotomy i j with h1 | h1 | h1
  · have := fnum_lt hi h1; omega
  · exact h1
  · have := fnum_lt hj h1; omega
theorem isFlo_lt {all : List Oper} {j : Nat} (h : isFlo all j) : j < all.length := (List.getElem?_eq_some_iff.1 h.choose_spec.1).1

theorem layF_snd (m : Nat) : ∀ (l : List (Nat × Nat × Blk)) (h : H), (layF m false l h).2 = l.filter fun x => !m.testBit x.1
  | [], h => rfl
  | (i, id, b) :: l, h => by
    unfold layF
    cases hm : m.testBit i
    · simp only [Bool.false_or, Bool.false_eq_true, if_false]
      rw [List.filter_cons_of_pos (by simp [hm]), layF_snd m l h]
    · simp only [Bool.or_true, if_true]
      rw [List.filter_cons_of_neg (by simp [hm]), layF_snd m l _]

theorem Good.flo_mem {all : List Oper} {bf : List Nat} {base : Nat} {tr : Nat → Rec} (g : Good E C L all bf base tr all.length) (hb : ∀ i j, (bf.getD i 0).testBit j = true → j < i) (h0 : (tr 0).flo = []) : ∀ i, i ≤ all.length → ∀ x, x ∈ (tr i).flo ↔
    ∃ j, j < i ∧ isFlo all j ∧ (tr (j + 1)).out.isSome = true ∧ (∀ e, isAct all e → e < i → (tr (e + 1)).out.isSome = true → (bf.getD e 0).testBit j = false) ∧ x = (j, base + fnum all j, (tr (j + 1)).blk)
  | 0, _, x => by rw [h0]; simp
  | i + 1, hi, x => by
    have ho : all[i]? = some all[i] := List.getElem?_eq_getElem (by omega)
    have hs := g.step i _ (by omega) ho
    have ih := g.flo_mem hb h0 i (by omega) x
    -- where neither a float nor an act is done at i
    have same : (tr (i + 1)).flo = (tr i).flo → ¬ ((tr (i + 1)).out.isSome = true ∧ (cls all[i].op = 2 ∨ cls all[i].op = 3)) → (x ∈ (tr (i + 1)).flo ↔
      ∃ j, j < i + 1 ∧ isFlo all j ∧ (tr (j + 1)).out.isSome = true ∧ (∀ e, isAct all e → e < i + 1 → (tr (e + 1)).out.isSome = true → (bf.getD e 0).testBit j = false) ∧ x = (j, base + fnum all j, (tr (j + 1)).blk)) := by
      intro he hn
      rw [he, ih]
      constructor
      · rintro ⟨j, h1, h2, h3, h4, h5⟩
        refine ⟨j, by omega, h2, h3, fun e hae hlt hout => ?_, h5⟩
        by_cases hei : e = i
        · subst hei
          obtain ⟨o, ho', hc⟩ := hae
          rw [ho] at ho'; cases ho'
          exact absurd ⟨hout, .inr hc⟩ hn
        · exact h4 e hae (by omega) hout
      · rintro ⟨j, h1, h2, h3, h4, h5⟩
        have hji : j ≠ i := fun hji => by
          subst hji
          obtain ⟨o, ho', hc⟩ := h2
          rw [ho] at ho'; cases ho'
          exact hn ⟨h3, .inl hc⟩
        exact ⟨j, by omega, h2, h3, fun e hae hlt hout => h4 e hae (by omega) hout, h5⟩
    cases hout : (tr (i + 1)).out with
    | none => exact same (hs.none hout).2 (by simp [hout])
    | some v =>
      rcases cls_le all[i].op with h | h | h | h
      · exact same (hs.c0 v hout h).2.2 (by omega)
      · exact same (hs.c1 v hout h).2 (by omega)
      · obtain ⟨_, _, hf⟩ := hs.c2 v hout h
        rw [hf, List.mem_append, ih, List.mem_singleton]
        constructor
        · rintro (⟨j, h1, h2, h3, h4, h5⟩ | h5)
          · refine ⟨j, by omega, h2, h3, fun e hae hlt hout => h4 e hae ?_ hout, h5⟩
            by_cases hei : e = i
            · subst hei
              obtain ⟨o, ho', hc⟩ := hae
              rw [ho] at ho'; cases ho'
              omega
            · omega
          · refine ⟨i, by omega, ⟨_, ho, h⟩, by simp [hout], fun e hae hlt hout => ?_, h5⟩
            cases hbt : (bf.getD e 0).testBit i with
            | false => rfl
            | true => have := hb _ _ hbt; omega
        · rintro ⟨j, h1, h2, h3, h4, h5⟩
          by_cases hji : j = i
          · subst hji; exact .inr h5
          · exact .inl ⟨j, by omega, h2, h3, fun e hae hlt hout => h4 e hae (by omega) hout, h5⟩
      · obtain ⟨_, hf⟩ := hs.c3 v hout h
        rw [hf, layF_snd, List.mem_filter, ih]
        constructor
        · rintro ⟨⟨j, h1, h2, h3, h4, h5⟩, h6⟩
          refine ⟨j, by omega, h2, h3, fun e hae hlt hout => ?_, h5⟩
          by_cases hei : e = i
          · subst hei; rw [h5] at h6; simpa using h6
          · exact h4 e hae (by omega) hout
        · rintro ⟨j, h1, h2, h3, h4, h5⟩
          have hji : j ≠ i := fun hji => by
            subst hji
            obtain ⟨o, ho', hc⟩ := h2
            rw [ho] at ho'; cases ho'
            omega
          refine ⟨⟨j, by omega, h2, h3, fun e hae hlt hout => h4 e hae (by omega) hout, h5⟩, ?_⟩
          have := h4 i ⟨_, ho, h⟩ (by omega) (by simp [hout])
          rw [h5]
          simpa using this

theorem Good.flo_apart {all : List Oper} {bf : List Nat} {base : Nat} {tr : Nat → Rec} (g : Good E C L all bf base tr all.length) (hb : ∀ i j, (bf.getD i 0).testBit j = true → j < i) (h0 : (tr 0).flo = []) : ∀ i, i ≤ all.length → (tr i).flo.Pairwise fun x y => x.2.1 ≠ y.2.1
  | 0, _ => by rw [h0]; exact .nil
  | i + 1, hi => by
    have ho : all[i]? = some all[i] := List.getElem?_eq_getElem (by omega)
    have hs := g.step i _ (by omega) ho
    have ih := g.flo_apart hb h0 i (by omega)
    cases hout : (tr (i + 1)).out with
    | none => rw [(hs.none hout).2]; exact ih
    | some v =>
      rcases cls_le all[i].op with h | h | h | h
      · rw [(hs.c0 v hout h).2.2]; exact ih
      · rw [(hs.c1 v hout h).2]; exact ih
      · rw [(hs.c2 v hout h).2.2, List.pairwise_append]
        refine ⟨ih, List.pairwise_singleton _ _, fun x hx y hy => ?_⟩
        obtain ⟨j, h1, h2, _, _, h5⟩ := (g.flo_mem hb h0 i (by omega) x).1 hx
        rw [List.mem_singleton.1 hy, h5]
        have := fnum_lt h2 h1
        simp only
        omega
      · rw [(hs.c3 v hout h).2, layF_snd]
        exact ih.filter _

theorem Good.same_h {all : List Oper} {bf : List Nat} {base : Nat} {tr : Nat → Rec} (g : Good E C L all bf base tr all.length) {p : Nat} : ∀ m, p + m ≤ all.length → (∀ e, isAct all e → p ≤ e → ¬ e < p + m) → (tr (p + m)).h = (tr p).h
  | 0, _, _ => rfl
  | m + 1, hi, h => by
    have ho : all[p + m]? = some all[p + m] := List.getElem?_eq_getElem (by omega)
    have hs := g.step (p + m) _ (by omega) ho
    rw [← g.same_h m (by omega) fun e he h1 h2 => h e he h1 (by omega)]
    show (tr (p + m + 1)).h = _
    cases hout : (tr (p + m + 1)).out with
    | none => exact (hs.none hout).1
    | some v =>
      rcases cls_le all[p + m].op with h' | h' | h' | h'
      · exact (hs.c0 v hout h').2.1
      · exact (hs.c1 v hout h').1
      · exact (hs.c2 v hout h').2.1
      · exact absurd (by omega) (h (p + m) ⟨_, ho, h'⟩ (by omega))

/-! ## memory that is cut -/
/-- memory without the blocks of some numbers, which are held; other numbers are set aside -/
def cutX (S : Sc) (β : Beta) (F N : Nat → Prop) : Sc := ⟨fun k => S k ∧ ∀ f x, F f → β f = some x → x.blk ≠ k, fun b => S.held b ∨ F b, fun b => S.hol b ∨ N b⟩

theorem Fr.weaken {S S' : Sc} {w w' : World} (h : Fr S w w') (hs : ∀ k, S k → S' k) : Fr S' w w' :=
  ⟨h.os, h.tape, h.output, h.size, fun k hk => h.keep k fun h1 => hk (hs k h1)⟩

theorem layF_rh {m : Nat} {all : Bool} {β : Beta} {S : Sc} {w : World} {N : Nat → Prop} : ∀ (l : List (Nat × Nat × Blk)) (G : H) (F : Nat → Prop), RH E β G (cutX S β F N) w → (∀ f, F f → ¬ S.held f) → l.Pairwise (fun x y => x.2.1 ≠ y.2.1) →
    (∀ x ∈ l, (all || m.testBit x.1) = true → F x.2.1 ∧ ∃ be, β x.2.1 = some be ∧ BlkOK E β S w be x.2.2 ∧ x.2.2 ≠ .hole) →
    RH E β (layF m all l G).1 (cutX S β (fun f => F f ∧ ¬ ∃ x ∈ l, (all || m.testBit x.1) = true ∧ x.2.1 = f) N) w
  | [], G, F, r, _, _, _ => r.sub (fun b hb => ⟨hb.1, fun f x hf => hb.2 f x hf.1⟩) (fun b hb => hb.elim .inl fun h => .inr h.1) (fun b hb => hb)
  | (i, id, b) :: l, G, F, r, hF, hp, hl => by
    have hpa := List.pairwise_cons.1 hp
    unfold layF
    by_cases hm : (all || m.testBit i) = true
    · rw [if_pos hm]
      obtain ⟨h1, be, h2, h3, h4⟩ := hl (i, id, b) (by simp) hm
      simp only at h1 h2 h3
      have r2 : RH E β (G.put id (some b)) (cutX S β (fun f => F f ∧ f ≠ id) N) w := by
        refine r.fill h2 (.inr h1) (fun k hk => ⟨hk.1, fun f x hf => hk.2 f x hf.1⟩) (fun k hk => ?_) (fun k hk => hk) (h3.less fun _ hs => ⟨hs, fun f x hf hx => ?_⟩) h4
        · rcases hk with hk | hk
          · exact ⟨.inl hk, fun e => hF id h1 (by rw [← e]; exact hk)⟩
          · exact ⟨.inr hk.1, hk.2⟩
        · have e1 := r.held f (.inr hf.1)
          have e2 := r.held id (.inr h1)
          exact r.disj f id _ _ x be e1 e2 hf.2 rfl hx h2
      have ih := layF_rh (m := m) (all := all) l _ _ r2 (fun f hf => hF f hf.1) hpa.2 fun x hx hsel => by
        obtain ⟨h5, h6⟩ := hl x (by simp [hx]) hsel
        exact ⟨⟨h5, (hpa.1 x hx).symm⟩, h6⟩
      refine ih.sub (fun k hk => ⟨hk.1, fun f x hf hx => hk.2 f x ⟨⟨hf.1, fun e => hf.2 ⟨_, List.mem_cons_self, hm, e.symm⟩⟩, fun ⟨y, hy, hh⟩ => hf.2 ⟨y, List.mem_cons_of_mem _ hy, hh⟩⟩ hx⟩) (fun k hk => ?_) (fun k hk => hk)
      rcases hk with hk | hk
      · exact .inl hk
      · exact .inr ⟨⟨hk.1, fun e => hk.2 ⟨_, List.mem_cons_self, hm, e.symm⟩⟩, fun ⟨y, hy, hh⟩ => hk.2 ⟨y, List.mem_cons_of_mem _ hy, hh⟩⟩
    · rw [if_neg hm]
      have ih := layF_rh (m := m) (all := all) l _ _ r hF hpa.2 fun x hx => hl x (by simp [hx])
      refine ih.sub (fun k hk => ⟨hk.1, fun f x hf hx => hk.2 f x ⟨hf.1, fun ⟨y, hy, hh⟩ => hf.2 ⟨y, List.mem_cons_of_mem _ hy, hh⟩⟩ hx⟩) (fun k hk => ?_) (fun k hk => hk)
      rcases hk with hk | hk
      · exact .inl hk
      · exact .inr ⟨hk.1, fun ⟨y, hy, hh⟩ => hk.2 ⟨y, List.mem_cons_of_mem _ hy, hh⟩⟩

end Go.Arm
