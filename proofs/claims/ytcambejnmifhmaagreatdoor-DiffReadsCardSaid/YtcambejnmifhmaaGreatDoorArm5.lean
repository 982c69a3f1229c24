/- shallow functions
   shallow functions -/
import Derived.Test.YtcambejnmifhmaaGreatDoorArm4
import Derived.KernelRfl
namespace Go.Arm
open Go.Proofs
set_option maxRecDepth 100000
/-- 4: armarium/armariumlaw21.awake -/
noncomputable def armariumlaw21_awake (C : CF) (L : LF) (a : List Value) (h : H) : Option (Value × H) :=
 (bldS E 39 2 [(0, (.int .i64 (1 : Int))), (1, (.int .i64 (2 : Int)))]).bind fun l1 =>
 let h2 := h.new (.cells l1 2 true false)
 (C 9 [(.slice (some ⟨h.next, 0, none⟩) 2 2)] h2).bind fun p3 =>
 (bldS E 39 3 [(0, (.int .i64 (1 : Int))), (1, (.int .i64 (5 : Int))), (2, (.int .i64 (7 : Int)))]).bind fun l4 =>
 let h5 := p3.2.new (.cells l4 2 true false)
 (C 9 [(.slice (some ⟨p3.2.next, 0, none⟩) 3 3)] h5).bind fun p6 =>
 (C 8 [p3.1, p6.1] p6.2).bind fun p7 =>
 (tup2 p7.1).bind fun p8 =>
 (asI .i64 p8.2).bind fun x9 =>
 let h10 := p7.2.new (.cells [(.slice none 0 0), (.int .i64 (0)), (.slice none 0 0), (.int .i64 (0)), (.slice none 0 0)] 26 true false)
 (stV 5 h10 p7.2.next 0 p8.1).bind fun h11 =>
 ((cond (x9 == (0 : Int))
 ((ldV h11 p7.2.next (0 + 4)).bind fun v12 =>
 (lenV v12).bind fun n13 =>
 some ((((n13 : Nat) : Int) == (1 : Int)), h11))
 (some (false, h11))) : Option (Bool × H)).bind fun p14 =>
 ((cond p14.1
 ((ldV p14.2 p7.2.next (0 + 4)).bind fun v15 =>
 (idx 3 v15 (0 : Int)).bind fun p16 =>
 (ldV p14.2 p16.1 (p16.2 + 1)).bind fun v17 =>
 (lenV v17).bind fun n18 =>
 some ((((n18 : Nat) : Int) == (1 : Int)), p14.2))
 (some (false, p14.2))) : Option (Bool × H)).bind fun p19 =>
 ((cond p19.1
 ((ldV p19.2 p7.2.next (0 + 4)).bind fun v20 =>
 (idx 3 v20 (0 : Int)).bind fun p21 =>
 (ldV p19.2 p21.1 (p21.2 + 1)).bind fun v22 =>
 (idx 7 v22 (0 : Int)).bind fun p23 =>
 (ldI .i64 p19.2 p23.1 (p23.2 + 0)).bind fun x24 =>
 some ((x24 == (1 : Int)), p19.2))
 (some (false, p19.2))) : Option (Bool × H)).bind fun p25 =>
 ((cond p25.1
 ((ldV p25.2 p7.2.next (0 + 4)).bind fun v26 =>
 (idx 3 v26 (0 : Int)).bind fun p27 =>
 (ldV p25.2 p27.1 (p27.2 + 1)).bind fun v28 =>
 (idx 7 v28 (0 : Int)).bind fun p29 =>
 (ldI .i64 p25.2 p29.1 ((p29.2 + 1) + 2)).bind fun x30 =>
 some ((x30 == (5 : Int)), p25.2))
 (some (false, p25.2))) : Option (Bool × H)).bind fun p31 =>
 ((cond p31.1
 ((ldV p31.2 p7.2.next (0 + 4)).bind fun v32 =>
 (idx 3 v32 (0 : Int)).bind fun p33 =>
 (ldV p31.2 p33.1 (p33.2 + 2)).bind fun v34 =>
 (lenV v34).bind fun n35 =>
 some ((((n35 : Nat) : Int) == (1 : Int)), p31.2))
 (some (false, p31.2))) : Option (Bool × H)).bind fun p36 =>
 ((cond p36.1
 ((ldV p36.2 p7.2.next (0 + 4)).bind fun v37 =>
 (idx 3 v37 (0 : Int)).bind fun p38 =>
 (ldV p36.2 p38.1 (p38.2 + 2)).bind fun v39 =>
 (idx 6 v39 (0 : Int)).bind fun p40 =>
 (ldI .i64 p36.2 p40.1 (p40.2 + 2)).bind fun x41 =>
 some ((x41 == (7 : Int)), p36.2))
 (some (false, p36.2))) : Option (Bool × H)).bind fun p42 =>
 some ((.bool p42.1), p42.2)

theorem armariumlaw21_awake_eq (C : CF) (L : LF) (a : List Value) (h : H) : fnK E C L 4 Tryz.f4 a h = armariumlaw21_awake C L a h := by kernel_rfl


/-- 63: armarium/schema.is -/
noncomputable def schema_is (C : CF) (L : LF) (a : List Value) (h : H) : Option (Value × H) :=
 (asI .i64 (lget a 0)).bind fun x1 =>
 ((cond (decide (x1 ≥ (1 : Int)))
 (some ((decide (x1 ≤ (6 : Int))), h))
 (some (false, h))) : Option (Bool × H)).bind fun p2 =>
 some ((.bool p2.1), p2.2)

theorem schema_is_eq (C : CF) (L : LF) (a : List Value) (h : H) : fnK E C L 63 Tryz.f63 a h = schema_is C L a h := by kernel_rfl


/-- 26: armarium/schema.Rows -/
noncomputable def schema_Rows (C : CF) (L : LF) (a : List Value) (h : H) : Option (Value × H) :=
 (oneL (lget a 0).cells.toList).bind fun l2 =>
 let h1 := h.new (.cells l2 37 true false)
 (ldV h1 h.next (0 + 1)).bind fun v3 =>
 (lenV v3).bind fun n4 =>
 cond (((n4 : Nat) : Int) == (0 : Int)) (
 some ((.int .i64 (0 : Int)), h1)) (
 (ldV h1 h.next (0 + 1)).bind fun v5 =>
 (idx 1 v5 (0 : Int)).bind fun p6 =>
 (ldV h1 p6.1 p6.2).bind fun v7 =>
 (lenV v7).bind fun n8 =>
 some ((.int .i64 ((n8 : Nat) : Int)), h1))

theorem schema_Rows_eq (C : CF) (L : LF) (a : List Value) (h : H) : fnK E C L 26 Tryz.f26 a h = schema_Rows C L a h := by kernel_rfl


/-- 50: armarium/schema.kinds -/
noncomputable def schema_kinds (C : CF) (L : LF) (a : List Value) (h : H) : Option (Value × H) :=
 let h1 := h.new (.cells [.nilFunc, .nilFunc, .nilFunc, .nilFunc, .nilFunc, .nilFunc, .nilFunc, .nilFunc, .nilFunc, .nilFunc, .nilFunc, .nilFunc, .nilFunc, .nilFunc, .nilFunc, .nilFunc, .nilFunc, .nilFunc, .nilFunc, .nilFunc, .nilFunc] 111 true false)
 let h2 := h1.new (.cells [.nilFunc, .nilFunc, .nilFunc, .nilFunc, .nilFunc, .nilFunc, .nilFunc, .nilFunc, .nilFunc, .nilFunc, .nilFunc, .nilFunc, .nilFunc, .nilFunc, .nilFunc, .nilFunc, .nilFunc, .nilFunc, .nilFunc, .nilFunc, .nilFunc] 111 true false)
 (bldT E 110 [(0, (.func (.func 71) #[] #[])), (1, (.func (.func 72) #[] #[])), (2, (.func (.func 73) #[] #[]))]).bind fun v3 =>
 cond (decide (0 ≤ (1 : Int)) && decide ((1 : Int) < ((7 : Nat) : Int))) (
 (stV 3 h2 h1.next (0 + (Int.toNat (1 : Int)) * 3) v3).bind fun h4 =>
 (bldT E 110 [(0, (.func (.func 71) #[] #[])), (1, (.func (.func 74) #[] #[])), (2, (.func (.func 75) #[] #[]))]).bind fun v5 =>
 cond (decide (0 ≤ (2 : Int)) && decide ((2 : Int) < ((7 : Nat) : Int))) (
 (stV 3 h4 h1.next (0 + (Int.toNat (2 : Int)) * 3) v5).bind fun h6 =>
 (bldT E 110 [(0, (.func (.func 71) #[] #[])), (1, (.func (.func 76) #[] #[])), (2, (.func (.func 77) #[] #[]))]).bind fun v7 =>
 cond (decide (0 ≤ (3 : Int)) && decide ((3 : Int) < ((7 : Nat) : Int))) (
 (stV 3 h6 h1.next (0 + (Int.toNat (3 : Int)) * 3) v7).bind fun h8 =>
 (bldT E 110 [(0, (.func (.func 71) #[] #[])), (1, (.func (.func 78) #[] #[])), (2, (.func (.func 79) #[] #[]))]).bind fun v9 =>
 cond (decide (0 ≤ (4 : Int)) && decide ((4 : Int) < ((7 : Nat) : Int))) (
 (stV 3 h8 h1.next (0 + (Int.toNat (4 : Int)) * 3) v9).bind fun h10 =>
 (bldT E 110 [(0, (.func (.func 80) #[] #[])), (1, (.func (.func 78) #[] #[])), (2, (.func (.func 79) #[] #[]))]).bind fun v11 =>
 cond (decide (0 ≤ (5 : Int)) && decide ((5 : Int) < ((7 : Nat) : Int))) (
 (stV 3 h10 h1.next (0 + (Int.toNat (5 : Int)) * 3) v11).bind fun h12 =>
 (bldT E 110 [(0, (.func (.func 81) #[] #[])), (1, (.func (.func 83) #[] #[])), (2, (.func (.func 84) #[] #[]))]).bind fun v13 =>
 cond (decide (0 ≤ (6 : Int)) && decide ((6 : Int) < ((7 : Nat) : Int))) (
 (stV 3 h12 h1.next (0 + (Int.toNat (6 : Int)) * 3) v13).bind fun h14 =>
 (ldA 21 h14 h1.next 0).bind fun v15 =>
 (stV 21 h14 h.next 0 v15).bind fun h16 =>
 (ldA 21 h16 h.next 0).bind fun v17 =>
 some (v17, h16)) none) none) none) none) none) none

theorem schema_kinds_eq (C : CF) (L : LF) (a : List Value) (h : H) : fnK E C L 50 Tryz.f50 a h = schema_kinds C L a h := by kernel_rfl


/-- 75: armarium/schema.kinds$4 -/
noncomputable def schema_kinds_4 (C : CF) (L : LF) (a : List Value) (h : H) : Option (Value × H) :=
 (oneL (lget a 0).cells.toList).bind fun l2 =>
 let h1 := h.new (.cells l2 47 true false)
 (oneL (lget a 1).cells.toList).bind fun l4 =>
 let h3 := h1.new (.cells l4 47 true false)
 (ldI .i64 h3 h.next (0 + 2)).bind fun x5 =>
 (ldI .i64 h3 h1.next (0 + 2)).bind fun x6 =>
 some ((.bool (x5 == x6)), h3)

theorem schema_kinds_4_eq (C : CF) (L : LF) (a : List Value) (h : H) : fnK E C L 75 Tryz.f75 a h = schema_kinds_4 C L a h := by kernel_rfl


/-- 77: armarium/schema.kinds$6 -/
noncomputable def schema_kinds_6 (C : CF) (L : LF) (a : List Value) (h : H) : Option (Value × H) :=
 (oneL (lget a 0).cells.toList).bind fun l2 =>
 let h1 := h.new (.cells l2 47 true false)
 (oneL (lget a 1).cells.toList).bind fun l4 =>
 let h3 := h1.new (.cells l4 47 true false)
 (ldI .u64 h3 h.next (0 + 3)).bind fun x5 =>
 (ldI .u64 h3 h1.next (0 + 3)).bind fun x6 =>
 some ((.bool (x5 == x6)), h3)

theorem schema_kinds_6_eq (C : CF) (L : LF) (a : List Value) (h : H) : fnK E C L 77 Tryz.f77 a h = schema_kinds_6 C L a h := by kernel_rfl


/-- 80: armarium/schema.kinds$7 -/
noncomputable def schema_kinds_7 (C : CF) (L : LF) (a : List Value) (h : H) : Option (Value × H) :=
 (oneL (lget a 0).cells.toList).bind fun l2 =>
 let h1 := h.new (.cells l2 47 true false)
 (ldS h1 h.next (0 + 4)).bind fun s3 =>
 (C 47 [(.string s3)] h1).bind fun p4 =>
 (asB p4.1).bind fun b5 =>
 some ((.bool b5), p4.2)

theorem schema_kinds_7_eq (C : CF) (L : LF) (a : List Value) (h : H) : fnK E C L 80 Tryz.f80 a h = schema_kinds_7 C L a h := by kernel_rfl


/-- 84: armarium/schema.kinds$10 -/
noncomputable def schema_kinds_10 (C : CF) (L : LF) (a : List Value) (h : H) : Option (Value × H) :=
 (oneL (lget a 0).cells.toList).bind fun l2 =>
 let h1 := h.new (.cells l2 47 true false)
 (oneL (lget a 1).cells.toList).bind fun l4 =>
 let h3 := h1.new (.cells l4 47 true false)
 (ldV h3 h.next (0 + 5)).bind fun v5 =>
 (ldV h3 h1.next (0 + 5)).bind fun v6 =>
 (fop .eql v5 v6).bind fun v7 =>
 (asB v7).bind fun b8 =>
 some ((.bool b8), h3)

theorem schema_kinds_10_eq (C : CF) (L : LF) (a : List Value) (h : H) : fnK E C L 84 Tryz.f84 a h = schema_kinds_10 C L a h := by kernel_rfl


/-- 27: armarium/diff.part -/
noncomputable def diff_part (C : CF) (L : LF) (a : List Value) (h : H) : Option (Value × H) :=
 (oneL (lget a 0).cells.toList).bind fun l2 =>
 let h1 := h.new (.cells l2 37 true false)
 (oneL (lget a 1).cells.toList).bind fun l4 =>
 let h3 := h1.new (.cells l4 55 true false)
 let h5 := h3.new (.cells [(.bool false), (.slice none 0 0), (.slice none 0 0)] 43 true false)
 (ldV h5 h.next (0 + 0)).bind fun v6 =>
 (ldA 3 h5 h1.next 0).bind fun v7 =>
 (C 53 [v6, v7] h5).bind fun p8 =>
 (asI .i64 p8.1).bind fun x9 =>
 cond (decide (x9 < (0 : Int))) (
 (C 54 [(lget a 2)] p8.2).bind fun p10 =>
 (bldT E 43 [(2, p10.1)]).bind fun v11 =>
 (stV 3 p10.2 h3.next 0 v11).bind fun h12 =>
 (ldA 3 h12 h3.next 0).bind fun v13 =>
 some (v13, h12)) (
 let h14 := holes 1 p8.2
 (ldI .i64 h14 h1.next (0 + 1)).bind fun x15 =>
 (ldV h14 h.next (0 + 1)).bind fun v16 =>
 (idx 1 v16 x9).bind fun p17 =>
 (ldV h14 p17.1 p17.2).bind fun v18 =>
 (bldT E 116 [(0, (.int .i64 x15)), (1, v18), (2, (lget a 2))]).bind fun v19 =>
 (stV 3 (h14.put (p8.2.next + 0) (some (.cells [(.int .i64 (0)), (.slice none 0 0), (.slice none 0 0)] 116 true false))) (p8.2.next + 0) 0 v19).bind fun h20 =>
 (ldV h20 (p8.2.next + 0) (0 + 1)).bind fun v21 =>
 (lenV v21).bind fun n22 =>
 (ldV h20 (p8.2.next + 0) (0 + 2)).bind fun v23 =>
 (lenV v23).bind fun n24 =>
 (slV 47 6 h20 (lget a 2) (some (cond (decide (((n24 : Nat) : Int) < ((n22 : Nat) : Int))) ((n24 : Nat) : Int) ((n22 : Nat) : Int))) none none).bind fun v25 =>
 (C 54 [v25] h20).bind fun p26 =>
 (bldT E 43 [(0, (.bool true)), (2, p26.1)]).bind fun v27 =>
 let h28 := p26.2.new (.cells [(.bool false), (.slice none 0 0), (.slice none 0 0)] 43 true false)
 (stV 3 h28 p26.2.next 0 v27).bind fun h29 =>
 (ldA 3 h29 (p8.2.next + 0) 0).bind fun v30 =>
 (C 55 [(.int .i64 (cond (decide (((n24 : Nat) : Int) < ((n22 : Nat) : Int))) ((n24 : Nat) : Int) ((n22 : Nat) : Int))), (.func (.func 56) #[v30] #[])] h29).bind fun p31 =>
 (lenV p31.1).bind fun n32 =>
 (L 27 8 [(lget a 2), (ptr h3.next 0), (ptr p26.2.next 0), p31.1, (.int .i64 ((n32 : Nat) : Int)), (.int .i64 (0 : Int))] p31.2).bind fun p33 =>
 (asP (lget p33.2.1 0)).bind fun p34 =>
 (asP (lget p33.2.1 1)).bind fun p35 =>
 (ldA 3 p33.2.2 p35.1 p35.2).bind fun v36 =>
 (stV 3 p33.2.2 p34.1 p34.2 v36).bind fun h37 =>
 (ldA 3 h37 p34.1 p34.2).bind fun v38 =>
 some (v38, h37))

theorem diff_part_eq (C : CF) (L : LF) (a : List Value) (h : H) : fnK E C L 27 Tryz.f27 a h = diff_part C L a h := by kernel_rfl

noncomputable def diff_part_L8 (C : CF) (L : LF) (a : List Value) (h : H) : Option (Nat × List Value × H) :=
 (asP (lget a 1)).bind fun p1 =>
 (asP (lget a 2)).bind fun p2 =>
 (asI .i64 (lget a 4)).bind fun x3 =>
 (asI .i64 (lget a 5)).bind fun x4 =>
 cond (decide (x4 < x3)) (
 (idx 1 (lget a 3) x4).bind fun p5 =>
 (ldI .i64 h p5.1 p5.2).bind fun x6 =>
 let h7 := holes 1 h
 (ldV h7 p2.1 (p2.2 + 1)).bind fun v8 =>
 (idx 6 (lget a 0) x6).bind fun p9 =>
 (ldA 6 h7 p9.1 p9.2).bind fun v10 =>
 (bldT E 49 [(0, (.int .i64 x6)), (1, v10)]).bind fun v11 =>
 (bldS E 40 1 [(0, v11)]).bind fun l12 =>
 (appA 7 64 49 (h7.put (h.next + 0) (some (.cells l12 49 true false))) v8 (.slice (some ⟨(h.next + 0), 0, none⟩) 1 1)).bind fun p13 =>
 (stV 1 p13.2 p2.1 (p2.2 + 1) p13.1).bind fun h14 =>
 L 27 8 [(lget a 0), (ptr p1.1 p1.2), (ptr p2.1 p2.2), (lget a 3), (.int .i64 x3), (.int .i64 (IntKind.wrap .i64 (x4 + (1 : Int))))] h14) (
 some (0, [(ptr p1.1 p1.2), (ptr p2.1 p2.2)], h))

theorem diff_part_L8_eq (C : CF) (L : LF) (a : List Value) (h : H) : lpN E C L 27 8 Tryz.f27 a h = diff_part_L8 C L a h := by kernel_rfl


/-- 57: (*armarium/wire.Reader).At -/
noncomputable def __wire_Reader__At (C : CF) (L : LF) (a : List Value) (h : H) : Option (Value × H) :=
 (nilT 0 (lget a 0)).bind fun b1 =>
 cond b1 (
 some ((.int .i64 (0 : Int)), h)) (
 (asP (lget a 0)).bind fun p2 =>
 (ldI .i64 h p2.1 (p2.2 + 1)).bind fun x3 =>
 some ((.int .i64 x3), h))

theorem __wire_Reader__At_eq (C : CF) (L : LF) (a : List Value) (h : H) : fnK E C L 57 Tryz.f57 a h = __wire_Reader__At C L a h := by kernel_rfl


/-- 31: (*armarium/wire.Reader).Uvar -/
noncomputable def __wire_Reader__Uvar (C : CF) (L : LF) (a : List Value) (h : H) : Option (Value × H) :=
 (nilT 0 (lget a 0)).bind fun b1 =>
 ((cond b1
 (some (true, h))
 ((asP (lget a 0)).bind fun p2 =>
 (ldI .i64 h p2.1 (p2.2 + 2)).bind fun x3 =>
 some ((x3 != (0 : Int)), h))) : Option (Bool × H)).bind fun p4 =>
 cond p4.1 (
 some ((.int .u64 (0 : Int)), p4.2)) (
 (asP (lget a 0)).bind fun p5 =>
 (ldI .i64 p4.2 p5.1 (p5.2 + 1)).bind fun x6 =>
 (C 60 [(lget a 0)] p4.2).bind fun p7 =>
 (asI .u8 p7.1).bind fun x8 =>
 (asP (lget a 0)).bind fun p9 =>
 (ldI .i64 p7.2 p9.1 (p9.2 + 2)).bind fun x10 =>
 cond (x10 != (0 : Int)) (
 (L 31 1000001 [(lget a 0), (.int .i64 x6)] p7.2).bind fun p11 =>
 (asI .u64 (lget p11.2.1 0)).bind fun x12 =>
 some ((.int .u64 x12), p11.2.2)) (
 ((cond ((0 : Int) == (9 : Int))
 (some ((decide (x8 > (1 : Int))), p7.2))
 (some (false, p7.2))) : Option (Bool × H)).bind fun p13 =>
 ((cond p13.1
 (some (true, p13.2))
 (((cond (decide ((0 : Int) > (0 : Int)))
 (some ((x8 == (0 : Int)), p13.2))
 (some (false, p13.2))) : Option (Bool × H)).bind fun p14 =>
 some (p14.1, p14.2))) : Option (Bool × H)).bind fun p15 =>
 cond p15.1 (
 (L 31 1000002 [(lget a 0), (.int .i64 x6)] p15.2).bind fun p16 =>
 (asI .u64 (lget p16.2.1 0)).bind fun x17 =>
 some ((.int .u64 x17), p16.2.2)) (
 cond (decide ((IntKind.wrap .u64 (IntKind.wrap .i64 ((7 : Int) * (0 : Int)))) < 0)) none (
 cond (decide (x8 ≥ (128 : Int))) (
 (L 31 1000000 [(lget a 0), (.int .u64 (ior .u64 (0 : Int) (ishl .u64 (IntKind.wrap .u64 (iand .u8 x8 (127 : Int))) (IntKind.wrap .u64 (IntKind.wrap .i64 ((7 : Int) * (0 : Int))))))), (.int .i64 x6), (.int .i64 (IntKind.wrap .i64 ((0 : Int) + (1 : Int))))] p15.2).bind fun p18 =>
 (asI .u64 (lget p18.2.1 0)).bind fun x19 =>
 some ((.int .u64 x19), p18.2.2)) (
 some ((.int .u64 (ior .u64 (0 : Int) (ishl .u64 (IntKind.wrap .u64 (iand .u8 x8 (127 : Int))) (IntKind.wrap .u64 (IntKind.wrap .i64 ((7 : Int) * (0 : Int))))))), p15.2))))))

theorem __wire_Reader__Uvar_eq (C : CF) (L : LF) (a : List Value) (h : H) : fnK E C L 31 Tryz.f31 a h = __wire_Reader__Uvar C L a h := by kernel_rfl

noncomputable def __wire_Reader__Uvar_L1000000 (C : CF) (L : LF) (a : List Value) (h : H) : Option (Nat × List Value × H) :=
 (asI .u64 (lget a 1)).bind fun x1 =>
 (asI .i64 (lget a 2)).bind fun x2 =>
 (asI .i64 (lget a 3)).bind fun x3 =>
 (C 60 [(lget a 0)] h).bind fun p4 =>
 (asI .u8 p4.1).bind fun x5 =>
 (asP (lget a 0)).bind fun p6 =>
 (ldI .i64 p4.2 p6.1 (p6.2 + 2)).bind fun x7 =>
 cond (x7 != (0 : Int)) (
 L 31 1000001 [(lget a 0), (.int .i64 x2)] p4.2) (
 ((cond (x3 == (9 : Int))
 (some ((decide (x5 > (1 : Int))), p4.2))
 (some (false, p4.2))) : Option (Bool × H)).bind fun p8 =>
 ((cond p8.1
 (some (true, p8.2))
 (((cond (decide (x3 > (0 : Int)))
 (some ((x5 == (0 : Int)), p8.2))
 (some (false, p8.2))) : Option (Bool × H)).bind fun p9 =>
 some (p9.1, p9.2))) : Option (Bool × H)).bind fun p10 =>
 cond p10.1 (
 L 31 1000002 [(lget a 0), (.int .i64 x2)] p10.2) (
 cond (decide ((IntKind.wrap .u64 (IntKind.wrap .i64 ((7 : Int) * x3))) < 0)) none (
 cond (decide (x5 ≥ (128 : Int))) (
 L 31 1000000 [(lget a 0), (.int .u64 (ior .u64 x1 (ishl .u64 (IntKind.wrap .u64 (iand .u8 x5 (127 : Int))) (IntKind.wrap .u64 (IntKind.wrap .i64 ((7 : Int) * x3)))))), (.int .i64 x2), (.int .i64 (IntKind.wrap .i64 (x3 + (1 : Int))))] p10.2) (
 some (0, [(.int .u64 (ior .u64 x1 (ishl .u64 (IntKind.wrap .u64 (iand .u8 x5 (127 : Int))) (IntKind.wrap .u64 (IntKind.wrap .i64 ((7 : Int) * x3))))))], p10.2)))))

theorem __wire_Reader__Uvar_L1000000_eq (C : CF) (L : LF) (a : List Value) (h : H) : lpN E C L 31 1000000 Tryz.f31 a h = __wire_Reader__Uvar_L1000000 C L a h := by kernel_rfl

noncomputable def __wire_Reader__Uvar_L1000001 (C : CF) (L : LF) (a : List Value) (h : H) : Option (Nat × List Value × H) :=
 (asI .i64 (lget a 1)).bind fun x1 =>
 (asP (lget a 0)).bind fun p2 =>
 (ldI .i64 h p2.1 (p2.2 + 2)).bind fun x3 =>
 (C 58 [(lget a 0), (.int .i64 x3), (.int .i64 x1)] h).bind fun p4 =>
 some (0, [(.int .u64 (0 : Int))], p4.2)

theorem __wire_Reader__Uvar_L1000001_eq (C : CF) (L : LF) (a : List Value) (h : H) : lpN E C L 31 1000001 Tryz.f31 a h = __wire_Reader__Uvar_L1000001 C L a h := by kernel_rfl

noncomputable def __wire_Reader__Uvar_L1000002 (C : CF) (L : LF) (a : List Value) (h : H) : Option (Nat × List Value × H) :=
 (asI .i64 (lget a 1)).bind fun x1 =>
 (C 58 [(lget a 0), (.int .i64 (12 : Int)), (.int .i64 x1)] h).bind fun p2 =>
 some (0, [(.int .u64 (0 : Int))], p2.2)

theorem __wire_Reader__Uvar_L1000002_eq (C : CF) (L : LF) (a : List Value) (h : H) : lpN E C L 31 1000002 Tryz.f31 a h = __wire_Reader__Uvar_L1000002 C L a h := by kernel_rfl


/-- 87: armarium/plain.is -/
noncomputable def plain_is (C : CF) (L : LF) (a : List Value) (h : H) : Option (Value × H) :=
 (asI .i64 (lget a 0)).bind fun x1 =>
 ((cond (decide (x1 ≥ (1 : Int)))
 (some ((decide (x1 ≤ (6 : Int))), h))
 (some (false, h))) : Option (Bool × H)).bind fun p2 =>
 some ((.bool p2.1), p2.2)

theorem plain_is_eq (C : CF) (L : LF) (a : List Value) (h : H) : fnK E C L 87 Tryz.f87 a h = plain_is C L a h := by kernel_rfl


/-- 88: armarium/plain.read -/
noncomputable def plain_read (C : CF) (L : LF) (a : List Value) (h : H) : Option (Value × H) :=
 (asI .i64 (lget a 1)).bind fun x1 =>
 let h2 := h.new (.cells [(.bool false), (.bool false), (.int .i64 (0)), (.int .u64 (0)), (.string (bs [])), (.complex .f64 0 0)] 47 true false)
 let h3 := h2.new (.cells [(.bool false), (.bool false), (.int .i64 (0)), (.int .u64 (0)), (.string (bs [])), (.complex .f64 0 0)] 47 true false)
 let j9 : Nat → Nat → Nat → Nat → H → Option (Value × H) := fun (q4 : Nat) (q5 : Nat) (q6 : Nat) (q7 : Nat) (h8 : H) =>
 (ldA 6 h8 q6 q7).bind fun v10 =>
 (stV 6 h8 q4 q5 v10).bind fun h11 =>
 (ldA 6 h11 q4 q5).bind fun v12 =>
 some (.tuple #[v12, (.bool true)], h11)
 cond (x1 == (1 : Int)) (
 (C 60 [(lget a 0)] h3).bind fun p13 =>
 (asI .u8 p13.1).bind fun x14 =>
 (stV 1 p13.2 h2.next (0 + 1) (.bool (x14 == (1 : Int)))).bind fun h15 =>
 (ldA 6 h15 h2.next 0).bind fun v16 =>
 (stV 6 h15 h.next 0 v16).bind fun h17 =>
 (ldA 6 h17 h.next 0).bind fun v18 =>
 some (.tuple #[v18, (.bool (decide (x14 ≤ (1 : Int))))], h17)) (
 cond (x1 == (2 : Int)) (
 (C 97 [(lget a 0)] h3).bind fun p19 =>
 (asI .u64 p19.1).bind fun x20 =>
 (stV 1 p19.2 h2.next (0 + 2) (.int .i64 (IntKind.wrap .i64 x20))).bind fun h21 =>
 j9 h.next 0 h2.next 0 h21) (
 cond (x1 == (3 : Int)) (
 (C 97 [(lget a 0)] h3).bind fun p22 =>
 (asI .u64 p22.1).bind fun x23 =>
 (stV 1 p22.2 h2.next (0 + 3) (.int .u64 x23)).bind fun h24 =>
 j9 h.next 0 h2.next 0 h24) (
 let j33 : Value → Int → Nat → Nat → Nat → Nat → Bool → H → Option (Value × H) := fun (v25 : Value) (x26 : Int) (q27 : Nat) (q28 : Nat) (q29 : Nat) (q30 : Nat) (b31 : Bool) (h32 : H) =>
 cond b31 (
 (C 28 [v25, (.int .i64 (1048576 : Int))] h32).bind fun p34 =>
 (asS p34.1).bind fun s35 =>
 (stV 1 p34.2 q29 (q30 + 4) (.string s35)).bind fun h36 =>
 (ldA 6 h36 q29 q30).bind fun v37 =>
 cond (x26 == (4 : Int)) (
 (stV 6 h36 q27 q28 v37).bind fun h38 =>
 (ldA 6 h38 q27 q28).bind fun v39 =>
 some (.tuple #[v39, (.bool true)], h38)) (
 (ldS h36 q29 (q30 + 4)).bind fun s40 =>
 (C 47 [(.string s40)] h36).bind fun p41 =>
 (asB p41.1).bind fun b42 =>
 (((ldA 6 p41.2 q29 q30).bind fun v44 =>
 some (veq v37 v44)) : Option Bool).bind fun b43 =>
 cond b43 (
 (stV 6 p41.2 q27 q28 v37).bind fun h45 =>
 (ldA 6 h45 q27 q28).bind fun v46 =>
 some (.tuple #[v46, (.bool b42)], h45)) none)) (
 (C 98 [v25] h32).bind fun p47 =>
 (asI .i64 p47.1).bind fun x48 =>
 (C 98 [v25] p47.2).bind fun p49 =>
 (asI .i64 p49.1).bind fun x50 =>
 (C 99 [(.int .i64 x48)] p49.2).bind fun p51 =>
 (asB p51.1).bind fun b52 =>
 ((cond b52
 (some (true, p51.2))
 ((C 99 [(.int .i64 x50)] p51.2).bind fun p53 =>
 (asB p53.1).bind fun b54 =>
 some (b54, p53.2))) : Option (Bool × H)).bind fun p55 =>
 cond p55.1 (
 (ldA 6 p55.2 q29 q30).bind fun v56 =>
 (stV 6 p55.2 q27 q28 v56).bind fun h57 =>
 (ldA 6 h57 q27 q28).bind fun v58 =>
 some (.tuple #[v58, (.bool false)], h57)) (
 (cplxV (.float .f64 (FloatKind.f64.nearest x48)) (.float .f64 (FloatKind.f64.nearest x50))).bind fun v59 =>
 (stV 1 p55.2 q29 (q30 + 5) v59).bind fun h60 =>
 j9 q27 q28 q29 q30 h60))
 cond (x1 == (4 : Int)) (
 j33 (lget a 0) x1 h.next 0 h2.next 0 (x1 == (4 : Int)) h3) (
 j33 (lget a 0) x1 h.next 0 h2.next 0 (x1 == (5 : Int)) h3))))

theorem plain_read_eq (C : CF) (L : LF) (a : List Value) (h : H) : fnK E C L 88 Tryz.f88 a h = plain_read C L a h := by kernel_rfl


/-- 100: armarium/nulls.Unpack -/
noncomputable def nulls_Unpack (C : CF) (L : LF) (a : List Value) (h : H) : Option (Value × H) :=
 (asS (lget a 0)).bind fun s1 =>
 (asI .i64 (lget a 1)).bind fun x2 =>
 ((cond (decide (x2 < (0 : Int)))
 (some (true, h))
 (some ((decide (x2 > (1048576 : Int))), h))) : Option (Bool × H)).bind fun p3 =>
 cond p3.1 (
 some (.tuple #[(.slice none 0 0), (.int .i64 (1 : Int))], p3.2)) (
 (C 67 [(.int .i64 x2)] p3.2).bind fun p4 =>
 (asI .i64 p4.1).bind fun x5 =>
 cond (decide (((s1.size : Nat) : Int) < x5)) (
 some (.tuple #[(.slice none 0 0), (.int .i64 (10 : Int))], p4.2)) (
 (C 67 [(.int .i64 x2)] p4.2).bind fun p6 =>
 (asI .i64 p6.1).bind fun x7 =>
 cond (decide (((s1.size : Nat) : Int) > x7)) (
 some (.tuple #[(.slice none 0 0), (.int .i64 (11 : Int))], p6.2)) (
 (mkS 1 4 [(.bool false)] p6.2 x2 x2).bind fun p8 =>
 (L 100 9 [(.string s1), (.int .i64 x2), p8.1, (.int .i64 (IntKind.wrap .i64 ((8 : Int) * ((s1.size : Nat) : Int)))), (.int .i64 (0 : Int))] p8.2).bind fun p9 =>
 cond (p9.1 == 0) (
 some (.tuple #[(lget p9.2.1 0), (.int .i64 (0 : Int))], p9.2.2)) (
 (asI .i64 (lget p9.2.1 1)).bind fun x10 =>
 some (.tuple #[(lget p9.2.1 0), (.int .i64 x10)], p9.2.2)))))

theorem nulls_Unpack_eq (C : CF) (L : LF) (a : List Value) (h : H) : fnK E C L 100 Tryz.f100 a h = nulls_Unpack C L a h := by kernel_rfl

noncomputable def nulls_Unpack_L1000000 (C : CF) (L : LF) (a : List Value) (h : H) : Option (Nat × List Value × H) :=
 (asS (lget a 0)).bind fun s1 =>
 (asI .i64 (lget a 1)).bind fun x2 =>
 (L 100 9 [(.string s1), (.int .i64 x2), (lget a 2), (.int .i64 (IntKind.wrap .i64 ((8 : Int) * ((s1.size : Nat) : Int)))), (.int .i64 (0 : Int))] h).bind fun p3 =>
 cond (p3.1 == 0) (
 some (0, [(lget p3.2.1 0), (.int .i64 (0 : Int))], p3.2.2)) (
 (asI .i64 (lget p3.2.1 1)).bind fun x4 =>
 some (0, [(lget p3.2.1 0), (.int .i64 x4)], p3.2.2))

theorem nulls_Unpack_L1000000_eq (C : CF) (L : LF) (a : List Value) (h : H) : lpN E C L 100 1000000 Tryz.f100 a h = nulls_Unpack_L1000000 C L a h := by kernel_rfl

noncomputable def nulls_Unpack_L9 (C : CF) (L : LF) (a : List Value) (h : H) : Option (Nat × List Value × H) :=
 (asS (lget a 0)).bind fun s1 =>
 (asI .i64 (lget a 1)).bind fun x2 =>
 (asI .i64 (lget a 3)).bind fun x3 =>
 (asI .i64 (lget a 4)).bind fun x4 =>
 cond (decide (x4 < x3)) (
 let j11 : ByteArray → Int → Value → Int → Int → H → Option (Nat × List Value × H) := fun (s5 : ByteArray) (x6 : Int) (v7 : Value) (x8 : Int) (x9 : Int) (h10 : H) =>
 L 100 9 [(.string s5), (.int .i64 x6), v7, (.int .i64 x8), (.int .i64 (IntKind.wrap .i64 (x9 + (1 : Int))))] h10
 (byteAt s1 (IntKind.wrap .i64 (Int.tdiv x4 (8 : Int)))).bind fun x12 =>
 cond (decide ((IntKind.wrap .u64 (Int.tmod x4 (8 : Int))) < 0)) none (
 cond (decide (x4 < x2)) (
 (idx 1 (lget a 2) x4).bind fun p13 =>
 (stV 1 h p13.1 p13.2 (.bool ((iand .u8 (ishr .u8 x12 (IntKind.wrap .u64 (Int.tmod x4 (8 : Int)))) (1 : Int)) == (1 : Int)))).bind fun h14 =>
 j11 s1 x2 (lget a 2) x3 x4 h14) (
 cond ((iand .u8 (ishr .u8 x12 (IntKind.wrap .u64 (Int.tmod x4 (8 : Int)))) (1 : Int)) == (1 : Int)) (
 some (1, [(.slice none 0 0), (.int .i64 (12 : Int))], h)) (
 j11 s1 x2 (lget a 2) x3 x4 h)))) (
 some (0, [(lget a 2)], h))

theorem nulls_Unpack_L9_eq (C : CF) (L : LF) (a : List Value) (h : H) : lpN E C L 100 9 Tryz.f100 a h = nulls_Unpack_L9 C L a h := by kernel_rfl


/-- 39: (*armarium/wire.Writer).U8 -/
noncomputable def __wire_Writer__U8 (C : CF) (L : LF) (a : List Value) (h : H) : Option (Value × H) :=
 (asI .u8 (lget a 1)).bind fun x1 =>
 (bldS E 59 1 [(0, (.int .u8 x1))]).bind fun l2 =>
 let h3 := h.new (.cells l2 5 true false)
 (C 40 [(lget a 0), (.slice (some ⟨h.next, 0, none⟩) 1 1)] h3).bind fun p4 =>
 some (junk, p4.2)

theorem __wire_Writer__U8_eq (C : CF) (L : LF) (a : List Value) (h : H) : fnK E C L 39 Tryz.f39 a h = __wire_Writer__U8 C L a h := by kernel_rfl


/-- 40: (*armarium/wire.Writer).put -/
noncomputable def __wire_Writer__put (C : CF) (L : LF) (a : List Value) (h : H) : Option (Value × H) :=
 (nilT 0 (lget a 0)).bind fun b1 =>
 cond (!b1) (
 (asP (lget a 0)).bind fun p2 =>
 (ldV h p2.1 (p2.2 + 0)).bind fun v3 =>
 (appA 1 1 5 h v3 (lget a 1)).bind fun p4 =>
 (asP (lget a 0)).bind fun p5 =>
 (stV 1 p4.2 p5.1 (p5.2 + 0) p4.1).bind fun h6 =>
 some (junk, h6)) (
 some (junk, h))

theorem __wire_Writer__put_eq (C : CF) (L : LF) (a : List Value) (h : H) : fnK E C L 40 Tryz.f40 a h = __wire_Writer__put C L a h := by kernel_rfl


/-- 15: (*armarium/wire.Writer).Text -/
noncomputable def __wire_Writer__Text (C : CF) (L : LF) (a : List Value) (h : H) : Option (Value × H) :=
 (asS (lget a 1)).bind fun s1 =>
 (C 17 [(lget a 0), (.int .u64 (IntKind.wrap .u64 ((s1.size : Nat) : Int)))] h).bind fun p2 =>
 (C 38 [(lget a 0), (.string s1)] p2.2).bind fun p3 =>
 some (junk, p3.2)

theorem __wire_Writer__Text_eq (C : CF) (L : LF) (a : List Value) (h : H) : fnK E C L 15 Tryz.f15 a h = __wire_Writer__Text C L a h := by kernel_rfl


/-- 66: armarium/plain.point -/
noncomputable def plain_point (C : CF) (L : LF) (a : List Value) (h : H) : Option (Value × H) :=
 (realV (lget a 1)).bind fun v1 =>
 (C 95 [v1] h).bind fun p2 =>
 (tup2 p2.1).bind fun p3 =>
 (asI .i64 p3.1).bind fun x4 =>
 (asB p3.2).bind fun b5 =>
 (imagV (lget a 1)).bind fun v6 =>
 (C 95 [v6] p2.2).bind fun p7 =>
 (tup2 p7.1).bind fun p8 =>
 (asI .i64 p8.1).bind fun x9 =>
 (asB p8.2).bind fun b10 =>
 let j15 : Value → Int → Int → H → Option (Value × H) := fun (v11 : Value) (x12 : Int) (x13 : Int) (h14 : H) =>
 (C 96 [v11, (.int .i64 x12)] h14).bind fun p16 =>
 (C 96 [v11, (.int .i64 x13)] p16.2).bind fun p17 =>
 some (junk, p17.2)
 ((cond (!b5)
 (some (true, p7.2))
 (some ((!b10), p7.2))) : Option (Bool × H)).bind fun p18 =>
 cond p18.1 (
 j15 (lget a 0) (0 : Int) (0 : Int) p18.2) (
 j15 (lget a 0) x4 x9 p18.2)

theorem plain_point_eq (C : CF) (L : LF) (a : List Value) (h : H) : fnK E C L 66 Tryz.f66 a h = plain_point C L a h := by kernel_rfl


/-- 111: armarium/plain.bools -/
noncomputable def plain_bools (C : CF) (L : LF) (a : List Value) (h : H) : Option (Value × H) :=
 (asS (lget a 0)).bind fun s1 =>
 (asI .i64 (lget a 1)).bind fun x2 =>
 (C 100 [(.string s1), (.int .i64 x2)] h).bind fun p3 =>
 (tup2 p3.1).bind fun p4 =>
 (asI .i64 p4.2).bind fun x5 =>
 cond (x5 != (0 : Int)) (
 some (.tuple #[(.slice none 0 0), (.int .i64 x5)], p3.2)) (
 (mkS 56 47 [(.bool false), (.bool false), (.int .i64 (0)), (.int .u64 (0)), (.string (bs [])), (.complex .f64 0 0)] p3.2 x2 x2).bind fun p6 =>
 (lenV p4.1).bind fun n7 =>
 (L 111 6 [p6.1, p4.1, (.int .i64 ((n7 : Nat) : Int)), (.int .i64 (0 : Int))] p6.2).bind fun p8 =>
 some (.tuple #[(lget p8.2.1 0), (.int .i64 (0 : Int))], p8.2.2))

theorem plain_bools_eq (C : CF) (L : LF) (a : List Value) (h : H) : fnK E C L 111 Tryz.f111 a h = plain_bools C L a h := by kernel_rfl

noncomputable def plain_bools_L6 (C : CF) (L : LF) (a : List Value) (h : H) : Option (Nat × List Value × H) :=
 (asI .i64 (lget a 2)).bind fun x1 =>
 (asI .i64 (lget a 3)).bind fun x2 =>
 cond (decide (x2 < x1)) (
 (idx 1 (lget a 1) x2).bind fun p3 =>
 (ldB h p3.1 p3.2).bind fun b4 =>
 (idx 6 (lget a 0) x2).bind fun p5 =>
 (stV 1 h p5.1 (p5.2 + 1) (.bool b4)).bind fun h6 =>
 L 111 6 [(lget a 0), (lget a 1), (.int .i64 x1), (.int .i64 (IntKind.wrap .i64 (x2 + (1 : Int))))] h6) (
 some (0, [(lget a 0)], h))

theorem plain_bools_L6_eq (C : CF) (L : LF) (a : List Value) (h : H) : lpN E C L 111 6 Tryz.f111 a h = plain_bools_L6 C L a h := by kernel_rfl


/-- 105: armarium/runs.Decode -/
noncomputable def runs_Decode (C : CF) (L : LF) (a : List Value) (h : H) : Option (Value × H) :=
 (asI .i64 (lget a 0)).bind fun x1 =>
 (asS (lget a 1)).bind fun s2 =>
 (asI .i64 (lget a 2)).bind fun x3 =>
 ((cond (decide (x1 < (1 : Int)))
 (some (true, h))
 (some ((decide (x1 > (6 : Int))), h))) : Option (Bool × H)).bind fun p4 =>
 cond p4.1 (
 some (.tuple #[(.slice none 0 0), (.int .i64 (14 : Int))], p4.2)) (
 ((cond (decide (x3 < (0 : Int)))
 (some (true, p4.2))
 (some ((decide (x3 > (10000 : Int))), p4.2))) : Option (Bool × H)).bind fun p5 =>
 cond p5.1 (
 some (.tuple #[(.slice none 0 0), (.int .i64 (1 : Int))], p5.2)) (
 (C 10 [(.string s2)] p5.2).bind fun p6 =>
 (L 105 8 [(.int .i64 x1), p6.1, (.slice none 0 0), (.int .i64 x3)] p6.2).bind fun p7 =>
 cond (p7.1 == 0) (
 (asI .i64 (lget p7.2.1 1)).bind fun x8 =>
 cond (decide (x8 > (0 : Int))) (
 some (.tuple #[(.slice none 0 0), (.int .i64 (10 : Int))], p7.2.2)) (
 (C 114 [(lget p7.2.1 0)] p7.2.2).bind fun p9 =>
 (tup2 p9.1).bind fun p10 =>
 (asI .i64 p10.2).bind fun x11 =>
 some (.tuple #[p10.1, (.int .i64 x11)], p9.2))) (
 (asI .i64 (lget p7.2.1 1)).bind fun x12 =>
 some (.tuple #[(lget p7.2.1 0), (.int .i64 x12)], p7.2.2))))

theorem runs_Decode_eq (C : CF) (L : LF) (a : List Value) (h : H) : fnK E C L 105 Tryz.f105 a h = runs_Decode C L a h := by kernel_rfl

noncomputable def runs_Decode_L8 (C : CF) (L : LF) (a : List Value) (h : H) : Option (Nat × List Value × H) :=
 (asI .i64 (lget a 0)).bind fun x1 =>
 (asI .i64 (lget a 3)).bind fun x2 =>
 (C 37 [(lget a 1)] h).bind fun p3 =>
 (asI .i64 p3.1).bind fun x4 =>
 cond (decide (x4 > (0 : Int))) (
 (C 113 [(lget a 1), (.int .i64 x1), (.int .i64 x2)] p3.2).bind fun p5 =>
 (tup2 p5.1).bind fun p6 =>
 (asI .i64 p6.2).bind fun x7 =>
 let h8 := p5.2.new (.cells [(.bool false), (.bool false), (.int .i64 (0)), (.int .u64 (0)), (.string (bs [])), (.complex .f64 0 0), (.int .i64 (0))] 166 true false)
 (stV 7 h8 p5.2.next 0 p6.1).bind fun h9 =>
 cond (x7 != (0 : Int)) (
 some (1, [(.slice none 0 0), (.int .i64 x7)], h9)) (
 (lenV (lget a 2)).bind fun n10 =>
 cond (decide ((IntKind.wrap .i64 (((n10 : Nat) : Int) - (1 : Int))) ≥ (0 : Int))) (
 (idx 7 (lget a 2) (IntKind.wrap .i64 (((n10 : Nat) : Int) - (1 : Int)))).bind fun p11 =>
 (ldA 6 h9 p11.1 (p11.2 + 0)).bind fun v12 =>
 (ldA 6 h9 p5.2.next (0 + 0)).bind fun v13 =>
 (C 85 [(.int .i64 x1), v12, v13] h9).bind fun p14 =>
 (asB p14.1).bind fun b15 =>
 cond b15 (
 some (1, [(.slice none 0 0), (.int .i64 (12 : Int))], p14.2)) (
 (ldA 7 p14.2 p5.2.next 0).bind fun v16 =>
 (bldS E 167 1 [(0, v16)]).bind fun l17 =>
 let h18 := p14.2.new (.cells l17 166 true false)
 (appA 7 64 166 h18 (lget a 2) (.slice (some ⟨p14.2.next, 0, none⟩) 1 1)).bind fun p19 =>
 (ldI .i64 p19.2 p5.2.next (0 + 6)).bind fun x20 =>
 L 105 8 [(.int .i64 x1), (lget a 1), p19.1, (.int .i64 (IntKind.wrap .i64 (x2 - x20)))] p19.2)) (
 cond false (
 some (1, [(.slice none 0 0), (.int .i64 (12 : Int))], h9)) (
 (ldA 7 h9 p5.2.next 0).bind fun v21 =>
 (bldS E 167 1 [(0, v21)]).bind fun l22 =>
 let h23 := h9.new (.cells l22 166 true false)
 (appA 7 64 166 h23 (lget a 2) (.slice (some ⟨h9.next, 0, none⟩) 1 1)).bind fun p24 =>
 (ldI .i64 p24.2 p5.2.next (0 + 6)).bind fun x25 =>
 L 105 8 [(.int .i64 x1), (lget a 1), p24.1, (.int .i64 (IntKind.wrap .i64 (x2 - x25)))] p24.2)))) (
 some (0, [(lget a 2), (.int .i64 x2)], p3.2))

theorem runs_Decode_L8_eq (C : CF) (L : LF) (a : List Value) (h : H) : lpN E C L 105 8 Tryz.f105 a h = runs_Decode_L8 C L a h := by kernel_rfl


/-- 117: armarium/delta.may -/
noncomputable def delta_may (C : CF) (L : LF) (a : List Value) (h : H) : Option (Value × H) :=
 (realV (lget a 0)).bind fun v1 =>
 (C 126 [v1] h).bind fun p2 =>
 (asB p2.1).bind fun b3 =>
 ((cond b3
 ((imagV (lget a 0)).bind fun v4 =>
 (C 126 [v4] p2.2).bind fun p5 =>
 (asB p5.1).bind fun b6 =>
 some (b6, p5.2))
 (some (false, p2.2))) : Option (Bool × H)).bind fun p7 =>
 some ((.bool p7.1), p7.2)

theorem delta_may_eq (C : CF) (L : LF) (a : List Value) (h : H) : fnK E C L 117 Tryz.f117 a h = delta_may C L a h := by kernel_rfl


/-- 118: armarium/delta.reach -/
noncomputable def delta_reach (C : CF) (L : LF) (a : List Value) (h : H) : Option (Value × H) :=
 (realV (lget a 0)).bind fun v1 =>
 (realV (lget a 1)).bind fun v2 =>
 (C 127 [v1, v2] h).bind fun p3 =>
 (asB p3.1).bind fun b4 =>
 ((cond b4
 ((imagV (lget a 0)).bind fun v5 =>
 (imagV (lget a 1)).bind fun v6 =>
 (C 127 [v5, v6] p3.2).bind fun p7 =>
 (asB p7.1).bind fun b8 =>
 some (b8, p7.2))
 (some (false, p3.2))) : Option (Bool × H)).bind fun p9 =>
 some ((.bool p9.1), p9.2)

theorem delta_reach_eq (C : CF) (L : LF) (a : List Value) (h : H) : fnK E C L 118 Tryz.f118 a h = delta_reach C L a h := by kernel_rfl


/-- 119: armarium/delta.next -/
noncomputable def delta_next (C : CF) (L : LF) (a : List Value) (h : H) : Option (Value × H) :=
 (asI .i64 (lget a 1)).bind fun x1 =>
 let h2 := h.new (.cells [(.bool false), (.bool false), (.int .i64 (0)), (.int .u64 (0)), (.string (bs [])), (.complex .f64 0 0)] 47 true false)
 cond (x1 == (6 : Int)) (
 (C 61 [(lget a 0), (.int .i64 x1)] h2).bind fun p3 =>
 (tup2 p3.1).bind fun p4 =>
 (asI .i64 p4.2).bind fun x5 =>
 (stV 6 p3.2 h.next 0 p4.1).bind fun h6 =>
 (ldA 6 h6 h.next 0).bind fun v7 =>
 some (.tuple #[v7, (.int .i64 x5)], h6)) (
 (C 98 [(lget a 0)] h2).bind fun p8 =>
 (asI .i64 p8.1).bind fun x9 =>
 (bldT E 47 [(2, (.int .i64 x9))]).bind fun v10 =>
 (C 29 [(lget a 0)] p8.2).bind fun p11 =>
 (asI .i64 p11.1).bind fun x12 =>
 (stV 6 p11.2 h.next 0 v10).bind fun h13 =>
 (ldA 6 h13 h.next 0).bind fun v14 =>
 some (.tuple #[v14, (.int .i64 x12)], h13))

theorem delta_next_eq (C : CF) (L : LF) (a : List Value) (h : H) : fnK E C L 119 Tryz.f119 a h = delta_next C L a h := by kernel_rfl


/-- 108: armarium/dict.Encode -/
noncomputable def dict_Encode (C : CF) (L : LF) (a : List Value) (h : H) : Option (Value × H) :=
 (asI .i64 (lget a 0)).bind fun x1 =>
 (C 121 [(.int .i64 x1), (lget a 1)] h).bind fun p2 =>
 (tup2 p2.1).bind fun p3 =>
 (nilT 0 p3.1).bind fun b4 =>
 cond b4 (
 some ((.string (bs [])), p2.2)) (
 let h5 := p2.2.new (.cells [(.slice none 0 0)] 61 true false)
 (C 122 [p3.1] h5).bind fun p6 =>
 (asI .i64 p6.1).bind fun x7 =>
 (C 17 [(ptr p2.2.next 0), (.int .u64 (IntKind.wrap .u64 x7))] p6.2).bind fun p8 =>
 (asP p3.1).bind fun p9 =>
 (ldV p8.2 p9.1 (p9.2 + 1)).bind fun v10 =>
 (lenV v10).bind fun n11 =>
 (L 108 7 [(.int .i64 x1), p3.2, (ptr p2.2.next 0), v10, (.int .i64 ((n11 : Nat) : Int)), (.int .i64 (0 : Int))] p8.2).bind fun p12 =>
 (asP (lget p12.2.1 1)).bind fun p13 =>
 (lenV (lget p12.2.1 0)).bind fun n14 =>
 (L 108 12 [(ptr p13.1 p13.2), (lget p12.2.1 0), (.int .i64 ((n14 : Nat) : Int)), (.int .i64 (0 : Int))] p12.2.2).bind fun p15 =>
 (asP (lget p15.2.1 0)).bind fun p16 =>
 (C 20 [(ptr p16.1 p16.2)] p15.2.2).bind fun p17 =>
 (asS p17.1).bind fun s18 =>
 some ((.string s18), p17.2))

theorem dict_Encode_eq (C : CF) (L : LF) (a : List Value) (h : H) : fnK E C L 108 Tryz.f108 a h = dict_Encode C L a h := by kernel_rfl

noncomputable def dict_Encode_L7 (C : CF) (L : LF) (a : List Value) (h : H) : Option (Nat × List Value × H) :=
 (asI .i64 (lget a 0)).bind fun x1 =>
 (asP (lget a 2)).bind fun p2 =>
 (asI .i64 (lget a 4)).bind fun x3 =>
 (asI .i64 (lget a 5)).bind fun x4 =>
 cond (decide (x4 < x3)) (
 (idx 6 (lget a 3) x4).bind fun p5 =>
 (ldA 6 h p5.1 p5.2).bind fun v6 =>
 let h7 := h.new (.cells [(.bool false), (.bool false), (.int .i64 (0)), (.int .u64 (0)), (.string (bs [])), (.complex .f64 0 0)] 47 true false)
 (stV 6 h7 h.next 0 v6).bind fun h8 =>
 (ldA 6 h8 h.next 0).bind fun v9 =>
 (C 41 [(ptr p2.1 p2.2), (.int .i64 x1), v9] h8).bind fun p10 =>
 L 108 7 [(.int .i64 x1), (lget a 1), (ptr p2.1 p2.2), (lget a 3), (.int .i64 x3), (.int .i64 (IntKind.wrap .i64 (x4 + (1 : Int))))] p10.2) (
 some (0, [(lget a 1), (ptr p2.1 p2.2)], h))

theorem dict_Encode_L7_eq (C : CF) (L : LF) (a : List Value) (h : H) : lpN E C L 108 7 Tryz.f108 a h = dict_Encode_L7 C L a h := by kernel_rfl

noncomputable def dict_Encode_L12 (C : CF) (L : LF) (a : List Value) (h : H) : Option (Nat × List Value × H) :=
 (asP (lget a 0)).bind fun p1 =>
 (asI .i64 (lget a 2)).bind fun x2 =>
 (asI .i64 (lget a 3)).bind fun x3 =>
 cond (decide (x3 < x2)) (
 (idx 1 (lget a 1) x3).bind fun p4 =>
 (ldI .i64 h p4.1 p4.2).bind fun x5 =>
 (C 17 [(ptr p1.1 p1.2), (.int .u64 (IntKind.wrap .u64 x5))] h).bind fun p6 =>
 L 108 12 [(ptr p1.1 p1.2), (lget a 1), (.int .i64 x2), (.int .i64 (IntKind.wrap .i64 (x3 + (1 : Int))))] p6.2) (
 some (0, [(ptr p1.1 p1.2)], h))

theorem dict_Encode_L12_eq (C : CF) (L : LF) (a : List Value) (h : H) : lpN E C L 108 12 Tryz.f108 a h = dict_Encode_L12 C L a h := by kernel_rfl


/-- 123: armarium/dict.read -/
noncomputable def dict_read (C : CF) (L : LF) (a : List Value) (h : H) : Option (Value × H) :=
 (asI .i64 (lget a 1)).bind fun x1 =>
 (asI .i64 (lget a 2)).bind fun x2 =>
 (C 31 [(lget a 0)] h).bind fun p3 =>
 (asI .u64 p3.1).bind fun x4 =>
 (C 29 [(lget a 0)] p3.2).bind fun p5 =>
 (asI .i64 p5.1).bind fun x6 =>
 cond (x6 != (0 : Int)) (
 (C 29 [(lget a 0)] p5.2).bind fun p7 =>
 (asI .i64 p7.1).bind fun x8 =>
 some (.tuple #[(.pointer none), (.int .i64 x8)], p7.2)) (
 cond (decide (x4 > (IntKind.wrap .u64 x2))) (
 some (.tuple #[(.pointer none), (.int .i64 (12 : Int))], p5.2)) (
 (C 128 [(.int .i64 x1)] p5.2).bind fun p9 =>
 (L 123 8 [(lget a 0), (.int .i64 x1), p9.1, (.int .u64 x4), (.int .u64 (0 : Int))] p9.2).bind fun p10 =>
 cond (p10.1 == 0) (
 some (.tuple #[(lget p10.2.1 0), (.int .i64 (0 : Int))], p10.2.2)) (
 (asI .i64 (lget p10.2.1 1)).bind fun x11 =>
 some (.tuple #[(lget p10.2.1 0), (.int .i64 x11)], p10.2.2))))

theorem dict_read_eq (C : CF) (L : LF) (a : List Value) (h : H) : fnK E C L 123 Tryz.f123 a h = dict_read C L a h := by kernel_rfl

noncomputable def dict_read_L8 (C : CF) (L : LF) (a : List Value) (h : H) : Option (Nat × List Value × H) :=
 (asI .i64 (lget a 1)).bind fun x1 =>
 (asI .u64 (lget a 3)).bind fun x2 =>
 (asI .u64 (lget a 4)).bind fun x3 =>
 cond (decide (x3 < x2)) (
 (C 61 [(lget a 0), (.int .i64 x1)] h).bind fun p4 =>
 (tup2 p4.1).bind fun p5 =>
 (asI .i64 p5.2).bind fun x6 =>
 let h7 := p4.2.new (.cells [(.bool false), (.bool false), (.int .i64 (0)), (.int .u64 (0)), (.string (bs [])), (.complex .f64 0 0)] 47 true false)
 (stV 6 h7 p4.2.next 0 p5.1).bind fun h8 =>
 cond (x6 != (0 : Int)) (
 some (1, [(.pointer none), (.int .i64 x6)], h8)) (
 (ldA 6 h8 p4.2.next 0).bind fun v9 =>
 (C 129 [(lget a 2), v9] h8).bind fun p10 =>
 (tup2 p10.1).bind fun p11 =>
 (asI .i64 p11.1).bind fun x12 =>
 (asB p11.2).bind fun b13 =>
 cond (!b13) (
 some (1, [(.pointer none), (.int .i64 (12 : Int))], p10.2)) (
 L 123 8 [(lget a 0), (.int .i64 x1), (lget a 2), (.int .u64 x2), (.int .u64 (IntKind.wrap .u64 (x3 + (1 : Int))))] p10.2))) (
 some (0, [(lget a 2)], h))

theorem dict_read_L8_eq (C : CF) (L : LF) (a : List Value) (h : H) : lpN E C L 123 8 Tryz.f123 a h = dict_read_L8 C L a h := by kernel_rfl


/-- 19: armarium/column.Encode -/
noncomputable def column_Encode (C : CF) (L : LF) (a : List Value) (h : H) : Option (Value × H) :=
 (oneL (lget a 0).cells.toList).bind fun l2 =>
 let h1 := h.new (.cells l2 55 true false)
 (ldA 3 h1 h.next 0).bind fun v3 =>
 (C 42 [v3, (lget a 1)] h1).bind fun p4 =>
 (C 24 [p4.1] p4.2).bind fun p5 =>
 (asI .i64 p5.1).bind fun x6 =>
 cond (x6 != (0 : Int)) (
 some (.tuple #[(.string (bs [])), (.int .i64 x6)], p5.2)) (
 let h7 := p5.2.new (.cells [(.slice none 0 0)] 61 true false)
 (lenV (lget a 1)).bind fun n8 =>
 (C 17 [(ptr p5.2.next 0), (.int .u64 (IntKind.wrap .u64 ((n8 : Nat) : Int)))] h7).bind fun p9 =>
 let j16 : Value → Nat → Nat → Nat → Nat → H → Option (Value × H) := fun (v10 : Value) (q11 : Nat) (q12 : Nat) (q13 : Nat) (q14 : Nat) (h15 : H) =>
 (ldI .i64 h15 q11 (q12 + 1)).bind fun x17 =>
 (C 46 [v10] h15).bind fun p18 =>
 (((ldI .i64 p18.2 q11 (q12 + 1)).bind fun x20 =>
 some (veq (.int .i64 x17) (.int .i64 x20))) : Option Bool).bind fun b19 =>
 cond b19 (
 (C 45 [(.int .i64 x17), p18.1] p18.2).bind fun p21 =>
 (tup2 p21.1).bind fun p22 =>
 (asI .i64 p22.1).bind fun x23 =>
 (asS p22.2).bind fun s24 =>
 (C 39 [(ptr q13 q14), (.int .u8 (IntKind.wrap .u8 x23))] p21.2).bind fun p25 =>
 (C 38 [(ptr q13 q14), (.string s24)] p25.2).bind fun p26 =>
 (C 20 [(ptr q13 q14)] p26.2).bind fun p27 =>
 (asS p27.1).bind fun s28 =>
 some (.tuple #[(.string s28), (.int .i64 (0 : Int))], p27.2)) none
 (ldB p9.2 h.next (0 + 2)).bind fun b29 =>
 cond b29 (
 (C 44 [(lget a 1)] p9.2).bind fun p30 =>
 (C 43 [p30.1] p30.2).bind fun p31 =>
 (asS p31.1).bind fun s32 =>
 (C 38 [(ptr p5.2.next 0), (.string s32)] p31.2).bind fun p33 =>
 j16 (lget a 1) h.next 0 p5.2.next 0 p33.2) (
 j16 (lget a 1) h.next 0 p5.2.next 0 p9.2))

theorem column_Encode_eq (C : CF) (L : LF) (a : List Value) (h : H) : fnK E C L 19 Tryz.f19 a h = column_Encode C L a h := by kernel_rfl


/-- 68: armarium/column.all -/
noncomputable def column_all (C : CF) (L : LF) (a : List Value) (h : H) : Option (Value × H) :=
 (asI .i64 (lget a 0)).bind fun x1 =>
 let h2 := h.new (.cells [(.string (bs [])), (.string (bs [])), (.string (bs [])), (.string (bs [])), (.string (bs []))] 127 true false)
 let h3 := h2.new (.cells [(.bool false), (.bool false), (.bool false), (.bool false), (.bool false)] 128 true false)
 let h4 := h3.new (.cells [(.string (bs [])), (.string (bs [])), (.string (bs [])), (.string (bs [])), (.string (bs []))] 127 true false)
 let h5 := h4.new (.cells [(.bool false), (.bool false), (.bool false), (.bool false), (.bool false)] 128 true false)
 ((cond (decide (x1 < (1 : Int)))
 (some (true, h5))
 (some ((decide (x1 > (6 : Int))), h5))) : Option (Bool × H)).bind fun p6 =>
 cond p6.1 (
 (ldA 5 p6.2 h3.next 0).bind fun v7 =>
 (ldA 5 p6.2 h4.next 0).bind fun v8 =>
 (stV 5 p6.2 h.next 0 v7).bind fun h9 =>
 (((ldA 5 h9 h4.next 0).bind fun v11 =>
 some (veq v8 v11)) : Option Bool).bind fun b10 =>
 cond b10 (
 (stV 5 h9 h2.next 0 v8).bind fun h12 =>
 (ldA 5 h12 h.next 0).bind fun v13 =>
 (ldA 5 h12 h2.next 0).bind fun v14 =>
 some (.tuple #[v13, v14], h12)) none) (
 (C 90 [] p6.2).bind fun p15 =>
 (L 68 6 [(.int .i64 x1), (lget a 1), (ptr h.next 0), (ptr h2.next 0), (ptr h3.next 0), (ptr h4.next 0), p15.1, (.int .i64 (0 : Int))] p15.2).bind fun p16 =>
 (asP (lget p16.2.1 0)).bind fun p17 =>
 (asP (lget p16.2.1 1)).bind fun p18 =>
 (asP (lget p16.2.1 2)).bind fun p19 =>
 (asP (lget p16.2.1 3)).bind fun p20 =>
 (ldA 5 p16.2.2 p19.1 p19.2).bind fun v21 =>
 (ldA 5 p16.2.2 p20.1 p20.2).bind fun v22 =>
 (stV 5 p16.2.2 p17.1 p17.2 v21).bind fun h23 =>
 (((ldA 5 h23 p20.1 p20.2).bind fun v25 =>
 some (veq v22 v25)) : Option Bool).bind fun b24 =>
 cond b24 (
 (stV 5 h23 p18.1 p18.2 v22).bind fun h26 =>
 (ldA 5 h26 p17.1 p17.2).bind fun v27 =>
 (ldA 5 h26 p18.1 p18.2).bind fun v28 =>
 some (.tuple #[v27, v28], h26)) none)

theorem column_all_eq (C : CF) (L : LF) (a : List Value) (h : H) : fnK E C L 68 Tryz.f68 a h = column_all C L a h := by kernel_rfl

noncomputable def column_all_L6 (C : CF) (L : LF) (a : List Value) (h : H) : Option (Nat × List Value × H) :=
 (asI .i64 (lget a 0)).bind fun x1 =>
 (asP (lget a 2)).bind fun p2 =>
 (asP (lget a 3)).bind fun p3 =>
 (asP (lget a 4)).bind fun p4 =>
 (asP (lget a 5)).bind fun p5 =>
 (asI .i64 (lget a 7)).bind fun x6 =>
 cond (decide (x6 < (5 : Int))) (
 let j20 : Int → Value → Nat → Nat → Nat → Nat → Nat → Nat → Nat → Nat → Value → Int → H → Option (Nat × List Value × H) := fun (x7 : Int) (v8 : Value) (q9 : Nat) (q10 : Nat) (q11 : Nat) (q12 : Nat) (q13 : Nat) (q14 : Nat) (q15 : Nat) (q16 : Nat) (v17 : Value) (x18 : Int) (h19 : H) =>
 L 68 6 [(.int .i64 x7), v8, (ptr q9 q10), (ptr q11 q12), (ptr q13 q14), (ptr q15 q16), v17, (.int .i64 (IntKind.wrap .i64 (x18 + (1 : Int))))] h19
 cond (decide (0 ≤ x6) && decide (x6 < ((5 : Nat) : Int))) (
 (partV true ((Int.toNat x6) * 2) 2 (lget a 6)).bind fun v21 =>
 let h22 := h.new (.cells [.nilFunc, .nilFunc] 147 true false)
 (stV 2 h22 h.next 0 v21).bind fun h23 =>
 cond (decide (x6 < (1 : Int))) (
 j20 x1 (lget a 1) p2.1 p2.2 p3.1 p3.2 p4.1 p4.2 p5.1 p5.2 (lget a 6) x6 h23) (
 (ldV h23 h.next (0 + 0)).bind fun v24 =>
 (callV C L v24 [(.int .i64 x1), (lget a 1)] h23).bind fun p25 =>
 (tup2 p25.1).bind fun p26 =>
 (asS p26.1).bind fun s27 =>
 (asI .i64 p26.2).bind fun x28 =>
 cond (decide (0 ≤ x6) && decide (x6 < ((5 : Nat) : Int))) (
 (stV 1 p25.2 p4.1 (p4.2 + (Int.toNat x6) * 1) (.string s27)).bind fun h29 =>
 cond (decide (0 ≤ x6) && decide (x6 < ((5 : Nat) : Int))) (
 (stV 1 h29 p5.1 (p5.2 + (Int.toNat x6) * 1) (.bool (x28 == (0 : Int)))).bind fun h30 =>
 j20 x1 (lget a 1) p2.1 p2.2 p3.1 p3.2 p4.1 p4.2 p5.1 p5.2 (lget a 6) x6 h30) none) none)) none) (
 some (0, [(ptr p2.1 p2.2), (ptr p3.1 p3.2), (ptr p4.1 p4.2), (ptr p5.1 p5.2)], h))

theorem column_all_L6_eq (C : CF) (L : LF) (a : List Value) (h : H) : lpN E C L 68 6 Tryz.f68 a h = column_all_L6 C L a h := by kernel_rfl


/-- 18: armarium/diff.edit -/
noncomputable def diff_edit (C : CF) (L : LF) (a : List Value) (h : H) : Option (Value × H) :=
 (asI .i64 (lget a 1)).bind fun x1 =>
 (asI .i64 (lget a 2)).bind fun x2 =>
 (oneL (lget a 3).cells.toList).bind fun l4 =>
 let h3 := h.new (.cells l4 47 true false)
 (C 17 [(lget a 0), (.int .u64 (IntKind.wrap .u64 x2))] h3).bind fun p5 =>
 (ldB p5.2 h.next (0 + 0)).bind fun b6 =>
 cond b6 (
 (C 39 [(lget a 0), (.int .u8 (1 : Int))] p5.2).bind fun p7 =>
 some (junk, p7.2)) (
 (C 39 [(lget a 0), (.int .u8 (0 : Int))] p5.2).bind fun p8 =>
 (ldA 6 p8.2 h.next 0).bind fun v9 =>
 (C 41 [(lget a 0), (.int .i64 x1), v9] p8.2).bind fun p10 =>
 some (junk, p10.2))

theorem diff_edit_eq (C : CF) (L : LF) (a : List Value) (h : H) : fnK E C L 18 Tryz.f18 a h = diff_edit C L a h := by kernel_rfl


/-- 7: armarium/armariumlaw21.check -/
noncomputable def armariumlaw21_check (C : CF) (L : LF) (a : List Value) (h : H) : Option (Value × H) :=
 (oneL (lget a 0).cells.toList).bind fun l2 =>
 let h1 := h.new (.cells l2 26 true false)
 (ldV h1 h.next (0 + 0)).bind fun v3 =>
 (C 21 [v3] h1).bind fun p4 =>
 (asB p4.1).bind fun b5 =>
 ((cond (!b5)
 (some (true, p4.2))
 ((ldV p4.2 h.next (0 + 2)).bind fun v6 =>
 (C 21 [v6] p4.2).bind fun p7 =>
 (asB p7.1).bind fun b8 =>
 some ((!b8), p7.2))) : Option (Bool × H)).bind fun p9 =>
 cond p9.1 (
 some ((.int .i64 (30 : Int)), p9.2)) (
 (ldI .i64 p9.2 h.next (0 + 1)).bind fun x10 =>
 ((cond (decide (x10 > (10000 : Int)))
 (some (true, p9.2))
 ((ldI .i64 p9.2 h.next (0 + 3)).bind fun x11 =>
 some ((decide (x11 > (10000 : Int))), p9.2))) : Option (Bool × H)).bind fun p12 =>
 cond p12.1 (
 some ((.int .i64 (31 : Int)), p12.2)) (
 (ldI .i64 p12.2 h.next (0 + 1)).bind fun x13 =>
 ((cond (decide (x13 < (0 : Int)))
 (some (true, p12.2))
 ((ldI .i64 p12.2 h.next (0 + 3)).bind fun x14 =>
 some ((decide (x14 < (0 : Int))), p12.2))) : Option (Bool × H)).bind fun p15 =>
 ((cond p15.1
 (some (true, p15.2))
 ((ldV p15.2 h.next (0 + 4)).bind fun v16 =>
 (lenV v16).bind fun n17 =>
 (ldV p15.2 h.next (0 + 2)).bind fun v18 =>
 (lenV v18).bind fun n19 =>
 some ((((n17 : Nat) : Int) != ((n19 : Nat) : Int)), p15.2))) : Option (Bool × H)).bind fun p20 =>
 cond p20.1 (
 some ((.int .i64 (1 : Int)), p20.2)) (
 (L 7 8 [(ptr h.next 0), (.int .i64 (0 : Int))] p20.2).bind fun p21 =>
 cond (p21.1 == 0) (
 some ((.int .i64 (0 : Int)), p21.2.2)) (
 (asI .i64 (lget p21.2.1 0)).bind fun x22 =>
 some ((.int .i64 x22), p21.2.2)))))

theorem armariumlaw21_check_eq (C : CF) (L : LF) (a : List Value) (h : H) : fnK E C L 7 Tryz.f7 a h = armariumlaw21_check C L a h := by kernel_rfl

noncomputable def armariumlaw21_check_L8 (C : CF) (L : LF) (a : List Value) (h : H) : Option (Nat × List Value × H) :=
 (asP (lget a 0)).bind fun p1 =>
 (asI .i64 (lget a 1)).bind fun x2 =>
 (ldV h p1.1 (p1.2 + 4)).bind fun v3 =>
 (lenV v3).bind fun n4 =>
 cond (decide (x2 < ((n4 : Nat) : Int))) (
 (ldV h p1.1 (p1.2 + 0)).bind fun v5 =>
 (ldV h p1.1 (p1.2 + 2)).bind fun v6 =>
 (idx 3 v6 x2).bind fun p7 =>
 (ldA 3 h p7.1 p7.2).bind fun v8 =>
 (ldI .i64 h p1.1 (p1.2 + 1)).bind fun x9 =>
 (ldI .i64 h p1.1 (p1.2 + 3)).bind fun x10 =>
 (ldV h p1.1 (p1.2 + 4)).bind fun v11 =>
 (idx 3 v11 x2).bind fun p12 =>
 (ldB h p12.1 (p12.2 + 0)).bind fun b13 =>
 (ldV h p1.1 (p1.2 + 4)).bind fun v14 =>
 (idx 3 v14 x2).bind fun p15 =>
 (ldV h p15.1 (p15.2 + 1)).bind fun v16 =>
 (C 23 [v16] h).bind fun p17 =>
 (((ldB p17.2 p12.1 (p12.2 + 0)).bind fun b19 =>
 some (veq (.bool b13) (.bool b19))) : Option Bool).bind fun b18 =>
 cond b18 (
 (((ldV p17.2 p1.1 (p1.2 + 4)).bind fun v21 =>
 some (veq v11 v21)) : Option Bool).bind fun b20 =>
 cond b20 (
 (((ldI .i64 p17.2 p1.1 (p1.2 + 3)).bind fun x23 =>
 some (veq (.int .i64 x10) (.int .i64 x23))) : Option Bool).bind fun b22 =>
 cond b22 (
 (((ldI .i64 p17.2 p1.1 (p1.2 + 1)).bind fun x25 =>
 some (veq (.int .i64 x9) (.int .i64 x25))) : Option Bool).bind fun b24 =>
 cond b24 (
 (((ldA 3 p17.2 p7.1 p7.2).bind fun v27 =>
 some (veq v8 v27)) : Option Bool).bind fun b26 =>
 cond b26 (
 (((ldV p17.2 p1.1 (p1.2 + 2)).bind fun v29 =>
 some (veq v6 v29)) : Option Bool).bind fun b28 =>
 cond b28 (
 (((ldV p17.2 p1.1 (p1.2 + 0)).bind fun v31 =>
 some (veq v5 v31)) : Option Bool).bind fun b30 =>
 cond b30 (
 (ldV p17.2 p1.1 (p1.2 + 4)).bind fun v32 =>
 (((ldV h p1.1 (p1.2 + 4)).bind fun v34 =>
 some (veq v32 v34)) : Option Bool).bind fun b33 =>
 cond b33 (
 (idx 3 v32 x2).bind fun p35 =>
 (ldV p17.2 p35.1 (p35.2 + 2)).bind fun v36 =>
 (((ldV h p35.1 (p35.2 + 2)).bind fun v38 =>
 some (veq v36 v38)) : Option Bool).bind fun b37 =>
 cond b37 (
 (C 22 [v5, v8, (.int .i64 x9), (.int .i64 x10), (.bool b13), p17.1, v36] p17.2).bind fun p39 =>
 (asB p39.1).bind fun b40 =>
 cond (!b40) (
 some (1, [(.int .i64 (1 : Int))], p39.2)) (
 L 7 8 [(ptr p1.1 p1.2), (.int .i64 (IntKind.wrap .i64 (x2 + (1 : Int))))] p39.2)) none) none) none) none) none) none) none) none) none) (
 some (0, [], h))

theorem armariumlaw21_check_L8_eq (C : CF) (L : LF) (a : List Value) (h : H) : lpN E C L 7 8 Tryz.f7 a h = armariumlaw21_check_L8 C L a h := by kernel_rfl


/-- 70: armarium/armariumref06.whole -/
noncomputable def armariumref06_whole (C : CF) (L : LF) (a : List Value) (h : H) : Option (Value × H) :=
 (fop .geq (lget a 0) (.float .f64 14069245235905429504)).bind fun v1 =>
 (asB v1).bind fun b2 =>
 ((cond b2
 ((fop .leq (lget a 0) (.float .f64 4845873199050653696)).bind fun v3 =>
 (asB v3).bind fun b4 =>
 some (b4, h))
 (some (false, h))) : Option (Bool × H)).bind fun p5 =>
 ((cond p5.1
 ((f2i .i64 (lget a 0)).bind fun x6 =>
 (fop .eql (.float .f64 (FloatKind.f64.nearest x6)) (lget a 0)).bind fun v7 =>
 (asB v7).bind fun b8 =>
 some (b8, p5.2))
 (some (false, p5.2))) : Option (Bool × H)).bind fun p9 =>
 some ((.bool p9.1), p9.2)

theorem armariumref06_whole_eq (C : CF) (L : LF) (a : List Value) (h : H) : fnK E C L 70 Tryz.f70 a h = armariumref06_whole C L a h := by kernel_rfl

end Go.Arm
namespace Go.Arm
open Go.Proofs
set_option maxRecDepth 100000
/-- 9: armarium/armariumlaw21.one -/
noncomputable def armariumlaw21_one (C : CF) (L : LF) (a : List Value) (h : H) : Option (Value × H) :=
 let h1 := h.new (.cells [(.slice none 0 0), (.slice none 0 0)] 37 true false)
 (bldT E 55 [(0, (.string (bs [97]))), (1, (.int .i64 (2 : Int)))]).bind fun v2 =>
 (bldS E 23 1 [(0, v2)]).bind fun l3 =>
 let h4 := h1.new (.cells l3 55 true false)
 (bldS E 35 1 [(0, (.slice none 0 0))]).bind fun l5 =>
 let h6 := h4.new (.cells l5 41 true false)
 (bldT E 37 [(0, (.slice (some ⟨h1.next, 0, none⟩) 1 1)), (1, (.slice (some ⟨h4.next, 0, none⟩) 1 1))]).bind fun v7 =>
 let h8 := h6.new (.cells [(.slice none 0 0), (.slice none 0 0)] 37 true false)
 (stV 2 h8 h6.next 0 v7).bind fun h9 =>
 (L 9 3 [(lget a 0), (ptr h.next 0), (ptr h6.next 0), (.int .i64 (0 : Int))] h9).bind fun p10 =>
 (asP (lget p10.2.1 0)).bind fun p11 =>
 (asP (lget p10.2.1 1)).bind fun p12 =>
 (ldA 2 p10.2.2 p12.1 p12.2).bind fun v13 =>
 (stV 2 p10.2.2 p11.1 p11.2 v13).bind fun h14 =>
 (ldA 2 h14 p11.1 p11.2).bind fun v15 =>
 some (v15, h14)

theorem armariumlaw21_one_eq (C : CF) (L : LF) (a : List Value) (h : H) : fnK E C L 9 Tryz.f9 a h = armariumlaw21_one C L a h := by kernel_rfl

noncomputable def armariumlaw21_one_L3 (C : CF) (L : LF) (a : List Value) (h : H) : Option (Nat × List Value × H) :=
 (asP (lget a 1)).bind fun p1 =>
 (asP (lget a 2)).bind fun p2 =>
 (asI .i64 (lget a 3)).bind fun x3 =>
 (lenV (lget a 0)).bind fun n4 =>
 cond (decide (x3 < ((n4 : Nat) : Int))) (
 let h5 := holes 1 h
 (ldV h5 p2.1 (p2.2 + 1)).bind fun v6 =>
 (ldV h5 p2.1 (p2.2 + 1)).bind fun v7 =>
 (idx 1 v7 (0 : Int)).bind fun p8 =>
 (ldV h5 p8.1 p8.2).bind fun v9 =>
 (idx 1 (lget a 0) x3).bind fun p10 =>
 (ldI .i64 h5 p10.1 p10.2).bind fun x11 =>
 (bldT E 47 [(2, (.int .i64 x11))]).bind fun v12 =>
 (bldS E 41 1 [(0, v12)]).bind fun l13 =>
 (appA 6 56 47 (h5.put (h.next + 0) (some (.cells l13 47 true false))) v9 (.slice (some ⟨(h.next + 0), 0, none⟩) 1 1)).bind fun p14 =>
 (((ldV p14.2 p2.1 (p2.2 + 1)).bind fun v16 =>
 some (veq v6 v16)) : Option Bool).bind fun b15 =>
 cond b15 (
 (idx 1 v6 (0 : Int)).bind fun p17 =>
 (stV 1 p14.2 p17.1 p17.2 p14.1).bind fun h18 =>
 L 9 3 [(lget a 0), (ptr p1.1 p1.2), (ptr p2.1 p2.2), (.int .i64 (IntKind.wrap .i64 (x3 + (1 : Int))))] h18) none) (
 some (0, [(ptr p1.1 p1.2), (ptr p2.1 p2.2)], h))

theorem armariumlaw21_one_L3_eq (C : CF) (L : LF) (a : List Value) (h : H) : lpN E C L 9 3 Tryz.f9 a h = armariumlaw21_one_L3 C L a h := by kernel_rfl


/-- 24: armarium/schema.Check -/
noncomputable def schema_Check (C : CF) (L : LF) (a : List Value) (h : H) : Option (Value × H) :=
 (oneL (lget a 0).cells.toList).bind fun l2 =>
 let h1 := h.new (.cells l2 37 true false)
 (ldV h1 h.next (0 + 0)).bind fun v3 =>
 (C 35 [v3] h1).bind fun p4 =>
 (asI .i64 p4.1).bind fun x5 =>
 ((cond (x5 != (0 : Int))
 (some (true, p4.2))
 ((ldV p4.2 h.next (0 + 1)).bind fun v6 =>
 (lenV v6).bind fun n7 =>
 (ldV p4.2 h.next (0 + 0)).bind fun v8 =>
 (lenV v8).bind fun n9 =>
 some ((((n7 : Nat) : Int) != ((n9 : Nat) : Int)), p4.2))) : Option (Bool × H)).bind fun p10 =>
 cond p10.1 (
 some ((.int .i64 (30 : Int)), p10.2)) (
 (ldA 2 p10.2 h.next 0).bind fun v11 =>
 (C 26 [v11] p10.2).bind fun p12 =>
 (asI .i64 p12.1).bind fun x13 =>
 (C 50 [] p12.2).bind fun p14 =>
 let h15 := p14.2.new (.cells [.nilFunc, .nilFunc, .nilFunc, .nilFunc, .nilFunc, .nilFunc, .nilFunc, .nilFunc, .nilFunc, .nilFunc, .nilFunc, .nilFunc, .nilFunc, .nilFunc, .nilFunc, .nilFunc, .nilFunc, .nilFunc, .nilFunc, .nilFunc, .nilFunc] 111 true false)
 (stV 21 h15 p14.2.next 0 p14.1).bind fun h16 =>
 (ldV h16 h.next (0 + 1)).bind fun v17 =>
 (lenV v17).bind fun n18 =>
 (L 24 5 [(ptr h.next 0), (.int .i64 x13), (.bool false), (ptr p14.2.next 0), v17, (.int .i64 ((n18 : Nat) : Int)), (.int .i64 (0 : Int))] h16).bind fun p19 =>
 cond (p19.1 == 0) (
 (asI .i64 (lget p19.2.1 0)).bind fun x20 =>
 (asB (lget p19.2.1 1)).bind fun b21 =>
 ((cond b21
 (some (true, p19.2.2))
 (some ((decide (x20 > (10000 : Int))), p19.2.2))) : Option (Bool × H)).bind fun p22 =>
 cond p22.1 (
 some ((.int .i64 (31 : Int)), p22.2)) (
 some ((.int .i64 (0 : Int)), p22.2))) (
 (asI .i64 (lget p19.2.1 0)).bind fun x23 =>
 some ((.int .i64 x23), p19.2.2)))

theorem schema_Check_eq (C : CF) (L : LF) (a : List Value) (h : H) : fnK E C L 24 Tryz.f24 a h = schema_Check C L a h := by kernel_rfl

noncomputable def schema_Check_L5 (C : CF) (L : LF) (a : List Value) (h : H) : Option (Nat × List Value × H) :=
 (asP (lget a 0)).bind fun p1 =>
 (asI .i64 (lget a 1)).bind fun x2 =>
 (asB (lget a 2)).bind fun b3 =>
 (asP (lget a 3)).bind fun p4 =>
 (asI .i64 (lget a 5)).bind fun x5 =>
 (asI .i64 (lget a 6)).bind fun x6 =>
 cond (decide (x6 < x5)) (
 (idx 1 (lget a 4) x6).bind fun p7 =>
 (ldV h p7.1 p7.2).bind fun v8 =>
 (lenV v8).bind fun n9 =>
 cond (((n9 : Nat) : Int) != x2) (
 some (1, [(.int .i64 (30 : Int))], h)) (
 (lenV v8).bind fun n10 =>
 (L 24 11 [(ptr p1.1 p1.2), (.int .i64 x2), (.bool b3), (ptr p4.1 p4.2), (.int .i64 x6), (.int .i64 (0 : Int)), (lget a 4), (.int .i64 x5), (.int .i64 x6), v8, (.int .i64 ((n10 : Nat) : Int)), (.int .i64 (0 : Int))] h).bind fun p11 =>
 cond (p11.1 == 0) (
 (asP (lget p11.2.1 0)).bind fun p12 =>
 (asI .i64 (lget p11.2.1 1)).bind fun x13 =>
 (asB (lget p11.2.1 2)).bind fun b14 =>
 (asP (lget p11.2.1 3)).bind fun p15 =>
 (asI .i64 (lget p11.2.1 4)).bind fun x16 =>
 (asI .i64 (lget p11.2.1 6)).bind fun x17 =>
 (asI .i64 (lget p11.2.1 7)).bind fun x18 =>
 ((cond b14
 (some (true, p11.2.2))
 (some ((decide (x16 > (1048576 : Int))), p11.2.2))) : Option (Bool × H)).bind fun p19 =>
 L 24 5 [(ptr p12.1 p12.2), (.int .i64 x13), (.bool p19.1), (ptr p15.1 p15.2), (lget p11.2.1 5), (.int .i64 x17), (.int .i64 (IntKind.wrap .i64 (x18 + (1 : Int))))] p19.2) (
 (asI .i64 (lget p11.2.1 0)).bind fun x20 =>
 some (1, [(.int .i64 x20)], p11.2.2)))) (
 some (0, [(.int .i64 x2), (.bool b3)], h))

theorem schema_Check_L5_eq (C : CF) (L : LF) (a : List Value) (h : H) : lpN E C L 24 5 Tryz.f24 a h = schema_Check_L5 C L a h := by kernel_rfl

noncomputable def schema_Check_L11 (C : CF) (L : LF) (a : List Value) (h : H) : Option (Nat × List Value × H) :=
 (asP (lget a 0)).bind fun p1 =>
 (asI .i64 (lget a 1)).bind fun x2 =>
 (asB (lget a 2)).bind fun b3 =>
 (asP (lget a 3)).bind fun p4 =>
 (asI .i64 (lget a 4)).bind fun x5 =>
 (asI .i64 (lget a 5)).bind fun x6 =>
 (asI .i64 (lget a 7)).bind fun x7 =>
 (asI .i64 (lget a 8)).bind fun x8 =>
 (asI .i64 (lget a 10)).bind fun x9 =>
 (asI .i64 (lget a 11)).bind fun x10 =>
 cond (decide (x10 < x9)) (
 (idx 6 (lget a 9) x10).bind fun p11 =>
 (ldA 6 h p11.1 p11.2).bind fun v12 =>
 let h13 := h.new (.cells [(.bool false), (.bool false), (.int .i64 (0)), (.int .u64 (0)), (.string (bs [])), (.complex .f64 0 0)] 47 true false)
 (stV 6 h13 h.next 0 v12).bind fun h14 =>
 (ldV h14 p1.1 (p1.2 + 0)).bind fun v15 =>
 (idx 3 v15 x5).bind fun p16 =>
 (ldA 3 h14 p16.1 p16.2).bind fun v17 =>
 (ldV h14 p1.1 (p1.2 + 0)).bind fun v18 =>
 (idx 3 v18 x5).bind fun p19 =>
 (ldI .i64 h14 p19.1 (p19.2 + 1)).bind fun x20 =>
 cond (decide (0 ≤ x20) && decide (x20 < ((7 : Nat) : Int))) (
 (ldA 3 h14 p4.1 (p4.2 + (Int.toNat x20) * 3)).bind fun v21 =>
 (ldA 6 h14 h.next 0).bind fun v22 =>
 (C 51 [v17, v21, v22] h14).bind fun p23 =>
 (asB p23.1).bind fun b24 =>
 cond (!b24) (
 some (1, [(.int .i64 (30 : Int))], p23.2)) (
 (ldA 6 p23.2 h.next 0).bind fun v25 =>
 (C 52 [v25] p23.2).bind fun p26 =>
 (asI .i64 p26.1).bind fun x27 =>
 L 24 11 [(ptr p1.1 p1.2), (.int .i64 x2), (.bool b3), (ptr p4.1 p4.2), (.int .i64 x5), (.int .i64 (IntKind.wrap .i64 (x6 + x27))), (lget a 6), (.int .i64 x7), (.int .i64 x8), (lget a 9), (.int .i64 x9), (.int .i64 (IntKind.wrap .i64 (x10 + (1 : Int))))] p26.2)) none) (
 some (0, [(ptr p1.1 p1.2), (.int .i64 x2), (.bool b3), (ptr p4.1 p4.2), (.int .i64 x6), (lget a 6), (.int .i64 x7), (.int .i64 x8)], h))

theorem schema_Check_L11_eq (C : CF) (L : LF) (a : List Value) (h : H) : lpN E C L 24 11 Tryz.f24 a h = schema_Check_L11 C L a h := by kernel_rfl


/-- 83: armarium/schema.kinds$9 -/
noncomputable def schema_kinds_9 (C : CF) (L : LF) (a : List Value) (h : H) : Option (Value × H) :=
 (oneL (lget a 0).cells.toList).bind fun l2 =>
 let h1 := h.new (.cells l2 47 true false)
 let h3 := h1.new (.cells [(.bool false), (.bool false), (.int .i64 (0)), (.int .u64 (0)), (.string (bs [])), (.complex .f64 0 0)] 47 true false)
 (stV 1 h3 h.next (0 + 5) (.complex .f64 0 0)).bind fun h4 =>
 (ldA 6 h4 h.next 0).bind fun v5 =>
 (stV 6 h4 h1.next 0 v5).bind fun h6 =>
 (ldA 6 h6 h1.next 0).bind fun v7 =>
 some (v7, h6)

theorem schema_kinds_9_eq (C : CF) (L : LF) (a : List Value) (h : H) : fnK E C L 83 Tryz.f83 a h = schema_kinds_9 C L a h := by kernel_rfl


/-- 25: slices.Clone[[]armarium/api.Column,armarium/api.Column] -/
noncomputable def slices_Clone___api_Column_api_Column_ (C : CF) (L : LF) (a : List Value) (h : H) : Option (Value × H) :=
 (nilT 1 (lget a 0)).bind fun b1 =>
 cond b1 (
 some ((.slice none 0 0), h)) (
 (bldS E 23 0 []).bind fun l2 =>
 let h3 := h.new (.cells l2 55 true false)
 (appA 3 32 55 h3 (.slice (some ⟨h.next, 0, none⟩) 0 0) (lget a 0)).bind fun p4 =>
 some (p4.1, p4.2))

theorem slices_Clone___api_Column_api_Column__eq (C : CF) (L : LF) (a : List Value) (h : H) : fnK E C L 25 Tryz.f25 a h = slices_Clone___api_Column_api_Column_ C L a h := by kernel_rfl


/-- 54: slices.Clone[[]armarium/api.Cell,armarium/api.Cell] -/
noncomputable def slices_Clone___api_Cell_api_Cell_ (C : CF) (L : LF) (a : List Value) (h : H) : Option (Value × H) :=
 (nilT 1 (lget a 0)).bind fun b1 =>
 cond b1 (
 some ((.slice none 0 0), h)) (
 (bldS E 41 0 []).bind fun l2 =>
 let h3 := h.new (.cells l2 47 true false)
 (appA 6 56 47 h3 (.slice (some ⟨h.next, 0, none⟩) 0 0) (lget a 0)).bind fun p4 =>
 some (p4.1, p4.2))

theorem slices_Clone___api_Cell_api_Cell__eq (C : CF) (L : LF) (a : List Value) (h : H) : fnK E C L 54 Tryz.f54 a h = slices_Clone___api_Cell_api_Cell_ C L a h := by kernel_rfl


/-- 85: armarium/schema.Equal -/
noncomputable def schema_Equal (C : CF) (L : LF) (a : List Value) (h : H) : Option (Value × H) :=
 (asI .i64 (lget a 0)).bind fun x1 =>
 (oneL (lget a 1).cells.toList).bind fun l3 =>
 let h2 := h.new (.cells l3 47 true false)
 (oneL (lget a 2).cells.toList).bind fun l5 =>
 let h4 := h2.new (.cells l5 47 true false)
 (ldB h4 h.next (0 + 0)).bind fun b6 =>
 ((cond b6
 (some (true, h4))
 ((ldB h4 h2.next (0 + 0)).bind fun b7 =>
 some (b7, h4))) : Option (Bool × H)).bind fun p8 =>
 cond p8.1 (
 (ldB p8.2 h.next (0 + 0)).bind fun b9 =>
 ((cond b9
 ((ldB p8.2 h2.next (0 + 0)).bind fun b10 =>
 some (b10, p8.2))
 (some (false, p8.2))) : Option (Bool × H)).bind fun p11 =>
 some ((.bool p11.1), p11.2)) (
 (C 63 [(.int .i64 x1)] p8.2).bind fun p12 =>
 (asB p12.1).bind fun b13 =>
 cond (!b13) (
 some ((.bool false), p12.2)) (
 (C 50 [] p12.2).bind fun p14 =>
 cond (decide (0 ≤ x1) && decide (x1 < ((7 : Nat) : Int))) (
 (partV true ((Int.toNat x1) * 3) 3 p14.1).bind fun v15 =>
 (partV false 2 1 v15).bind fun v16 =>
 (ldA 6 p14.2 h.next 0).bind fun v17 =>
 (((ldA 6 p12.2 h.next 0).bind fun v19 =>
 some (veq v17 v19)) : Option Bool).bind fun b18 =>
 cond b18 (
 (ldA 6 p14.2 h2.next 0).bind fun v20 =>
 (((ldA 6 p12.2 h2.next 0).bind fun v22 =>
 some (veq v20 v22)) : Option Bool).bind fun b21 =>
 cond b21 (
 (callV C L v16 [v17, v20] p14.2).bind fun p23 =>
 (asB p23.1).bind fun b24 =>
 some ((.bool b24), p23.2)) none) none) none))

theorem schema_Equal_eq (C : CF) (L : LF) (a : List Value) (h : H) : fnK E C L 85 Tryz.f85 a h = schema_Equal C L a h := by kernel_rfl


/-- 10: armarium/wire.Read -/
noncomputable def wire_Read (C : CF) (L : LF) (a : List Value) (h : H) : Option (Value × H) :=
 (asS (lget a 0)).bind fun s1 =>
 (bldT E 79 [(0, (.string s1))]).bind fun v2 =>
 (oneL v2.cells.toList).bind fun l4 =>
 let h3 := h.new (.cells l4 79 true false)
 some ((ptr h.next 0), h3)

theorem wire_Read_eq (C : CF) (L : LF) (a : List Value) (h : H) : fnK E C L 10 Tryz.f10 a h = wire_Read C L a h := by kernel_rfl


/-- 28: (*armarium/wire.Reader).Text -/
noncomputable def __wire_Reader__Text (C : CF) (L : LF) (a : List Value) (h : H) : Option (Value × H) :=
 (asI .i64 (lget a 1)).bind fun x1 =>
 (C 57 [(lget a 0)] h).bind fun p2 =>
 (asI .i64 p2.1).bind fun x3 =>
 (C 31 [(lget a 0)] p2.2).bind fun p4 =>
 (asI .u64 p4.1).bind fun x5 =>
 (C 29 [(lget a 0)] p4.2).bind fun p6 =>
 (asI .i64 p6.1).bind fun x7 =>
 cond (x7 != (0 : Int)) (
 some ((.string (bs [])), p6.2)) (
 ((cond (decide (x1 < (0 : Int)))
 (some (true, p6.2))
 (some ((decide (x5 > (IntKind.wrap .u64 x1))), p6.2))) : Option (Bool × H)).bind fun p8 =>
 cond p8.1 (
 (C 58 [(lget a 0), (.int .i64 (12 : Int)), (.int .i64 x3)] p8.2).bind fun p9 =>
 some ((.string (bs [])), p9.2)) (
 (C 37 [(lget a 0)] p8.2).bind fun p10 =>
 (asI .i64 p10.1).bind fun x11 =>
 cond (decide (x5 > (IntKind.wrap .u64 x11))) (
 (C 58 [(lget a 0), (.int .i64 (10 : Int)), (.int .i64 x3)] p10.2).bind fun p12 =>
 some ((.string (bs [])), p12.2)) (
 (C 59 [(lget a 0), (.int .i64 (IntKind.wrap .i64 x5))] p10.2).bind fun p13 =>
 (asS p13.1).bind fun s14 =>
 some ((.string s14), p13.2))))

theorem __wire_Reader__Text_eq (C : CF) (L : LF) (a : List Value) (h : H) : fnK E C L 28 Tryz.f28 a h = __wire_Reader__Text C L a h := by kernel_rfl


/-- 86: (*armarium/wire.Reader).fixed -/
noncomputable def __wire_Reader__fixed (C : CF) (L : LF) (a : List Value) (h : H) : Option (Value × H) :=
 (asI .i64 (lget a 1)).bind fun x1 =>
 (C 59 [(lget a 0), (.int .i64 x1)] h).bind fun p2 =>
 (asS p2.1).bind fun s3 =>
 (bytesOf 5 p2.2 s3).bind fun p4 =>
 (lenV p4.1).bind fun n5 =>
 (L 86 3 [(.int .u64 (0 : Int)), p4.1, (.int .i64 ((n5 : Nat) : Int)), (.int .i64 (0 : Int))] p4.2).bind fun p6 =>
 (asI .u64 (lget p6.2.1 0)).bind fun x7 =>
 some ((.int .u64 x7), p6.2.2)

theorem __wire_Reader__fixed_eq (C : CF) (L : LF) (a : List Value) (h : H) : fnK E C L 86 Tryz.f86 a h = __wire_Reader__fixed C L a h := by kernel_rfl

noncomputable def __wire_Reader__fixed_L3 (C : CF) (L : LF) (a : List Value) (h : H) : Option (Nat × List Value × H) :=
 (asI .u64 (lget a 0)).bind fun x1 =>
 (asI .i64 (lget a 2)).bind fun x2 =>
 (asI .i64 (lget a 3)).bind fun x3 =>
 cond (decide (x3 < x2)) (
 (idx 1 (lget a 1) x3).bind fun p4 =>
 (ldI .u8 h p4.1 p4.2).bind fun x5 =>
 cond (decide ((IntKind.wrap .u64 (IntKind.wrap .i64 ((8 : Int) * x3))) < 0)) none (
 L 86 3 [(.int .u64 (ior .u64 x1 (ishl .u64 (IntKind.wrap .u64 x5) (IntKind.wrap .u64 (IntKind.wrap .i64 ((8 : Int) * x3)))))), (lget a 1), (.int .i64 x2), (.int .i64 (IntKind.wrap .i64 (x3 + (1 : Int))))] h)) (
 some (0, [(.int .u64 x1)], h))

theorem __wire_Reader__fixed_L3_eq (C : CF) (L : LF) (a : List Value) (h : H) : lpN E C L 86 3 Tryz.f86 a h = __wire_Reader__fixed_L3 C L a h := by kernel_rfl


/-- 58: (*armarium/wire.Reader).fail -/
noncomputable def __wire_Reader__fail (C : CF) (L : LF) (a : List Value) (h : H) : Option (Value × H) :=
 (asI .i64 (lget a 1)).bind fun x1 =>
 (asI .i64 (lget a 2)).bind fun x2 =>
 (asP (lget a 0)).bind fun p3 =>
 (stV 1 h p3.1 (p3.2 + 2) (.int .i64 x1)).bind fun h4 =>
 (asP (lget a 0)).bind fun p5 =>
 (stV 1 h4 p5.1 (p5.2 + 1) (.int .i64 x2)).bind fun h6 =>
 some (junk, h6)

theorem __wire_Reader__fail_eq (C : CF) (L : LF) (a : List Value) (h : H) : fnK E C L 58 Tryz.f58 a h = __wire_Reader__fail C L a h := by kernel_rfl


/-- 30: armarium/schema.Get -/
noncomputable def schema_Get (C : CF) (L : LF) (a : List Value) (h : H) : Option (Value × H) :=
 (asS (lget a 0)).bind fun s1 =>
 (C 10 [(.string s1)] h).bind fun p2 =>
 (C 31 [p2.1] p2.2).bind fun p3 =>
 (asI .u64 p3.1).bind fun x4 =>
 (L 30 5 [p2.1, (.int .u64 x4), (.slice none 0 0), (.int .u64 (0 : Int))] p3.2).bind fun p5 =>
 (C 14 [(lget p5.2.1 0)] p5.2.2).bind fun p6 =>
 (asI .i64 p6.1).bind fun x7 =>
 cond (x7 != (0 : Int)) (
 some (.tuple #[(.slice none 0 0), (.int .i64 x7)], p6.2)) (
 (C 35 [(lget p5.2.1 1)] p6.2).bind fun p8 =>
 (asI .i64 p8.1).bind fun x9 =>
 cond (x9 != (0 : Int)) (
 some (.tuple #[(.slice none 0 0), (.int .i64 x9)], p8.2)) (
 some (.tuple #[(lget p5.2.1 1), (.int .i64 (0 : Int))], p8.2)))

theorem schema_Get_eq (C : CF) (L : LF) (a : List Value) (h : H) : fnK E C L 30 Tryz.f30 a h = schema_Get C L a h := by kernel_rfl

noncomputable def schema_Get_L5 (C : CF) (L : LF) (a : List Value) (h : H) : Option (Nat × List Value × H) :=
 (asI .u64 (lget a 1)).bind fun x1 =>
 (asI .u64 (lget a 3)).bind fun x2 =>
 ((cond (decide (x2 < x1))
 ((C 29 [(lget a 0)] h).bind fun p3 =>
 (asI .i64 p3.1).bind fun x4 =>
 some ((x4 == (0 : Int)), p3.2))
 (some (false, h))) : Option (Bool × H)).bind fun p5 =>
 cond p5.1 (
 (C 28 [(lget a 0), (.int .i64 (1048576 : Int))] p5.2).bind fun p6 =>
 (asS p6.1).bind fun s7 =>
 (C 60 [(lget a 0)] p6.2).bind fun p8 =>
 (asI .u8 p8.1).bind fun x9 =>
 (bldT E 55 [(0, (.string s7)), (1, (.int .i64 (IntKind.wrap .i64 (iandn .u8 x9 (128 : Int))))), (2, (.bool (decide (x9 ≥ (128 : Int)))))]).bind fun v10 =>
 (bldS E 23 1 [(0, v10)]).bind fun l11 =>
 let h12 := p8.2.new (.cells l11 55 true false)
 (appA 3 32 55 h12 (lget a 2) (.slice (some ⟨p8.2.next, 0, none⟩) 1 1)).bind fun p13 =>
 L 30 5 [(lget a 0), (.int .u64 x1), p13.1, (.int .u64 (IntKind.wrap .u64 (x2 + (1 : Int))))] p13.2) (
 some (0, [(lget a 0), (lget a 2)], p5.2))

theorem schema_Get_L5_eq (C : CF) (L : LF) (a : List Value) (h : H) : lpN E C L 30 5 Tryz.f30 a h = schema_Get_L5 C L a h := by kernel_rfl


/-- 61: armarium/plain.Get -/
noncomputable def plain_Get (C : CF) (L : LF) (a : List Value) (h : H) : Option (Value × H) :=
 (asI .i64 (lget a 1)).bind fun x1 =>
 let h2 := h.new (.cells [(.bool false), (.bool false), (.int .i64 (0)), (.int .u64 (0)), (.string (bs [])), (.complex .f64 0 0)] 47 true false)
 (nilT 0 (lget a 0)).bind fun b3 =>
 cond b3 (
 (bldT E 47 []).bind fun v4 =>
 (stV 6 h2 h.next 0 v4).bind fun h5 =>
 (ldA 6 h5 h.next 0).bind fun v6 =>
 some (.tuple #[v6, (.int .i64 (2 : Int))], h5)) (
 (C 87 [(.int .i64 x1)] h2).bind fun p7 =>
 (asB p7.1).bind fun b8 =>
 cond (!b8) (
 (bldT E 47 []).bind fun v9 =>
 (stV 6 p7.2 h.next 0 v9).bind fun h10 =>
 (ldA 6 h10 h.next 0).bind fun v11 =>
 some (.tuple #[v11, (.int .i64 (14 : Int))], h10)) (
 (C 88 [(lget a 0), (.int .i64 x1)] p7.2).bind fun p12 =>
 (tup2 p12.1).bind fun p13 =>
 (asB p13.2).bind fun b14 =>
 let h15 := p12.2.new (.cells [(.bool false), (.bool false), (.int .i64 (0)), (.int .u64 (0)), (.string (bs [])), (.complex .f64 0 0)] 47 true false)
 (stV 6 h15 p12.2.next 0 p13.1).bind fun h16 =>
 (C 29 [(lget a 0)] h16).bind fun p17 =>
 (asI .i64 p17.1).bind fun x18 =>
 cond (x18 != (0 : Int)) (
 (bldT E 47 []).bind fun v19 =>
 (C 29 [(lget a 0)] p17.2).bind fun p20 =>
 (asI .i64 p20.1).bind fun x21 =>
 (stV 6 p20.2 h.next 0 v19).bind fun h22 =>
 (ldA 6 h22 h.next 0).bind fun v23 =>
 some (.tuple #[v23, (.int .i64 x21)], h22)) (
 cond (!b14) (
 (bldT E 47 []).bind fun v24 =>
 (stV 6 p17.2 h.next 0 v24).bind fun h25 =>
 (ldA 6 h25 h.next 0).bind fun v26 =>
 some (.tuple #[v26, (.int .i64 (12 : Int))], h25)) (
 (ldA 6 p17.2 p12.2.next 0).bind fun v27 =>
 (stV 6 p17.2 h.next 0 v27).bind fun h28 =>
 (ldA 6 h28 h.next 0).bind fun v29 =>
 some (.tuple #[v29, (.int .i64 (0 : Int))], h28)))))

theorem plain_Get_eq (C : CF) (L : LF) (a : List Value) (h : H) : fnK E C L 61 Tryz.f61 a h = plain_Get C L a h := by kernel_rfl


/-- 34: armarium/column.Decode -/
noncomputable def column_Decode (C : CF) (L : LF) (a : List Value) (h : H) : Option (Value × H) :=
 (asS (lget a 1)).bind fun s1 =>
 (oneL (lget a 0).cells.toList).bind fun l3 =>
 let h2 := h.new (.cells l3 55 true false)
 (ldA 3 h2 h.next 0).bind fun v4 =>
 (bldS E 23 1 [(0, v4)]).bind fun l5 =>
 let h6 := h2.new (.cells l5 55 true false)
 (C 35 [(.slice (some ⟨h2.next, 0, none⟩) 1 1)] h6).bind fun p7 =>
 (asI .i64 p7.1).bind fun x8 =>
 cond (x8 != (0 : Int)) (
 some (.tuple #[(.slice none 0 0), (.int .i64 x8)], p7.2)) (
 (ldA 3 p7.2 h.next 0).bind fun v9 =>
 (C 62 [v9, (.string s1)] p7.2).bind fun p10 =>
 (tup2 p10.1).bind fun p11 =>
 (asI .i64 p11.2).bind fun x12 =>
 cond (x12 != (0 : Int)) (
 some (.tuple #[(.slice none 0 0), (.int .i64 x12)], p10.2)) (
 (ldA 3 p10.2 h.next 0).bind fun v13 =>
 (C 19 [v13, p11.1] p10.2).bind fun p14 =>
 (tup2 p14.1).bind fun p15 =>
 (asS p15.1).bind fun s16 =>
 (asI .i64 p15.2).bind fun x17 =>
 ((cond (x17 != (0 : Int))
 (some (true, p14.2))
 (some ((!(seq s16 s1)), p14.2))) : Option (Bool × H)).bind fun p18 =>
 cond p18.1 (
 some (.tuple #[(.slice none 0 0), (.int .i64 (12 : Int))], p18.2)) (
 some (.tuple #[p11.1, (.int .i64 (0 : Int))], p18.2))))

theorem column_Decode_eq (C : CF) (L : LF) (a : List Value) (h : H) : fnK E C L 34 Tryz.f34 a h = column_Decode C L a h := by kernel_rfl


/-- 89: armarium/column.missing -/
noncomputable def column_missing (C : CF) (L : LF) (a : List Value) (h : H) : Option (Value × H) :=
 (asI .i64 (lget a 2)).bind fun x1 =>
 (oneL (lget a 1).cells.toList).bind fun l3 =>
 let h2 := h.new (.cells l3 55 true false)
 (ldB h2 h.next (0 + 2)).bind fun b4 =>
 cond (!b4) (
 (mkS 1 4 [(.bool false)] h2 x1 x1).bind fun p5 =>
 some (.tuple #[p5.1, (.int .i64 (0 : Int))], p5.2)) (
 (C 91 [(lget a 0), (.int .i64 (IntKind.wrap .i64 (Int.tdiv (IntKind.wrap .i64 ((IntKind.wrap .i64 (x1 + (8 : Int))) - (1 : Int))) (8 : Int))))] h2).bind fun p6 =>
 (asS p6.1).bind fun s7 =>
 (C 29 [(lget a 0)] p6.2).bind fun p8 =>
 (asI .i64 p8.1).bind fun x9 =>
 cond (x9 != (0 : Int)) (
 some (.tuple #[(.slice none 0 0), (.int .i64 x9)], p8.2)) (
 (C 100 [(.string s7), (.int .i64 x1)] p8.2).bind fun p10 =>
 (tup2 p10.1).bind fun p11 =>
 (asI .i64 p11.2).bind fun x12 =>
 some (.tuple #[p11.1, (.int .i64 x12)], p10.2)))

theorem column_missing_eq (C : CF) (L : LF) (a : List Value) (h : H) : fnK E C L 89 Tryz.f89 a h = column_missing C L a h := by kernel_rfl


/-- 67: armarium/nulls.size -/
noncomputable def nulls_size (C : CF) (L : LF) (a : List Value) (h : H) : Option (Value × H) :=
 (asI .i64 (lget a 0)).bind fun x1 =>
 some ((.int .i64 (IntKind.wrap .i64 (Int.tdiv (IntKind.wrap .i64 ((IntKind.wrap .i64 (x1 + (8 : Int))) - (1 : Int))) (8 : Int)))), h)

theorem nulls_size_eq (C : CF) (L : LF) (a : List Value) (h : H) : fnK E C L 67 Tryz.f67 a h = nulls_size C L a h := by kernel_rfl


/-- 101: armarium/column.sure -/
noncomputable def column_sure (C : CF) (L : LF) (a : List Value) (h : H) : Option (Value × H) :=
 cond (one (lget a 0)) (
 let h1 := h.new (.cells [(lget a 0)] 160 true false)
 some ((.func (.func 110) #[] #[(ptr h.next 0)]), h1)) none

theorem column_sure_eq (C : CF) (L : LF) (a : List Value) (h : H) : fnK E C L 101 Tryz.f101 a h = column_sure C L a h := by kernel_rfl


/-- 110: armarium/column.sure$1 -/
noncomputable def column_sure_1 (C : CF) (L : LF) (a : List Value) (h : H) : Option (Value × H) :=
 (asI .i64 (lget a 0)).bind fun x1 =>
 (asP (lget a 2)).bind fun p2 =>
 (ldV h p2.1 p2.2).bind fun v3 =>
 (callV C L v3 [(.int .i64 x1), (lget a 1)] h).bind fun p4 =>
 (asS p4.1).bind fun s5 =>
 some (.tuple #[(.string s5), (.int .i64 (0 : Int))], p4.2)

theorem column_sure_1_eq (C : CF) (L : LF) (a : List Value) (h : H) : fnK E C L 110 Tryz.f110 a h = column_sure_1 C L a h := by kernel_rfl


/-- 102: armarium/plain.Encode -/
noncomputable def plain_Encode (C : CF) (L : LF) (a : List Value) (h : H) : Option (Value × H) :=
 (asI .i64 (lget a 0)).bind fun x1 =>
 cond (x1 == (1 : Int)) (
 (lenV (lget a 1)).bind fun n2 =>
 (mkS 1 4 [(.bool false)] h ((n2 : Nat) : Int) ((n2 : Nat) : Int)).bind fun p3 =>
 (lenV (lget a 1)).bind fun n4 =>
 (L 102 4 [p3.1, (lget a 1), (.int .i64 ((n4 : Nat) : Int)), (.int .i64 (0 : Int))] p3.2).bind fun p5 =>
 (C 43 [(lget p5.2.1 0)] p5.2.2).bind fun p6 =>
 (asS p6.1).bind fun s7 =>
 some ((.string s7), p6.2)) (
 let h8 := h.new (.cells [(.slice none 0 0)] 61 true false)
 (lenV (lget a 1)).bind fun n9 =>
 (L 102 11 [(.int .i64 x1), (ptr h.next 0), (lget a 1), (.int .i64 ((n9 : Nat) : Int)), (.int .i64 (0 : Int))] h8).bind fun p10 =>
 (asP (lget p10.2.1 0)).bind fun p11 =>
 (C 20 [(ptr p11.1 p11.2)] p10.2.2).bind fun p12 =>
 (asS p12.1).bind fun s13 =>
 some ((.string s13), p12.2))

theorem plain_Encode_eq (C : CF) (L : LF) (a : List Value) (h : H) : fnK E C L 102 Tryz.f102 a h = plain_Encode C L a h := by kernel_rfl

noncomputable def plain_Encode_L4 (C : CF) (L : LF) (a : List Value) (h : H) : Option (Nat × List Value × H) :=
 (asI .i64 (lget a 2)).bind fun x1 =>
 (asI .i64 (lget a 3)).bind fun x2 =>
 cond (decide (x2 < x1)) (
 (idx 6 (lget a 1) x2).bind fun p3 =>
 (ldA 6 h p3.1 p3.2).bind fun v4 =>
 let h5 := h.new (.cells [(.bool false), (.bool false), (.int .i64 (0)), (.int .u64 (0)), (.string (bs [])), (.complex .f64 0 0)] 47 true false)
 (stV 6 h5 h.next 0 v4).bind fun h6 =>
 (ldB h6 h.next (0 + 1)).bind fun b7 =>
 (idx 1 (lget a 0) x2).bind fun p8 =>
 (stV 1 h6 p8.1 p8.2 (.bool b7)).bind fun h9 =>
 L 102 4 [(lget a 0), (lget a 1), (.int .i64 x1), (.int .i64 (IntKind.wrap .i64 (x2 + (1 : Int))))] h9) (
 some (0, [(lget a 0)], h))

theorem plain_Encode_L4_eq (C : CF) (L : LF) (a : List Value) (h : H) : lpN E C L 102 4 Tryz.f102 a h = plain_Encode_L4 C L a h := by kernel_rfl

noncomputable def plain_Encode_L11 (C : CF) (L : LF) (a : List Value) (h : H) : Option (Nat × List Value × H) :=
 (asI .i64 (lget a 0)).bind fun x1 =>
 (asP (lget a 1)).bind fun p2 =>
 (asI .i64 (lget a 3)).bind fun x3 =>
 (asI .i64 (lget a 4)).bind fun x4 =>
 cond (decide (x4 < x3)) (
 (idx 6 (lget a 2) x4).bind fun p5 =>
 (ldA 6 h p5.1 p5.2).bind fun v6 =>
 let h7 := h.new (.cells [(.bool false), (.bool false), (.int .i64 (0)), (.int .u64 (0)), (.string (bs [])), (.complex .f64 0 0)] 47 true false)
 (stV 6 h7 h.next 0 v6).bind fun h8 =>
 (ldA 6 h8 h.next 0).bind fun v9 =>
 (C 41 [(ptr p2.1 p2.2), (.int .i64 x1), v9] h8).bind fun p10 =>
 L 102 11 [(.int .i64 x1), (ptr p2.1 p2.2), (lget a 2), (.int .i64 x3), (.int .i64 (IntKind.wrap .i64 (x4 + (1 : Int))))] p10.2) (
 some (0, [(ptr p2.1 p2.2)], h))

theorem plain_Encode_L11_eq (C : CF) (L : LF) (a : List Value) (h : H) : lpN E C L 102 11 Tryz.f102 a h = plain_Encode_L11 C L a h := by kernel_rfl


/-- 38: (*armarium/wire.Writer).Raw -/
noncomputable def __wire_Writer__Raw (C : CF) (L : LF) (a : List Value) (h : H) : Option (Value × H) :=
 (asS (lget a 1)).bind fun s1 =>
 (bytesOf 5 h s1).bind fun p2 =>
 (C 40 [(lget a 0), p2.1] p2.2).bind fun p3 =>
 some (junk, p3.2)

theorem __wire_Writer__Raw_eq (C : CF) (L : LF) (a : List Value) (h : H) : fnK E C L 38 Tryz.f38 a h = __wire_Writer__Raw C L a h := by kernel_rfl


/-- 95: armarium/plain.whole -/
noncomputable def plain_whole (C : CF) (L : LF) (a : List Value) (h : H) : Option (Value × H) :=
 (fop .lss (lget a 0) (.float .f64 14069245235905429504)).bind fun v1 =>
 (asB v1).bind fun b2 =>
 ((cond b2
 (some (true, h))
 ((fop .gtr (lget a 0) (.float .f64 4845873199050653696)).bind fun v3 =>
 (asB v3).bind fun b4 =>
 some (b4, h))) : Option (Bool × H)).bind fun p5 =>
 ((cond p5.1
 (some (true, p5.2))
 ((fop .neq (lget a 0) (lget a 0)).bind fun v6 =>
 (asB v6).bind fun b7 =>
 some (b7, p5.2))) : Option (Bool × H)).bind fun p8 =>
 cond p8.1 (
 some (.tuple #[(.int .i64 (0 : Int)), (.bool false)], p8.2)) (
 (f2i .i64 (lget a 0)).bind fun x9 =>
 (fop .eql (.float .f64 (FloatKind.f64.nearest x9)) (lget a 0)).bind fun v10 =>
 (asB v10).bind fun b11 =>
 some (.tuple #[(.int .i64 x9), (.bool b11)], p8.2))

theorem plain_whole_eq (C : CF) (L : LF) (a : List Value) (h : H) : fnK E C L 95 Tryz.f95 a h = plain_whole C L a h := by kernel_rfl


/-- 104: armarium/runs.Encode -/
noncomputable def runs_Encode (C : CF) (L : LF) (a : List Value) (h : H) : Option (Value × H) :=
 (asI .i64 (lget a 0)).bind fun x1 =>
 let h2 := h.new (.cells [(.int .i64 x1)] 3 true false)
 let h3 := h2.new (.cells [(.slice none 0 0)] 61 true false)
 (ldI .i64 h3 h.next 0).bind fun x4 =>
 (C 112 [(.int .i64 x4), (lget a 1)] h3).bind fun p5 =>
 (rngV C p5.1 p5.2.next (p5.2.new (.loop 104 3 [(.int .i64 x1), (lget a 1), (ptr h.next 0), junk, (.string (bs [])), (ptr h2.next 0), junk, (.int .i64 x4), (lget a 1), p5.1, junk, junk, junk, junk, junk, junk, junk, junk, junk, junk]))).bind fun p6 =>
 cond (isLoop (p6.2.get p5.2.next)) (
 (C 20 [(ptr h2.next 0)] (p6.2.put p5.2.next none)).bind fun p7 =>
 (asS p7.1).bind fun s8 =>
 some ((.string s8), p7.2)) none

theorem runs_Encode_eq (C : CF) (L : LF) (a : List Value) (h : H) : fnK E C L 104 Tryz.f104 a h = runs_Encode C L a h := by kernel_rfl

noncomputable def runs_Encode_R3 (C : CF) (L : LF) (a : List Value) (h : H) : Option (Nat × List Value × H) :=
 cond (Nat.beq a.length 21) (
 let h1 := h.new (.cells [(.bool false), (.bool false), (.int .i64 (0)), (.int .u64 (0)), (.string (bs [])), (.complex .f64 0 0), (.int .i64 (0))] 166 true false)
 (stV 7 h1 h.next 0 (lget a 20)).bind fun h2 =>
 (ldI .i64 h2 h.next (0 + 6)).bind fun x3 =>
 (C 17 [(lget a 5), (.int .u64 (IntKind.wrap .u64 x3))] h2).bind fun p4 =>
 (asP (lget a 2)).bind fun p5 =>
 (ldI .i64 p4.2 p5.1 p5.2).bind fun x6 =>
 (ldA 6 p4.2 h.next (0 + 0)).bind fun v7 =>
 (C 41 [(lget a 5), (.int .i64 x6), v7] p4.2).bind fun p8 =>
 some (0, [], p8.2)) none

theorem runs_Encode_R3_eq (C : CF) (L : LF) (a : List Value) (h : H) : lpN E C L 104 2000003 Tryz.f104 a h = runs_Encode_R3 C L a h := by kernel_rfl


/-- 113: armarium/runs.next -/
noncomputable def runs_next (C : CF) (L : LF) (a : List Value) (h : H) : Option (Value × H) :=
 (asI .i64 (lget a 1)).bind fun x1 =>
 (asI .i64 (lget a 2)).bind fun x2 =>
 let h3 := h.new (.cells [(.bool false), (.bool false), (.int .i64 (0)), (.int .u64 (0)), (.string (bs [])), (.complex .f64 0 0), (.int .i64 (0))] 166 true false)
 (C 31 [(lget a 0)] h3).bind fun p4 =>
 (asI .u64 p4.1).bind fun x5 =>
 (C 29 [(lget a 0)] p4.2).bind fun p6 =>
 (asI .i64 p6.1).bind fun x7 =>
 cond (x7 != (0 : Int)) (
 (bldT E 166 []).bind fun v8 =>
 (stV 7 p6.2 h.next 0 v8).bind fun h9 =>
 (ldA 7 h9 h.next 0).bind fun v10 =>
 some (.tuple #[v10, (.int .i64 x7)], h9)) (
 (C 61 [(lget a 0), (.int .i64 x1)] p6.2).bind fun p11 =>
 (tup2 p11.1).bind fun p12 =>
 (asI .i64 p12.2).bind fun x13 =>
 let h14 := p11.2.new (.cells [(.bool false), (.bool false), (.int .i64 (0)), (.int .u64 (0)), (.string (bs [])), (.complex .f64 0 0)] 47 true false)
 (stV 6 h14 p11.2.next 0 p12.1).bind fun h15 =>
 cond (x13 != (0 : Int)) (
 (bldT E 166 []).bind fun v16 =>
 (stV 7 h15 h.next 0 v16).bind fun h17 =>
 (ldA 7 h17 h.next 0).bind fun v18 =>
 some (.tuple #[v18, (.int .i64 x13)], h17)) (
 ((cond (x5 == (0 : Int))
 (some (true, h15))
 (some ((decide (x5 > (IntKind.wrap .u64 x2))), h15))) : Option (Bool × H)).bind fun p19 =>
 cond p19.1 (
 (bldT E 166 []).bind fun v20 =>
 (stV 7 p19.2 h.next 0 v20).bind fun h21 =>
 (ldA 7 h21 h.next 0).bind fun v22 =>
 some (.tuple #[v22, (.int .i64 (12 : Int))], h21)) (
 (ldA 6 p19.2 p11.2.next 0).bind fun v23 =>
 (bldT E 166 [(0, v23), (1, (.int .i64 (IntKind.wrap .i64 x5)))]).bind fun v24 =>
 (stV 7 p19.2 h.next 0 v24).bind fun h25 =>
 (ldA 7 h25 h.next 0).bind fun v26 =>
 some (.tuple #[v26, (.int .i64 (0 : Int))], h25))))

theorem runs_next_eq (C : CF) (L : LF) (a : List Value) (h : H) : fnK E C L 113 Tryz.f113 a h = runs_next C L a h := by kernel_rfl


/-- 115: armarium/delta.has -/
noncomputable def delta_has (C : CF) (L : LF) (a : List Value) (h : H) : Option (Value × H) :=
 (asI .i64 (lget a 0)).bind fun x1 =>
 ((cond (x1 == (2 : Int))
 (some (true, h))
 (some ((x1 == (3 : Int)), h))) : Option (Bool × H)).bind fun p2 =>
 ((cond p2.1
 (some (true, p2.2))
 (some ((x1 == (6 : Int)), p2.2))) : Option (Bool × H)).bind fun p3 =>
 some ((.bool p3.1), p3.2)

theorem delta_has_eq (C : CF) (L : LF) (a : List Value) (h : H) : fnK E C L 115 Tryz.f115 a h = delta_has C L a h := by kernel_rfl


/-- 116: armarium/delta.Step -/
noncomputable def delta_Step (C : CF) (L : LF) (a : List Value) (h : H) : Option (Value × H) :=
 (asI .i64 (lget a 0)).bind fun x1 =>
 (oneL (lget a 1).cells.toList).bind fun l3 =>
 let h2 := h.new (.cells l3 47 true false)
 (oneL (lget a 2).cells.toList).bind fun l5 =>
 let h4 := h2.new (.cells l5 47 true false)
 let h6 := h4.new (.cells [(.bool false), (.bool false), (.int .i64 (0)), (.int .u64 (0)), (.string (bs [])), (.complex .f64 0 0)] 47 true false)
 cond (x1 == (2 : Int)) (
 (ldI .i64 h6 h2.next (0 + 2)).bind fun x7 =>
 (ldI .i64 h6 h.next (0 + 2)).bind fun x8 =>
 (bldT E 47 [(2, (.int .i64 (IntKind.wrap .i64 (x7 - x8))))]).bind fun v9 =>
 (stV 6 h6 h4.next 0 v9).bind fun h10 =>
 (ldA 6 h10 h4.next 0).bind fun v11 =>
 some (.tuple #[v11, (.int .i64 (0 : Int))], h10)) (
 cond (x1 == (3 : Int)) (
 (ldI .u64 h6 h2.next (0 + 3)).bind fun x12 =>
 (ldI .u64 h6 h.next (0 + 3)).bind fun x13 =>
 (bldT E 47 [(2, (.int .i64 (IntKind.wrap .i64 (IntKind.wrap .u64 (x12 - x13)))))]).bind fun v14 =>
 (stV 6 h6 h4.next 0 v14).bind fun h15 =>
 (ldA 6 h15 h4.next 0).bind fun v16 =>
 some (.tuple #[v16, (.int .i64 (0 : Int))], h15)) (
 cond (x1 == (6 : Int)) (
 (ldV h6 h2.next (0 + 5)).bind fun v17 =>
 (ldV h6 h.next (0 + 5)).bind fun v18 =>
 (fop .sub v17 v18).bind fun v19 =>
 (bldT E 47 [(5, v19)]).bind fun v20 =>
 (stV 6 h6 h4.next 0 v20).bind fun h21 =>
 (ldA 6 h21 h4.next 0).bind fun v22 =>
 some (.tuple #[v22, (.int .i64 (0 : Int))], h21)) (
 (bldT E 47 []).bind fun v23 =>
 (stV 6 h6 h4.next 0 v23).bind fun h24 =>
 (ldA 6 h24 h4.next 0).bind fun v25 =>
 some (.tuple #[v25, (.int .i64 (14 : Int))], h24))))

theorem delta_Step_eq (C : CF) (L : LF) (a : List Value) (h : H) : fnK E C L 116 Tryz.f116 a h = delta_Step C L a h := by kernel_rfl


/-- 127: armarium/delta.sum -/
noncomputable def delta_sum (C : CF) (L : LF) (a : List Value) (h : H) : Option (Value × H) :=
 (f2i .i64 (lget a 0)).bind fun x1 =>
 (f2i .i64 (lget a 1)).bind fun x2 =>
 ((cond (decide ((IntKind.wrap .i64 (x1 + x2)) ≥ (-9007199254740992 : Int)))
 (some ((decide ((IntKind.wrap .i64 (x1 + x2)) ≤ (9007199254740992 : Int))), h))
 (some (false, h))) : Option (Bool × H)).bind fun p3 =>
 some ((.bool p3.1), p3.2)

theorem delta_sum_eq (C : CF) (L : LF) (a : List Value) (h : H) : fnK E C L 127 Tryz.f127 a h = delta_sum C L a h := by kernel_rfl


/-- 120: armarium/delta.Go -/
noncomputable def delta_Go (C : CF) (L : LF) (a : List Value) (h : H) : Option (Value × H) :=
 (asI .i64 (lget a 0)).bind fun x1 =>
 (oneL (lget a 1).cells.toList).bind fun l3 =>
 let h2 := h.new (.cells l3 47 true false)
 (oneL (lget a 2).cells.toList).bind fun l5 =>
 let h4 := h2.new (.cells l5 47 true false)
 let h6 := h4.new (.cells [(.bool false), (.bool false), (.int .i64 (0)), (.int .u64 (0)), (.string (bs [])), (.complex .f64 0 0)] 47 true false)
 cond (x1 == (2 : Int)) (
 (ldI .i64 h6 h.next (0 + 2)).bind fun x7 =>
 (ldI .i64 h6 h2.next (0 + 2)).bind fun x8 =>
 (bldT E 47 [(2, (.int .i64 (IntKind.wrap .i64 (x7 + x8))))]).bind fun v9 =>
 (stV 6 h6 h4.next 0 v9).bind fun h10 =>
 (ldA 6 h10 h4.next 0).bind fun v11 =>
 some (.tuple #[v11, (.int .i64 (0 : Int))], h10)) (
 cond (x1 == (3 : Int)) (
 (ldI .u64 h6 h.next (0 + 3)).bind fun x12 =>
 (ldI .i64 h6 h2.next (0 + 2)).bind fun x13 =>
 (bldT E 47 [(3, (.int .u64 (IntKind.wrap .u64 (x12 + (IntKind.wrap .u64 x13)))))]).bind fun v14 =>
 (stV 6 h6 h4.next 0 v14).bind fun h15 =>
 (ldA 6 h15 h4.next 0).bind fun v16 =>
 some (.tuple #[v16, (.int .i64 (0 : Int))], h15)) (
 cond (x1 == (6 : Int)) (
 (ldV h6 h.next (0 + 5)).bind fun v17 =>
 (ldV h6 h2.next (0 + 5)).bind fun v18 =>
 (fop .add v17 v18).bind fun v19 =>
 (bldT E 47 [(5, v19)]).bind fun v20 =>
 (stV 6 h6 h4.next 0 v20).bind fun h21 =>
 (ldA 6 h21 h4.next 0).bind fun v22 =>
 some (.tuple #[v22, (.int .i64 (0 : Int))], h21)) (
 (bldT E 47 []).bind fun v23 =>
 (stV 6 h6 h4.next 0 v23).bind fun h24 =>
 (ldA 6 h24 h4.next 0).bind fun v25 =>
 some (.tuple #[v25, (.int .i64 (14 : Int))], h24))))

theorem delta_Go_eq (C : CF) (L : LF) (a : List Value) (h : H) : fnK E C L 120 Tryz.f120 a h = delta_Go C L a h := by kernel_rfl


/-- 128: armarium/dict.none -/
noncomputable def dict_none (C : CF) (L : LF) (a : List Value) (h : H) : Option (Value × H) :=
 (asI .i64 (lget a 0)).bind fun x1 =>
 let h2 := h.new (.map [] 0)
 (bldT E 179 [(0, (.int .i64 x1)), (2, (.map (some h.next)))]).bind fun v3 =>
 (oneL v3.cells.toList).bind fun l5 =>
 let h4 := h2.new (.cells l5 179 true false)
 some ((ptr h2.next 0), h4)

theorem dict_none_eq (C : CF) (L : LF) (a : List Value) (h : H) : fnK E C L 128 Tryz.f128 a h = dict_none C L a h := by kernel_rfl


/-- 129: (*armarium/dict.Dict).add -/
noncomputable def __dict_Dict__add (C : CF) (L : LF) (a : List Value) (h : H) : Option (Value × H) :=
 (oneL (lget a 1).cells.toList).bind fun l2 =>
 let h1 := h.new (.cells l2 47 true false)
 let h3 := holes 1 h1
 (asP (lget a 0)).bind fun p4 =>
 (ldI .i64 h3 p4.1 (p4.2 + 0)).bind fun x5 =>
 (ldA 6 h3 h.next 0).bind fun v6 =>
 (C 130 [(.int .i64 x5), v6] h3).bind fun p7 =>
 (stV 4 (p7.2.put (h1.next + 0) (some (.cells [(.int .u64 (0)), (.string (bs [])), (.int .i64 (0)), (.int .i64 (0))] 191 true false))) (h1.next + 0) 0 p7.1).bind fun h8 =>
 (asP (lget a 0)).bind fun p9 =>
 (ldV h8 p9.1 (p9.2 + 2)).bind fun v10 =>
 (ldA 4 h8 (h1.next + 0) 0).bind fun v11 =>
 (lookM E 191 h8 v10 v11).bind fun r12 =>
 (asI .i64 (r12.getD (.int .i64 (0)))).bind fun x13 =>
 cond r12.isSome (
 some (.tuple #[(.int .i64 x13), (.bool false)], h8)) (
 (asP (lget a 0)).bind fun p14 =>
 (ldV h8 p14.1 (p14.2 + 2)).bind fun v15 =>
 (ldA 4 h8 (h1.next + 0) 0).bind fun v16 =>
 (asP (lget a 0)).bind fun p17 =>
 (ldV h8 p17.1 (p17.2 + 1)).bind fun v18 =>
 (lenV v18).bind fun n19 =>
 (setM E 191 h8 v15 v16 (.int .i64 ((n19 : Nat) : Int))).bind fun h20 =>
 let h21 := holes 1 h20
 (asP (lget a 0)).bind fun p22 =>
 (ldV h21 p22.1 (p22.2 + 1)).bind fun v23 =>
 (ldA 6 h21 h.next 0).bind fun v24 =>
 (bldS E 41 1 [(0, v24)]).bind fun l25 =>
 (appA 6 56 47 (h21.put (h20.next + 0) (some (.cells l25 47 true false))) v23 (.slice (some ⟨(h20.next + 0), 0, none⟩) 1 1)).bind fun p26 =>
 (asP (lget a 0)).bind fun p27 =>
 (stV 1 p26.2 p27.1 (p27.2 + 1) p26.1).bind fun h28 =>
 (asP (lget a 0)).bind fun p29 =>
 (ldV h28 p29.1 (p29.2 + 1)).bind fun v30 =>
 (lenV v30).bind fun n31 =>
 some (.tuple #[(.int .i64 (IntKind.wrap .i64 (((n31 : Nat) : Int) - (1 : Int)))), (.bool true)], h28))

theorem __dict_Dict__add_eq (C : CF) (L : LF) (a : List Value) (h : H) : fnK E C L 129 Tryz.f129 a h = __dict_Dict__add C L a h := by kernel_rfl


/-- 124: (*armarium/dict.Dict).places -/
noncomputable def __dict_Dict__places (C : CF) (L : LF) (a : List Value) (h : H) : Option (Value × H) :=
 (asI .i64 (lget a 2)).bind fun x1 =>
 (L 124 2 [(lget a 0), (lget a 1), (.slice none 0 0), (.int .i64 (0 : Int)), (.int .i64 x1), (.int .i64 (0 : Int))] h).bind fun p2 =>
 cond (p2.1 == 0) (
 (asI .i64 (lget p2.2.1 2)).bind fun x3 =>
 (C 14 [(lget p2.2.1 0)] p2.2.2).bind fun p4 =>
 (asI .i64 p4.1).bind fun x5 =>
 some (.tuple #[(lget p2.2.1 1), (.int .i64 x3), (.int .i64 x5)], p4.2)) (
 (asI .i64 (lget p2.2.1 1)).bind fun x6 =>
 (asI .i64 (lget p2.2.1 2)).bind fun x7 =>
 some (.tuple #[(lget p2.2.1 0), (.int .i64 x6), (.int .i64 x7)], p2.2.2))

theorem __dict_Dict__places_eq (C : CF) (L : LF) (a : List Value) (h : H) : fnK E C L 124 Tryz.f124 a h = __dict_Dict__places C L a h := by kernel_rfl

noncomputable def __dict_Dict__places_L2 (C : CF) (L : LF) (a : List Value) (h : H) : Option (Nat × List Value × H) :=
 (asI .i64 (lget a 3)).bind fun x1 =>
 (asI .i64 (lget a 4)).bind fun x2 =>
 (asI .i64 (lget a 5)).bind fun x3 =>
 cond (decide (x3 < x2)) (
 (C 31 [(lget a 1)] h).bind fun p4 =>
 (asI .u64 p4.1).bind fun x5 =>
 let j14 : Value → Value → Value → Int → Int → Int → Int → H → Option (Nat × List Value × H) := fun (v6 : Value) (v7 : Value) (v8 : Value) (x9 : Int) (x10 : Int) (x11 : Int) (x12 : Int) (h13 : H) =>
 (asP v6).bind fun p15 =>
 (ldV h13 p15.1 (p15.2 + 1)).bind fun v16 =>
 (idx 6 v16 x10).bind fun p17 =>
 (ldA 6 h13 p17.1 p17.2).bind fun v18 =>
 (bldS E 41 1 [(0, v18)]).bind fun l19 =>
 let h20 := h13.new (.cells l19 47 true false)
 (appA 6 56 47 h20 v8 (.slice (some ⟨h13.next, 0, none⟩) 1 1)).bind fun p21 =>
 L 124 2 [v6, v7, p21.1, (.int .i64 x9), (.int .i64 x11), (.int .i64 (IntKind.wrap .i64 (x12 + (1 : Int))))] p21.2
 (C 29 [(lget a 1)] p4.2).bind fun p22 =>
 (asI .i64 p22.1).bind fun x23 =>
 cond (x23 != (0 : Int)) (
 (C 29 [(lget a 1)] p22.2).bind fun p24 =>
 (asI .i64 p24.1).bind fun x25 =>
 some (1, [(.slice none 0 0), (.int .i64 (0 : Int)), (.int .i64 x25)], p24.2)) (
 ((cond (decide (x5 > (IntKind.wrap .u64 x1)))
 (some (true, p22.2))
 ((asP (lget a 0)).bind fun p26 =>
 (ldV p22.2 p26.1 (p26.2 + 1)).bind fun v27 =>
 (lenV v27).bind fun n28 =>
 some ((decide (x5 ≥ (IntKind.wrap .u64 ((n28 : Nat) : Int)))), p22.2))) : Option (Bool × H)).bind fun p29 =>
 cond p29.1 (
 some (1, [(.slice none 0 0), (.int .i64 (0 : Int)), (.int .i64 (12 : Int))], p29.2)) (
 cond (x5 == (IntKind.wrap .u64 x1)) (
 j14 (lget a 0) (lget a 1) (lget a 2) (IntKind.wrap .i64 (x1 + (1 : Int))) x5 x2 x3 p29.2) (
 j14 (lget a 0) (lget a 1) (lget a 2) x1 x5 x2 x3 p29.2)))) (
 some (0, [(lget a 1), (lget a 2), (.int .i64 x1)], h))

theorem __dict_Dict__places_L2_eq (C : CF) (L : LF) (a : List Value) (h : H) : lpN E C L 124 2 Tryz.f124 a h = __dict_Dict__places_L2 C L a h := by kernel_rfl


/-- 46: armarium/nulls.Dense -/
noncomputable def nulls_Dense (C : CF) (L : LF) (a : List Value) (h : H) : Option (Value × H) :=
 (lenV (lget a 0)).bind fun n1 =>
 (L 46 3 [(.slice none 0 0), (lget a 0), (.int .i64 ((n1 : Nat) : Int)), (.int .i64 (0 : Int))] h).bind fun p2 =>
 some ((lget p2.2.1 0), p2.2.2)

theorem nulls_Dense_eq (C : CF) (L : LF) (a : List Value) (h : H) : fnK E C L 46 Tryz.f46 a h = nulls_Dense C L a h := by kernel_rfl

noncomputable def nulls_Dense_L3 (C : CF) (L : LF) (a : List Value) (h : H) : Option (Nat × List Value × H) :=
 (asI .i64 (lget a 2)).bind fun x1 =>
 (asI .i64 (lget a 3)).bind fun x2 =>
 cond (decide (x2 < x1)) (
 let j8 : Value → Value → Int → Int → H → Option (Nat × List Value × H) := fun (v3 : Value) (v4 : Value) (x5 : Int) (x6 : Int) (h7 : H) =>
 L 46 3 [v3, v4, (.int .i64 x5), (.int .i64 (IntKind.wrap .i64 (x6 + (1 : Int))))] h7
 (idx 6 (lget a 1) x2).bind fun p9 =>
 (ldA 6 h p9.1 p9.2).bind fun v10 =>
 let h11 := h.new (.cells [(.bool false), (.bool false), (.int .i64 (0)), (.int .u64 (0)), (.string (bs [])), (.complex .f64 0 0)] 47 true false)
 (stV 6 h11 h.next 0 v10).bind fun h12 =>
 (ldB h12 h.next (0 + 0)).bind fun b13 =>
 cond (!b13) (
 (ldA 6 h12 h.next 0).bind fun v14 =>
 (bldS E 41 1 [(0, v14)]).bind fun l15 =>
 let h16 := h12.new (.cells l15 47 true false)
 (appA 6 56 47 h16 (lget a 0) (.slice (some ⟨h12.next, 0, none⟩) 1 1)).bind fun p17 =>
 j8 p17.1 (lget a 1) x1 x2 p17.2) (
 j8 (lget a 0) (lget a 1) x1 x2 h12)) (
 some (0, [(lget a 0)], h))

theorem nulls_Dense_L3_eq (C : CF) (L : LF) (a : List Value) (h : H) : lpN E C L 46 3 Tryz.f46 a h = nulls_Dense_L3 C L a h := by kernel_rfl


/-- 36: (armarium/diff.Patch).fits -/
noncomputable def _diff_Patch__fits (C : CF) (L : LF) (a : List Value) (h : H) : Option (Value × H) :=
 (asI .i64 (lget a 1)).bind fun x1 =>
 (oneL (lget a 0).cells.toList).bind fun l3 =>
 let h2 := h.new (.cells l3 26 true false)
 let h4 := holes 2 h2
 (ldV h4 h.next (0 + 2)).bind fun v5 =>
 (idx 3 v5 x1).bind fun p6 =>
 (ldA 3 h4 p6.1 p6.2).bind fun v7 =>
 (ldV h4 h.next (0 + 4)).bind fun v8 =>
 (idx 3 v8 x1).bind fun p9 =>
 (ldA 3 h4 p9.1 p9.2).bind fun v10 =>
 (stV 3 ((h4.put (h2.next + 0) (some (.cells [(.string (bs [])), (.int .i64 (0)), (.bool false)] 55 true false))).put (h2.next + 1) (some (.cells [(.bool false), (.slice none 0 0), (.slice none 0 0)] 43 true false))) (h2.next + 0) 0 v7).bind fun h11 =>
 (((ldA 3 h11 p9.1 p9.2).bind fun v13 =>
 some (veq v10 v13)) : Option Bool).bind fun b12 =>
 cond b12 (
 (((ldV h11 h.next (0 + 4)).bind fun v15 =>
 some (veq v8 v15)) : Option Bool).bind fun b14 =>
 cond b14 (
 (stV 3 h11 (h2.next + 1) 0 v10).bind fun h16 =>
 (ldI .i64 h16 h.next (0 + 3)).bind fun x17 =>
 (ldV h16 h.next (0 + 0)).bind fun v18 =>
 (ldA 3 h16 (h2.next + 0) 0).bind fun v19 =>
 (C 32 [v18, v19] h16).bind fun p20 =>
 (asB p20.1).bind fun b21 =>
 (((ldI .i64 p20.2 h.next (0 + 3)).bind fun x23 =>
 some (veq (.int .i64 x17) (.int .i64 x23))) : Option Bool).bind fun b22 =>
 cond b22 (
 let j33 : Nat → Nat → Nat → Nat → Nat → Nat → Int → Bool → H → Option (Value × H) := fun (q24 : Nat) (q25 : Nat) (q26 : Nat) (q27 : Nat) (q28 : Nat) (q29 : Nat) (x30 : Int) (b31 : Bool) (h32 : H) =>
 (ldB h32 q28 (q29 + 0)).bind fun b34 =>
 ((cond (!(b34 == b31))
 (some (true, h32))
 ((ldV h32 q28 (q29 + 2)).bind fun v35 =>
 (lenV v35).bind fun n36 =>
 some ((((n36 : Nat) : Int) != x30), h32))) : Option (Bool × H)).bind fun p37 =>
 ((cond p37.1
 (some (true, p37.2))
 (((cond (!b31)
 ((ldV p37.2 q28 (q29 + 1)).bind fun v38 =>
 (lenV v38).bind fun n39 =>
 some ((decide (((n39 : Nat) : Int) > (0 : Int))), p37.2))
 (some (false, p37.2))) : Option (Bool × H)).bind fun p40 =>
 some (p40.1, p40.2))) : Option (Bool × H)).bind fun p41 =>
 ((cond p41.1
 (some (true, p41.2))
 ((ldA 3 p41.2 q26 q27).bind fun v42 =>
 (ldV p41.2 q28 (q29 + 2)).bind fun v43 =>
 (C 64 [v42, v43] p41.2).bind fun p44 =>
 (asB p44.1).bind fun b45 =>
 some ((!b45), p44.2))) : Option (Bool × H)).bind fun p46 =>
 cond p46.1 (
 some ((.bool false), p46.2)) (
 (ldV p46.2 q28 (q29 + 1)).bind fun v47 =>
 (lenV v47).bind fun n48 =>
 (L 36 9 [(ptr q24 q25), (ptr q26 q27), (.int .i64 (-1 : Int)), v47, (.int .i64 ((n48 : Nat) : Int)), (.int .i64 (0 : Int))] p46.2).bind fun p49 =>
 cond (p49.1 == 0) (
 some ((.bool true), p49.2.2)) (
 (asB (lget p49.2.1 0)).bind fun b50 =>
 some ((.bool b50), p49.2.2)))
 cond b21 (
 (ldI .i64 p20.2 h.next (0 + 3)).bind fun x51 =>
 (ldI .i64 p20.2 h.next (0 + 1)).bind fun x52 =>
 j33 h.next 0 (h2.next + 0) 0 (h2.next + 1) 0 (cond (decide ((0 : Int) > (IntKind.wrap .i64 (x51 - x52)))) (0 : Int) (IntKind.wrap .i64 (x51 - x52))) b21 p20.2) (
 j33 h.next 0 (h2.next + 0) 0 (h2.next + 1) 0 x17 b21 p20.2)) none) none) none

theorem _diff_Patch__fits_eq (C : CF) (L : LF) (a : List Value) (h : H) : fnK E C L 36 Tryz.f36 a h = _diff_Patch__fits C L a h := by kernel_rfl

noncomputable def _diff_Patch__fits_L9 (C : CF) (L : LF) (a : List Value) (h : H) : Option (Nat × List Value × H) :=
 (asP (lget a 0)).bind fun p1 =>
 (asP (lget a 1)).bind fun p2 =>
 (asI .i64 (lget a 2)).bind fun x3 =>
 (asI .i64 (lget a 4)).bind fun x4 =>
 (asI .i64 (lget a 5)).bind fun x5 =>
 cond (decide (x5 < x4)) (
 (idx 7 (lget a 3) x5).bind fun p6 =>
 (ldA 7 h p6.1 p6.2).bind fun v7 =>
 let h8 := h.new (.cells [(.int .i64 (0)), (.bool false), (.bool false), (.int .i64 (0)), (.int .u64 (0)), (.string (bs [])), (.complex .f64 0 0)] 49 true false)
 (stV 7 h8 h.next 0 v7).bind fun h9 =>
 (ldI .i64 h9 h.next (0 + 0)).bind fun x10 =>
 ((cond (decide (x10 ≤ x3))
 (some (true, h9))
 ((ldI .i64 h9 h.next (0 + 0)).bind fun x11 =>
 (ldI .i64 h9 p1.1 (p1.2 + 1)).bind fun x12 =>
 (ldI .i64 h9 p1.1 (p1.2 + 3)).bind fun x13 =>
 some ((decide (x11 ≥ (cond (decide (x13 < x12)) x13 x12))), h9))) : Option (Bool × H)).bind fun p14 =>
 ((cond p14.1
 (some (true, p14.2))
 ((ldA 3 p14.2 p2.1 p2.2).bind fun v15 =>
 (ldA 6 p14.2 h.next (0 + 1)).bind fun v16 =>
 (bldS E 41 1 [(0, v16)]).bind fun l17 =>
 let h18 := p14.2.new (.cells l17 47 true false)
 (C 64 [v15, (.slice (some ⟨p14.2.next, 0, none⟩) 1 1)] h18).bind fun p19 =>
 (asB p19.1).bind fun b20 =>
 some ((!b20), p19.2))) : Option (Bool × H)).bind fun p21 =>
 cond p21.1 (
 some (1, [(.bool false)], p21.2)) (
 (ldI .i64 p21.2 h.next (0 + 0)).bind fun x22 =>
 L 36 9 [(ptr p1.1 p1.2), (ptr p2.1 p2.2), (.int .i64 x22), (lget a 3), (.int .i64 x4), (.int .i64 (IntKind.wrap .i64 (x5 + (1 : Int))))] p21.2)) (
 some (0, [], h))

theorem _diff_Patch__fits_L9_eq (C : CF) (L : LF) (a : List Value) (h : H) : lpN E C L 36 9 Tryz.f36 a h = _diff_Patch__fits_L9 C L a h := by kernel_rfl


/-- 23: armarium/armariumlaw21.edits -/
noncomputable def armariumlaw21_edits (C : CF) (L : LF) (a : List Value) (h : H) : Option (Value × H) :=
 (L 23 3 [(lget a 0), (.slice none 0 0), (.int .i64 (0 : Int))] h).bind fun p1 =>
 some ((lget p1.2.1 0), p1.2.2)

theorem armariumlaw21_edits_eq (C : CF) (L : LF) (a : List Value) (h : H) : fnK E C L 23 Tryz.f23 a h = armariumlaw21_edits C L a h := by kernel_rfl

noncomputable def armariumlaw21_edits_L3 (C : CF) (L : LF) (a : List Value) (h : H) : Option (Nat × List Value × H) :=
 (asI .i64 (lget a 2)).bind fun x1 =>
 (lenV (lget a 0)).bind fun n2 =>
 cond (decide (x1 < ((n2 : Nat) : Int))) (
 let h3 := holes 1 h
 (idx 7 (lget a 0) x1).bind fun p4 =>
 (ldI .i64 h3 p4.1 (p4.2 + 0)).bind fun x5 =>
 (idx 7 (lget a 0) x1).bind fun p6 =>
 (ldA 6 h3 p6.1 (p6.2 + 1)).bind fun v7 =>
 (bldT E 104 [(0, (.int .i64 x5)), (1, v7)]).bind fun v8 =>
 (bldS E 71 1 [(0, v8)]).bind fun l9 =>
 (appA 7 64 104 (h3.put (h.next + 0) (some (.cells l9 104 true false))) (lget a 1) (.slice (some ⟨(h.next + 0), 0, none⟩) 1 1)).bind fun p10 =>
 L 23 3 [(lget a 0), p10.1, (.int .i64 (IntKind.wrap .i64 (x1 + (1 : Int))))] p10.2) (
 some (0, [(lget a 1)], h))

theorem armariumlaw21_edits_L3_eq (C : CF) (L : LF) (a : List Value) (h : H) : lpN E C L 23 3 Tryz.f23 a h = armariumlaw21_edits_L3 C L a h := by kernel_rfl


/-- 22: armarium/armariumref21.May -/
noncomputable def armariumref21_May (C : CF) (L : LF) (a : List Value) (h : H) : Option (Value × H) :=
 (asI .i64 (lget a 2)).bind fun x1 =>
 (asI .i64 (lget a 3)).bind fun x2 =>
 (asB (lget a 4)).bind fun b3 =>
 (oneL (lget a 1).cells.toList).bind fun l5 =>
 let h4 := h.new (.cells l5 55 true false)
 (ldA 3 h4 h.next 0).bind fun v6 =>
 (C 48 [(lget a 0), v6] h4).bind fun p7 =>
 (asI .i64 p7.1).bind fun x8 =>
 let j19 : Int → Int → Bool → Value → Value → Nat → Nat → Bool → Int → H → Option (Value × H) := fun (x9 : Int) (x10 : Int) (b11 : Bool) (v12 : Value) (v13 : Value) (q14 : Nat) (q15 : Nat) (b16 : Bool) (x17 : Int) (h18 : H) =>
 ((cond (!(b11 == b16))
 (some (true, h18))
 ((lenV v13).bind fun n20 =>
 some ((((n20 : Nat) : Int) != x17), h18))) : Option (Bool × H)).bind fun p21 =>
 ((cond p21.1
 (some (true, p21.2))
 (((cond (!b16)
 ((lenV v12).bind fun n22 =>
 some ((decide (((n22 : Nat) : Int) > (0 : Int))), p21.2))
 (some (false, p21.2))) : Option (Bool × H)).bind fun p23 =>
 some (p23.1, p23.2))) : Option (Bool × H)).bind fun p24 =>
 cond p24.1 (
 some ((.bool false), p24.2)) (
 (L 22 9 [(.int .i64 x9), (.int .i64 x10), v12, v13, (ptr q14 q15), (.int .i64 (-1 : Int)), (.int .i64 (0 : Int))] p24.2).bind fun p25 =>
 cond (p25.1 == 0) (
 (asP (lget p25.2.1 1)).bind fun p26 =>
 (L 22 15 [(lget p25.2.1 0), (ptr p26.1 p26.2), (.int .i64 (0 : Int))] p25.2.2).bind fun p27 =>
 cond (p27.1 == 0) (
 some ((.bool true), p27.2.2)) (
 (asB (lget p27.2.1 0)).bind fun b28 =>
 some ((.bool b28), p27.2.2))) (
 (asB (lget p25.2.1 0)).bind fun b29 =>
 some ((.bool b29), p25.2.2)))
 cond (decide (x8 ≥ (0 : Int))) (
 j19 x1 x2 b3 (lget a 5) (lget a 6) h.next 0 (decide (x8 ≥ (0 : Int))) (cond (decide ((0 : Int) > (IntKind.wrap .i64 (x2 - x1)))) (0 : Int) (IntKind.wrap .i64 (x2 - x1))) p7.2) (
 j19 x1 x2 b3 (lget a 5) (lget a 6) h.next 0 (decide (x8 ≥ (0 : Int))) x2 p7.2)

theorem armariumref21_May_eq (C : CF) (L : LF) (a : List Value) (h : H) : fnK E C L 22 Tryz.f22 a h = armariumref21_May C L a h := by kernel_rfl

noncomputable def armariumref21_May_L9 (C : CF) (L : LF) (a : List Value) (h : H) : Option (Nat × List Value × H) :=
 (asI .i64 (lget a 0)).bind fun x1 =>
 (asI .i64 (lget a 1)).bind fun x2 =>
 (asP (lget a 4)).bind fun p3 =>
 (asI .i64 (lget a 5)).bind fun x4 =>
 (asI .i64 (lget a 6)).bind fun x5 =>
 (lenV (lget a 2)).bind fun n6 =>
 cond (decide (x5 < ((n6 : Nat) : Int))) (
 (idx 7 (lget a 2) x5).bind fun p7 =>
 (ldI .i64 h p7.1 (p7.2 + 0)).bind fun x8 =>
 cond (decide (x8 ≤ x4)) (
 cond true (
 cond true (
 cond true (
 some (1, [(.bool false)], h)) (
 (idx 7 (lget a 2) x5).bind fun p9 =>
 (ldI .i64 h p9.1 (p9.2 + 0)).bind fun x10 =>
 L 22 9 [(.int .i64 x1), (.int .i64 x2), (lget a 2), (lget a 3), (ptr p3.1 p3.2), (.int .i64 x10), (.int .i64 (IntKind.wrap .i64 (x5 + (1 : Int))))] h)) (
 (ldA 3 h p3.1 p3.2).bind fun v11 =>
 (idx 7 (lget a 2) x5).bind fun p12 =>
 (ldA 6 h p12.1 (p12.2 + 1)).bind fun v13 =>
 (C 49 [v11, v13] h).bind fun p14 =>
 (asB p14.1).bind fun b15 =>
 cond (!b15) (
 some (1, [(.bool false)], p14.2)) (
 (idx 7 (lget a 2) x5).bind fun p16 =>
 (ldI .i64 p14.2 p16.1 (p16.2 + 0)).bind fun x17 =>
 L 22 9 [(.int .i64 x1), (.int .i64 x2), (lget a 2), (lget a 3), (ptr p3.1 p3.2), (.int .i64 x17), (.int .i64 (IntKind.wrap .i64 (x5 + (1 : Int))))] p14.2))) (
 (idx 7 (lget a 2) x5).bind fun p18 =>
 (ldI .i64 h p18.1 (p18.2 + 0)).bind fun x19 =>
 cond (decide (x19 ≥ x2)) (
 cond true (
 some (1, [(.bool false)], h)) (
 (idx 7 (lget a 2) x5).bind fun p20 =>
 (ldI .i64 h p20.1 (p20.2 + 0)).bind fun x21 =>
 L 22 9 [(.int .i64 x1), (.int .i64 x2), (lget a 2), (lget a 3), (ptr p3.1 p3.2), (.int .i64 x21), (.int .i64 (IntKind.wrap .i64 (x5 + (1 : Int))))] h)) (
 (ldA 3 h p3.1 p3.2).bind fun v22 =>
 (idx 7 (lget a 2) x5).bind fun p23 =>
 (ldA 6 h p23.1 (p23.2 + 1)).bind fun v24 =>
 (C 49 [v22, v24] h).bind fun p25 =>
 (asB p25.1).bind fun b26 =>
 cond (!b26) (
 some (1, [(.bool false)], p25.2)) (
 (idx 7 (lget a 2) x5).bind fun p27 =>
 (ldI .i64 p25.2 p27.1 (p27.2 + 0)).bind fun x28 =>
 L 22 9 [(.int .i64 x1), (.int .i64 x2), (lget a 2), (lget a 3), (ptr p3.1 p3.2), (.int .i64 x28), (.int .i64 (IntKind.wrap .i64 (x5 + (1 : Int))))] p25.2)))) (
 (idx 7 (lget a 2) x5).bind fun p29 =>
 (ldI .i64 h p29.1 (p29.2 + 0)).bind fun x30 =>
 cond (decide (x30 ≥ x1)) (
 cond true (
 cond true (
 some (1, [(.bool false)], h)) (
 (idx 7 (lget a 2) x5).bind fun p31 =>
 (ldI .i64 h p31.1 (p31.2 + 0)).bind fun x32 =>
 L 22 9 [(.int .i64 x1), (.int .i64 x2), (lget a 2), (lget a 3), (ptr p3.1 p3.2), (.int .i64 x32), (.int .i64 (IntKind.wrap .i64 (x5 + (1 : Int))))] h)) (
 (ldA 3 h p3.1 p3.2).bind fun v33 =>
 (idx 7 (lget a 2) x5).bind fun p34 =>
 (ldA 6 h p34.1 (p34.2 + 1)).bind fun v35 =>
 (C 49 [v33, v35] h).bind fun p36 =>
 (asB p36.1).bind fun b37 =>
 cond (!b37) (
 some (1, [(.bool false)], p36.2)) (
 (idx 7 (lget a 2) x5).bind fun p38 =>
 (ldI .i64 p36.2 p38.1 (p38.2 + 0)).bind fun x39 =>
 L 22 9 [(.int .i64 x1), (.int .i64 x2), (lget a 2), (lget a 3), (ptr p3.1 p3.2), (.int .i64 x39), (.int .i64 (IntKind.wrap .i64 (x5 + (1 : Int))))] p36.2))) (
 (idx 7 (lget a 2) x5).bind fun p40 =>
 (ldI .i64 h p40.1 (p40.2 + 0)).bind fun x41 =>
 cond (decide (x41 ≥ x2)) (
 cond true (
 some (1, [(.bool false)], h)) (
 (idx 7 (lget a 2) x5).bind fun p42 =>
 (ldI .i64 h p42.1 (p42.2 + 0)).bind fun x43 =>
 L 22 9 [(.int .i64 x1), (.int .i64 x2), (lget a 2), (lget a 3), (ptr p3.1 p3.2), (.int .i64 x43), (.int .i64 (IntKind.wrap .i64 (x5 + (1 : Int))))] h)) (
 (ldA 3 h p3.1 p3.2).bind fun v44 =>
 (idx 7 (lget a 2) x5).bind fun p45 =>
 (ldA 6 h p45.1 (p45.2 + 1)).bind fun v46 =>
 (C 49 [v44, v46] h).bind fun p47 =>
 (asB p47.1).bind fun b48 =>
 cond (!b48) (
 some (1, [(.bool false)], p47.2)) (
 (idx 7 (lget a 2) x5).bind fun p49 =>
 (ldI .i64 p47.2 p49.1 (p49.2 + 0)).bind fun x50 =>
 L 22 9 [(.int .i64 x1), (.int .i64 x2), (lget a 2), (lget a 3), (ptr p3.1 p3.2), (.int .i64 x50), (.int .i64 (IntKind.wrap .i64 (x5 + (1 : Int))))] p47.2))))) (
 some (0, [(lget a 3), (ptr p3.1 p3.2)], h))

theorem armariumref21_May_L9_eq (C : CF) (L : LF) (a : List Value) (h : H) : lpN E C L 22 9 Tryz.f22 a h = armariumref21_May_L9 C L a h := by kernel_rfl

noncomputable def armariumref21_May_L15 (C : CF) (L : LF) (a : List Value) (h : H) : Option (Nat × List Value × H) :=
 (asP (lget a 1)).bind fun p1 =>
 (asI .i64 (lget a 2)).bind fun x2 =>
 (lenV (lget a 0)).bind fun n3 =>
 cond (decide (x2 < ((n3 : Nat) : Int))) (
 (ldA 3 h p1.1 p1.2).bind fun v4 =>
 (idx 6 (lget a 0) x2).bind fun p5 =>
 (ldA 6 h p5.1 p5.2).bind fun v6 =>
 (C 49 [v4, v6] h).bind fun p7 =>
 (asB p7.1).bind fun b8 =>
 cond (!b8) (
 some (1, [(.bool false)], p7.2)) (
 L 22 15 [(lget a 0), (ptr p1.1 p1.2), (.int .i64 (IntKind.wrap .i64 (x2 + (1 : Int))))] p7.2)) (
 some (0, [], h))

theorem armariumref21_May_L15_eq (C : CF) (L : LF) (a : List Value) (h : H) : lpN E C L 22 15 Tryz.f22 a h = armariumref21_May_L15 C L a h := by kernel_rfl


end Go.Arm
