/- shallow functions
   Plain laws: numbers in as few bytes as they need.
   Specs: the writer.
   Specs: the writer, on.
   Specs: the reader.
   Specs: the reader, on.
   Specs: the reader: texts, ends. -/
import Derived.Test.YtcambejnmifhmaaGreatDoorArm4
import Derived.KernelRfl
import Derived.Test.YtcambejnmifhmaaGreatDoorArm1
import Derived.Test.YtcambejnmifhmaaGreatDoorArm5
namespace Go.Arm
open Go.Proofs
set_option maxRecDepth 100000
/-- 8: armarium/diff.Diff -/
noncomputable def diff_Diff (C : CF) (L : LF) (a : List Value) (h : H) : Option (Value × H) :=
 (oneL (lget a 0).cells.toList).bind fun l2 =>
 let h1 := h.new (.cells l2 37 true false)
 (oneL (lget a 1).cells.toList).bind fun l4 =>
 let h3 := h1.new (.cells l4 37 true false)
 let h5 := h3.new (.cells [(.slice none 0 0), (.int .i64 (0)), (.slice none 0 0), (.int .i64 (0)), (.slice none 0 0)] 26 true false)
 (ldA 2 h5 h.next 0).bind fun v6 =>
 (ldA 2 h5 h1.next 0).bind fun v7 =>
 (bldS E 73 2 [(0, v6), (1, v7)]).bind fun l8 =>
 let h9 := h5.new (.cells l8 37 true false)
 (lenV (.slice (some ⟨h5.next, 0, none⟩) 2 2)).bind fun n10 =>
 (L 8 2 [(ptr h.next 0), (ptr h1.next 0), (ptr h3.next 0), (.slice (some ⟨h5.next, 0, none⟩) 2 2), (.int .i64 ((n10 : Nat) : Int)), (.int .i64 (0 : Int))] h9).bind fun p11 =>
 cond (p11.1 == 0) (
 (asP (lget p11.2.1 0)).bind fun p12 =>
 (asP (lget p11.2.1 1)).bind fun p13 =>
 (asP (lget p11.2.1 2)).bind fun p14 =>
 let h15 := holes 1 p11.2.2
 (ldV h15 p12.1 (p12.2 + 0)).bind fun v16 =>
 (C 25 [v16] h15).bind fun p17 =>
 (ldA 2 p17.2 p12.1 p12.2).bind fun v18 =>
 (((ldA 2 h15 p12.1 p12.2).bind fun v20 =>
 some (veq v18 v20)) : Option Bool).bind fun b19 =>
 cond b19 (
 (C 26 [v18] p17.2).bind fun p21 =>
 (asI .i64 p21.1).bind fun x22 =>
 (ldV p21.2 p13.1 (p13.2 + 0)).bind fun v23 =>
 (((ldV p17.2 p13.1 (p13.2 + 0)).bind fun v25 =>
 some (veq v23 v25)) : Option Bool).bind fun b24 =>
 cond b24 (
 (((ldV h15 p13.1 (p13.2 + 0)).bind fun v27 =>
 some (veq v23 v27)) : Option Bool).bind fun b26 =>
 cond b26 (
 (C 25 [v23] p21.2).bind fun p28 =>
 (ldA 2 p28.2 p13.1 p13.2).bind fun v29 =>
 (((ldA 2 p21.2 p13.1 p13.2).bind fun v31 =>
 some (veq v29 v31)) : Option Bool).bind fun b30 =>
 cond b30 (
 (((ldA 2 p17.2 p13.1 p13.2).bind fun v33 =>
 some (veq v29 v33)) : Option Bool).bind fun b32 =>
 cond b32 (
 (((ldA 2 h15 p13.1 p13.2).bind fun v35 =>
 some (veq v29 v35)) : Option Bool).bind fun b34 =>
 cond b34 (
 (C 26 [v29] p28.2).bind fun p36 =>
 (asI .i64 p36.1).bind fun x37 =>
 (bldT E 26 [(0, p17.1), (1, (.int .i64 x22)), (2, p28.1), (3, (.int .i64 x37))]).bind fun v38 =>
 (stV 5 (p36.2.put (p11.2.2.next + 0) (some (.cells [(.slice none 0 0), (.int .i64 (0)), (.slice none 0 0), (.int .i64 (0)), (.slice none 0 0)] 26 true false))) (p11.2.2.next + 0) 0 v38).bind fun h39 =>
 (ldV h39 p13.1 (p13.2 + 0)).bind fun v40 =>
 (lenV v40).bind fun n41 =>
 (L 8 10 [(ptr p12.1 p12.2), (ptr p13.1 p13.2), (ptr p14.1 p14.2), (ptr (p11.2.2.next + 0) 0), v40, (.int .i64 ((n41 : Nat) : Int)), (.int .i64 (0 : Int))] h39).bind fun p42 =>
 (asP (lget p42.2.1 0)).bind fun p43 =>
 (asP (lget p42.2.1 1)).bind fun p44 =>
 (ldA 5 p42.2.2 p44.1 p44.2).bind fun v45 =>
 (stV 5 p42.2.2 p43.1 p43.2 v45).bind fun h46 =>
 (ldA 5 h46 p43.1 p43.2).bind fun v47 =>
 some (.tuple #[v47, (.int .i64 (0 : Int))], h46)) none) none) none) none) none) none) (
 (asP (lget p11.2.1 0)).bind fun p48 =>
 (asI .i64 (lget p11.2.1 1)).bind fun x49 =>
 (ldA 5 p11.2.2 p48.1 p48.2).bind fun v50 =>
 some (.tuple #[v50, (.int .i64 x49)], p11.2.2))

theorem diff_Diff_eq (C : CF) (L : LF) (a : List Value) (h : H) : fnK E C L 8 Tryz.f8 a h = diff_Diff C L a h := by kernel_rfl

noncomputable def diff_Diff_L2 (C : CF) (L : LF) (a : List Value) (h : H) : Option (Nat × List Value × H) :=
 (asP (lget a 0)).bind fun p1 =>
 (asP (lget a 1)).bind fun p2 =>
 (asP (lget a 2)).bind fun p3 =>
 (asI .i64 (lget a 4)).bind fun x4 =>
 (asI .i64 (lget a 5)).bind fun x5 =>
 cond (decide (x5 < x4)) (
 (idx 2 (lget a 3) x5).bind fun p6 =>
 (ldA 2 h p6.1 p6.2).bind fun v7 =>
 let h8 := h.new (.cells [(.slice none 0 0), (.slice none 0 0)] 37 true false)
 (stV 2 h8 h.next 0 v7).bind fun h9 =>
 (ldA 2 h9 h.next 0).bind fun v10 =>
 (C 24 [v10] h9).bind fun p11 =>
 (asI .i64 p11.1).bind fun x12 =>
 cond (x12 != (0 : Int)) (
 (bldT E 26 []).bind fun v13 =>
 (stV 5 p11.2 p3.1 p3.2 v13).bind fun h14 =>
 some (1, [(ptr p3.1 p3.2), (.int .i64 x12)], h14)) (
 L 8 2 [(ptr p1.1 p1.2), (ptr p2.1 p2.2), (ptr p3.1 p3.2), (lget a 3), (.int .i64 x4), (.int .i64 (IntKind.wrap .i64 (x5 + (1 : Int))))] p11.2)) (
 some (0, [(ptr p1.1 p1.2), (ptr p2.1 p2.2), (ptr p3.1 p3.2)], h))

theorem diff_Diff_L2_eq (C : CF) (L : LF) (a : List Value) (h : H) : lpN E C L 8 2 Tryz.f8 a h = diff_Diff_L2 C L a h := by kernel_rfl

noncomputable def diff_Diff_L10 (C : CF) (L : LF) (a : List Value) (h : H) : Option (Nat × List Value × H) :=
 (asP (lget a 0)).bind fun p1 =>
 (asP (lget a 1)).bind fun p2 =>
 (asP (lget a 2)).bind fun p3 =>
 (asP (lget a 3)).bind fun p4 =>
 (asI .i64 (lget a 5)).bind fun x5 =>
 (asI .i64 (lget a 6)).bind fun x6 =>
 cond (decide (x6 < x5)) (
 (idx 3 (lget a 4) x6).bind fun p7 =>
 (ldA 3 h p7.1 p7.2).bind fun v8 =>
 let h9 := h.new (.cells [(.string (bs [])), (.int .i64 (0)), (.bool false)] 55 true false)
 (stV 3 h9 h.next 0 v8).bind fun h10 =>
 let h11 := holes 1 h10
 (ldV h11 p4.1 (p4.2 + 4)).bind fun v12 =>
 (ldA 2 h11 p1.1 p1.2).bind fun v13 =>
 (ldA 3 h11 h.next 0).bind fun v14 =>
 (ldV h11 p2.1 (p2.2 + 1)).bind fun v15 =>
 (idx 1 v15 x6).bind fun p16 =>
 (ldV h11 p16.1 p16.2).bind fun v17 =>
 (C 27 [v13, v14, v17] h11).bind fun p18 =>
 (((ldV p18.2 p4.1 (p4.2 + 4)).bind fun v20 =>
 some (veq v12 v20)) : Option Bool).bind fun b19 =>
 cond b19 (
 (bldS E 24 1 [(0, p18.1)]).bind fun l21 =>
 (appA 3 56 43 (p18.2.put (h10.next + 0) (some (.cells l21 43 true false))) v12 (.slice (some ⟨(h10.next + 0), 0, none⟩) 1 1)).bind fun p22 =>
 (stV 1 p22.2 p4.1 (p4.2 + 4) p22.1).bind fun h23 =>
 L 8 10 [(ptr p1.1 p1.2), (ptr p2.1 p2.2), (ptr p3.1 p3.2), (ptr p4.1 p4.2), (lget a 4), (.int .i64 x5), (.int .i64 (IntKind.wrap .i64 (x6 + (1 : Int))))] h23) none) (
 some (0, [(ptr p3.1 p3.2), (ptr p4.1 p4.2)], h))

theorem diff_Diff_L10_eq (C : CF) (L : LF) (a : List Value) (h : H) : lpN E C L 8 10 Tryz.f8 a h = diff_Diff_L10 C L a h := by kernel_rfl


/-- 73: armarium/schema.kinds$2 -/
noncomputable def schema_kinds_2 (C : CF) (L : LF) (a : List Value) (h : H) : Option (Value × H) :=
 (oneL (lget a 0).cells.toList).bind fun l2 =>
 let h1 := h.new (.cells l2 47 true false)
 (oneL (lget a 1).cells.toList).bind fun l4 =>
 let h3 := h1.new (.cells l4 47 true false)
 (ldB h3 h.next (0 + 1)).bind fun b5 =>
 (ldB h3 h1.next (0 + 1)).bind fun b6 =>
 some ((.bool (b5 == b6)), h3)

theorem schema_kinds_2_eq (C : CF) (L : LF) (a : List Value) (h : H) : fnK E C L 73 Tryz.f73 a h = schema_kinds_2 C L a h := by kernel_rfl


/-- 76: armarium/schema.kinds$5 -/
noncomputable def schema_kinds_5 (C : CF) (L : LF) (a : List Value) (h : H) : Option (Value × H) :=
 (oneL (lget a 0).cells.toList).bind fun l2 =>
 let h1 := h.new (.cells l2 47 true false)
 let h3 := h1.new (.cells [(.bool false), (.bool false), (.int .i64 (0)), (.int .u64 (0)), (.string (bs [])), (.complex .f64 0 0)] 47 true false)
 (stV 1 h3 h.next (0 + 3) (.int .u64 (0 : Int))).bind fun h4 =>
 (ldA 6 h4 h.next 0).bind fun v5 =>
 (stV 6 h4 h1.next 0 v5).bind fun h6 =>
 (ldA 6 h6 h1.next 0).bind fun v7 =>
 some (v7, h6)

theorem schema_kinds_5_eq (C : CF) (L : LF) (a : List Value) (h : H) : fnK E C L 76 Tryz.f76 a h = schema_kinds_5 C L a h := by kernel_rfl


/-- 79: armarium/schema.text -/
noncomputable def schema_text (C : CF) (L : LF) (a : List Value) (h : H) : Option (Value × H) :=
 (oneL (lget a 0).cells.toList).bind fun l2 =>
 let h1 := h.new (.cells l2 47 true false)
 (oneL (lget a 1).cells.toList).bind fun l4 =>
 let h3 := h1.new (.cells l4 47 true false)
 (ldS h3 h.next (0 + 4)).bind fun s5 =>
 (ldS h3 h1.next (0 + 4)).bind fun s6 =>
 some ((.bool (seq s5 s6)), h3)

theorem schema_text_eq (C : CF) (L : LF) (a : List Value) (h : H) : fnK E C L 79 Tryz.f79 a h = schema_text C L a h := by kernel_rfl


/-- 81: armarium/schema.kinds$8 -/
noncomputable def schema_kinds_8 (C : CF) (L : LF) (a : List Value) (h : H) : Option (Value × H) :=
 (oneL (lget a 0).cells.toList).bind fun l2 =>
 let h1 := h.new (.cells l2 47 true false)
 (ldV h1 h.next (0 + 5)).bind fun v3 =>
 (realV v3).bind fun v4 =>
 (C 82 [v4] h1).bind fun p5 =>
 (asB p5.1).bind fun b6 =>
 ((cond b6
 ((ldV p5.2 h.next (0 + 5)).bind fun v7 =>
 (imagV v7).bind fun v8 =>
 (C 82 [v8] p5.2).bind fun p9 =>
 (asB p9.1).bind fun b10 =>
 some (b10, p9.2))
 (some (false, p5.2))) : Option (Bool × H)).bind fun p11 =>
 some ((.bool p11.1), p11.2)

theorem schema_kinds_8_eq (C : CF) (L : LF) (a : List Value) (h : H) : fnK E C L 81 Tryz.f81 a h = schema_kinds_8 C L a h := by kernel_rfl


/-- 51: armarium/schema.may -/
noncomputable def schema_may (C : CF) (L : LF) (a : List Value) (h : H) : Option (Value × H) :=
 (oneL (lget a 0).cells.toList).bind fun l2 =>
 let h1 := h.new (.cells l2 55 true false)
 (oneL (lget a 1).cells.toList).bind fun l4 =>
 let h3 := h1.new (.cells l4 110 true false)
 (oneL (lget a 2).cells.toList).bind fun l6 =>
 let h5 := h3.new (.cells l6 47 true false)
 (ldB h5 h3.next (0 + 0)).bind fun b7 =>
 cond b7 (
 (stV 1 h5 h3.next (0 + 0) (.bool false)).bind fun h8 =>
 (ldB h8 h.next (0 + 2)).bind fun b9 =>
 ((cond b9
 ((ldA 6 h8 h3.next 0).bind fun v10 =>
 (bldT E 47 []).bind fun v11 =>
 (eqT E 8 47 v10 v11).bind fun b12 =>
 some (b12, h8))
 (some (false, h8))) : Option (Bool × H)).bind fun p13 =>
 some ((.bool p13.1), p13.2)) (
 (ldV h5 h1.next (0 + 0)).bind fun v14 =>
 (ldA 6 h5 h3.next 0).bind fun v15 =>
 (callV C L v14 [v15] h5).bind fun p16 =>
 (asB p16.1).bind fun b17 =>
 ((cond b17
 ((ldV p16.2 h1.next (0 + 1)).bind fun v18 =>
 (ldA 6 p16.2 h3.next 0).bind fun v19 =>
 (callV C L v18 [v19] p16.2).bind fun p20 =>
 (bldT E 47 []).bind fun v21 =>
 (eqT E 8 47 p20.1 v21).bind fun b22 =>
 some (b22, p20.2))
 (some (false, p16.2))) : Option (Bool × H)).bind fun p23 =>
 some ((.bool p23.1), p23.2))

theorem schema_may_eq (C : CF) (L : LF) (a : List Value) (h : H) : fnK E C L 51 Tryz.f51 a h = schema_may C L a h := by kernel_rfl


/-- 56: (armarium/diff.pair).differs -/
noncomputable def _diff_pair__differs (C : CF) (L : LF) (a : List Value) (h : H) : Option (Value × H) :=
 (asI .i64 (lget a 1)).bind fun x1 =>
 (oneL (lget a 0).cells.toList).bind fun l3 =>
 let h2 := h.new (.cells l3 116 true false)
 (ldI .i64 h2 h.next (0 + 0)).bind fun x4 =>
 (ldV h2 h.next (0 + 1)).bind fun v5 =>
 (idx 6 v5 x1).bind fun p6 =>
 (ldA 6 h2 p6.1 p6.2).bind fun v7 =>
 (ldV h2 h.next (0 + 2)).bind fun v8 =>
 (idx 6 v8 x1).bind fun p9 =>
 (ldA 6 h2 p9.1 p9.2).bind fun v10 =>
 (C 85 [(.int .i64 x4), v7, v10] h2).bind fun p11 =>
 (asB p11.1).bind fun b12 =>
 some ((.bool (!b12)), p11.2)

theorem _diff_pair__differs_eq (C : CF) (L : LF) (a : List Value) (h : H) : fnK E C L 56 Tryz.f56 a h = _diff_pair__differs C L a h := by kernel_rfl


/-- 5: armarium/diff.Decode -/
noncomputable def diff_Decode (C : CF) (L : LF) (a : List Value) (h : H) : Option (Value × H) :=
 (asS (lget a 0)).bind fun s1 =>
 let h2 := h.new (.cells [(.slice none 0 0), (.int .i64 (0)), (.slice none 0 0), (.int .i64 (0)), (.slice none 0 0)] 26 true false)
 (C 10 [(.string s1)] h2).bind fun p3 =>
 let h4 := p3.2.new (.cells [(.slice none 0 0), (.int .i64 (0)), (.slice none 0 0), (.int .i64 (0)), (.slice none 0 0)] 26 true false)
 (C 11 [p3.1] h4).bind fun p5 =>
 (tup3 p5.1).bind fun p6 =>
 (asI .i64 p6.2.1).bind fun x7 =>
 (asI .i64 p6.2.2).bind fun x8 =>
 (stV 1 p5.2 p3.2.next (0 + 0) p6.1).bind fun h9 =>
 (stV 1 h9 p3.2.next (0 + 1) (.int .i64 x7)).bind fun h10 =>
 cond (x8 != (0 : Int)) (
 (bldT E 26 []).bind fun v11 =>
 (stV 5 h10 h.next 0 v11).bind fun h12 =>
 (ldA 5 h12 h.next 0).bind fun v13 =>
 some (.tuple #[v13, (.int .i64 x8)], h12)) (
 (C 11 [p3.1] h10).bind fun p14 =>
 (tup3 p14.1).bind fun p15 =>
 (asI .i64 p15.2.1).bind fun x16 =>
 (asI .i64 p15.2.2).bind fun x17 =>
 (stV 1 p14.2 p3.2.next (0 + 2) p15.1).bind fun h18 =>
 (stV 1 h18 p3.2.next (0 + 3) (.int .i64 x16)).bind fun h19 =>
 cond (x17 != (0 : Int)) (
 (bldT E 26 []).bind fun v20 =>
 (stV 5 h19 h.next 0 v20).bind fun h21 =>
 (ldA 5 h21 h.next 0).bind fun v22 =>
 some (.tuple #[v22, (.int .i64 x17)], h21)) (
 (ldV h19 p3.2.next (0 + 2)).bind fun v23 =>
 (lenV v23).bind fun n24 =>
 (L 5 11 [(ptr h.next 0), p3.1, (ptr p3.2.next 0), v23, (.int .i64 ((n24 : Nat) : Int)), (.int .i64 (0 : Int))] h19).bind fun p25 =>
 cond (p25.1 == 0) (
 (asP (lget p25.2.1 0)).bind fun p26 =>
 (asP (lget p25.2.1 2)).bind fun p27 =>
 (ldA 5 p25.2.2 p27.1 p27.2).bind fun v28 =>
 (C 13 [v28] p25.2.2).bind fun p29 =>
 (asI .i64 p29.1).bind fun x30 =>
 cond (x30 != (0 : Int)) (
 (bldT E 26 []).bind fun v31 =>
 (stV 5 p29.2 p26.1 p26.2 v31).bind fun h32 =>
 (ldA 5 h32 p26.1 p26.2).bind fun v33 =>
 some (.tuple #[v33, (.int .i64 (12 : Int))], h32)) (
 (C 14 [(lget p25.2.1 1)] p29.2).bind fun p34 =>
 (asI .i64 p34.1).bind fun x35 =>
 cond (x35 != (0 : Int)) (
 (bldT E 26 []).bind fun v36 =>
 (stV 5 p34.2 p26.1 p26.2 v36).bind fun h37 =>
 (ldA 5 h37 p26.1 p26.2).bind fun v38 =>
 some (.tuple #[v38, (.int .i64 x35)], h37)) (
 (ldA 5 p34.2 p27.1 p27.2).bind fun v39 =>
 (stV 5 p34.2 p26.1 p26.2 v39).bind fun h40 =>
 (ldA 5 h40 p26.1 p26.2).bind fun v41 =>
 some (.tuple #[v41, (.int .i64 (0 : Int))], h40)))) (
 (asP (lget p25.2.1 0)).bind fun p42 =>
 (asI .i64 (lget p25.2.1 1)).bind fun x43 =>
 (ldA 5 p25.2.2 p42.1 p42.2).bind fun v44 =>
 some (.tuple #[v44, (.int .i64 x43)], p25.2.2))))

theorem diff_Decode_eq (C : CF) (L : LF) (a : List Value) (h : H) : fnK E C L 5 Tryz.f5 a h = diff_Decode C L a h := by kernel_rfl

noncomputable def diff_Decode_L11 (C : CF) (L : LF) (a : List Value) (h : H) : Option (Nat × List Value × H) :=
 (asP (lget a 0)).bind fun p1 =>
 (asP (lget a 2)).bind fun p2 =>
 (asI .i64 (lget a 4)).bind fun x3 =>
 (asI .i64 (lget a 5)).bind fun x4 =>
 cond (decide (x4 < x3)) (
 (idx 3 (lget a 3) x4).bind fun p5 =>
 (ldA 3 h p5.1 p5.2).bind fun v6 =>
 let h7 := h.new (.cells [(.string (bs [])), (.int .i64 (0)), (.bool false)] 55 true false)
 (stV 3 h7 h.next 0 v6).bind fun h8 =>
 (ldA 5 h8 p2.1 p2.2).bind fun v9 =>
 (ldA 3 h8 h.next 0).bind fun v10 =>
 (C 12 [v9, (lget a 1), v10] h8).bind fun p11 =>
 (tup2 p11.1).bind fun p12 =>
 (asI .i64 p12.2).bind fun x13 =>
 let h14 := p11.2.new (.cells [(.bool false), (.slice none 0 0), (.slice none 0 0)] 43 true false)
 (stV 3 h14 p11.2.next 0 p12.1).bind fun h15 =>
 cond (x13 != (0 : Int)) (
 (bldT E 26 []).bind fun v16 =>
 (stV 5 h15 p1.1 p1.2 v16).bind fun h17 =>
 some (1, [(ptr p1.1 p1.2), (.int .i64 x13)], h17)) (
 (ldV h15 p2.1 (p2.2 + 4)).bind fun v18 =>
 (ldA 3 h15 p11.2.next 0).bind fun v19 =>
 (bldS E 24 1 [(0, v19)]).bind fun l20 =>
 let h21 := h15.new (.cells l20 43 true false)
 (appA 3 56 43 h21 v18 (.slice (some ⟨h15.next, 0, none⟩) 1 1)).bind fun p22 =>
 (stV 1 p22.2 p2.1 (p2.2 + 4) p22.1).bind fun h23 =>
 L 5 11 [(ptr p1.1 p1.2), (lget a 1), (ptr p2.1 p2.2), (lget a 3), (.int .i64 x3), (.int .i64 (IntKind.wrap .i64 (x4 + (1 : Int))))] h23)) (
 some (0, [(ptr p1.1 p1.2), (lget a 1), (ptr p2.1 p2.2)], h))

theorem diff_Decode_L11_eq (C : CF) (L : LF) (a : List Value) (h : H) : lpN E C L 5 11 Tryz.f5 a h = diff_Decode_L11 C L a h := by kernel_rfl


/-- 29: (*armarium/wire.Reader).Err -/
noncomputable def __wire_Reader__Err (C : CF) (L : LF) (a : List Value) (h : H) : Option (Value × H) :=
 (nilT 0 (lget a 0)).bind fun b1 =>
 cond b1 (
 some ((.int .i64 (2 : Int)), h)) (
 (asP (lget a 0)).bind fun p2 =>
 (ldI .i64 h p2.1 (p2.2 + 2)).bind fun x3 =>
 some ((.int .i64 x3), h))

theorem __wire_Reader__Err_eq (C : CF) (L : LF) (a : List Value) (h : H) : fnK E C L 29 Tryz.f29 a h = __wire_Reader__Err C L a h := by kernel_rfl


/-- 14: (*armarium/wire.Reader).Done -/
noncomputable def __wire_Reader__Done (C : CF) (L : LF) (a : List Value) (h : H) : Option (Value × H) :=
 (C 29 [(lget a 0)] h).bind fun p1 =>
 (asI .i64 p1.1).bind fun x2 =>
 cond (x2 != (0 : Int)) (
 some ((.int .i64 x2), p1.2)) (
 (C 37 [(lget a 0)] p1.2).bind fun p3 =>
 (asI .i64 p3.1).bind fun x4 =>
 cond (decide (x4 > (0 : Int))) (
 some ((.int .i64 (11 : Int)), p3.2)) (
 some ((.int .i64 (0 : Int)), p3.2)))

theorem __wire_Reader__Done_eq (C : CF) (L : LF) (a : List Value) (h : H) : fnK E C L 14 Tryz.f14 a h = __wire_Reader__Done C L a h := by kernel_rfl


/-- 32: slices.Contains[[]armarium/api.Column,armarium/api.Column] -/
noncomputable def slices_Contains___api_Column_api_Column_ (C : CF) (L : LF) (a : List Value) (h : H) : Option (Value × H) :=
 (oneL (lget a 1).cells.toList).bind fun l2 =>
 let h1 := h.new (.cells l2 55 true false)
 (ldA 3 h1 h.next 0).bind fun v3 =>
 (C 53 [(lget a 0), v3] h1).bind fun p4 =>
 (asI .i64 p4.1).bind fun x5 =>
 some ((.bool (decide (x5 ≥ (0 : Int)))), p4.2)

theorem slices_Contains___api_Column_api_Column__eq (C : CF) (L : LF) (a : List Value) (h : H) : fnK E C L 32 Tryz.f32 a h = slices_Contains___api_Column_api_Column_ C L a h := by kernel_rfl


/-- 33: armarium/diff.edits -/
noncomputable def diff_edits (C : CF) (L : LF) (a : List Value) (h : H) : Option (Value × H) :=
 (asI .i64 (lget a 1)).bind fun x1 =>
 (asI .i64 (lget a 2)).bind fun x2 =>
 (C 31 [(lget a 0)] h).bind fun p3 =>
 (asI .u64 p3.1).bind fun x4 =>
 (C 29 [(lget a 0)] p3.2).bind fun p5 =>
 (asI .i64 p5.1).bind fun x6 =>
 cond (x6 != (0 : Int)) (
 (C 29 [(lget a 0)] p5.2).bind fun p7 =>
 (asI .i64 p7.1).bind fun x8 =>
 some (.tuple #[(.slice none 0 0), (.int .i64 x8)], p7.2)) (
 cond (decide (x4 > (IntKind.wrap .u64 x2))) (
 some (.tuple #[(.slice none 0 0), (.int .i64 (12 : Int))], p5.2)) (
 (L 33 9 [(lget a 0), (.int .i64 x1), (.int .i64 x2), (.slice none 0 0), (.int .i64 (0 : Int)), (.int .u64 x4), (.int .u64 (0 : Int))] p5.2).bind fun p9 =>
 cond (p9.1 == 0) (
 some (.tuple #[(lget p9.2.1 0), (.int .i64 (0 : Int))], p9.2.2)) (
 (asI .i64 (lget p9.2.1 1)).bind fun x10 =>
 some (.tuple #[(lget p9.2.1 0), (.int .i64 x10)], p9.2.2))))

theorem diff_edits_eq (C : CF) (L : LF) (a : List Value) (h : H) : fnK E C L 33 Tryz.f33 a h = diff_edits C L a h := by kernel_rfl

noncomputable def diff_edits_L9 (C : CF) (L : LF) (a : List Value) (h : H) : Option (Nat × List Value × H) :=
 (asI .i64 (lget a 1)).bind fun x1 =>
 (asI .i64 (lget a 2)).bind fun x2 =>
 (asI .i64 (lget a 4)).bind fun x3 =>
 (asI .u64 (lget a 5)).bind fun x4 =>
 (asI .u64 (lget a 6)).bind fun x5 =>
 cond (decide (x5 < x4)) (
 (C 31 [(lget a 0)] h).bind fun p6 =>
 (asI .u64 p6.1).bind fun x7 =>
 (C 29 [(lget a 0)] p6.2).bind fun p8 =>
 (asI .i64 p8.1).bind fun x9 =>
 cond (x9 != (0 : Int)) (
 (C 29 [(lget a 0)] p8.2).bind fun p10 =>
 (asI .i64 p10.1).bind fun x11 =>
 some (1, [(.slice none 0 0), (.int .i64 x11)], p10.2)) (
 cond (decide (x7 ≥ (IntKind.wrap .u64 (IntKind.wrap .i64 (x2 - x3))))) (
 some (1, [(.slice none 0 0), (.int .i64 (12 : Int))], p8.2)) (
 (C 60 [(lget a 0)] p8.2).bind fun p12 =>
 (asI .u8 p12.1).bind fun x13 =>
 (C 29 [(lget a 0)] p12.2).bind fun p14 =>
 (asI .i64 p14.1).bind fun x15 =>
 cond (x15 != (0 : Int)) (
 (C 29 [(lget a 0)] p14.2).bind fun p16 =>
 (asI .i64 p16.1).bind fun x17 =>
 some (1, [(.slice none 0 0), (.int .i64 x17)], p16.2)) (
 cond (decide (x13 > (1 : Int))) (
 some (1, [(.slice none 0 0), (.int .i64 (12 : Int))], p14.2)) (
 (bldT E 47 [(0, (.bool (x13 == (1 : Int))))]).bind fun v18 =>
 (bldT E 49 [(0, (.int .i64 (IntKind.wrap .i64 (x3 + (IntKind.wrap .i64 x7))))), (1, v18)]).bind fun v19 =>
 let h20 := p14.2.new (.cells [(.int .i64 (0)), (.bool false), (.bool false), (.int .i64 (0)), (.int .u64 (0)), (.string (bs [])), (.complex .f64 0 0)] 49 true false)
 (stV 7 h20 p14.2.next 0 v19).bind fun h21 =>
 let j31 : Value → Int → Int → Value → Nat → Nat → Int → Int → H → Option (Nat × List Value × H) := fun (v22 : Value) (x23 : Int) (x24 : Int) (v25 : Value) (q26 : Nat) (q27 : Nat) (x28 : Int) (x29 : Int) (h30 : H) =>
 (ldA 7 h30 q26 q27).bind fun v32 =>
 (bldS E 40 1 [(0, v32)]).bind fun l33 =>
 let h34 := h30.new (.cells l33 49 true false)
 (appA 7 64 49 h34 v25 (.slice (some ⟨h30.next, 0, none⟩) 1 1)).bind fun p35 =>
 (ldI .i64 p35.2 q26 (q27 + 0)).bind fun x36 =>
 L 33 9 [v22, (.int .i64 x23), (.int .i64 x24), p35.1, (.int .i64 (IntKind.wrap .i64 (x36 + (1 : Int)))), (.int .u64 x28), (.int .u64 (IntKind.wrap .u64 (x29 + (1 : Int))))] p35.2
 cond (x13 == (0 : Int)) (
 (C 61 [(lget a 0), (.int .i64 x1)] h21).bind fun p37 =>
 (tup2 p37.1).bind fun p38 =>
 (asI .i64 p38.2).bind fun x39 =>
 let h40 := p37.2.new (.cells [(.bool false), (.bool false), (.int .i64 (0)), (.int .u64 (0)), (.string (bs [])), (.complex .f64 0 0)] 47 true false)
 (stV 6 h40 p37.2.next 0 p38.1).bind fun h41 =>
 cond (x39 != (0 : Int)) (
 some (1, [(.slice none 0 0), (.int .i64 x39)], h41)) (
 (ldA 6 h41 p37.2.next 0).bind fun v42 =>
 (stV 6 h41 p14.2.next (0 + 1) v42).bind fun h43 =>
 j31 (lget a 0) x1 x2 (lget a 3) p14.2.next 0 x4 x5 h43)) (
 j31 (lget a 0) x1 x2 (lget a 3) p14.2.next 0 x4 x5 h21)))))) (
 some (0, [(lget a 3)], h))

theorem diff_edits_L9_eq (C : CF) (L : LF) (a : List Value) (h : H) : lpN E C L 33 9 Tryz.f33 a h = diff_edits_L9 C L a h := by kernel_rfl


/-- 91: (*armarium/wire.Reader).Raw -/
noncomputable def __wire_Reader__Raw (C : CF) (L : LF) (a : List Value) (h : H) : Option (Value × H) :=
 (asI .i64 (lget a 1)).bind fun x1 =>
 let j5 : Value → Int → H → Option (Value × H) := fun (v2 : Value) (x3 : Int) (h4 : H) =>
 (C 59 [v2, (.int .i64 x3)] h4).bind fun p6 =>
 (asS p6.1).bind fun s7 =>
 some ((.string s7), p6.2)
 ((cond (decide (x1 < (0 : Int)))
 ((C 29 [(lget a 0)] h).bind fun p8 =>
 (asI .i64 p8.1).bind fun x9 =>
 some ((x9 == (0 : Int)), p8.2))
 (some (false, h))) : Option (Bool × H)).bind fun p10 =>
 cond p10.1 (
 (asP (lget a 0)).bind fun p11 =>
 (ldI .i64 p10.2 p11.1 (p11.2 + 1)).bind fun x12 =>
 (C 58 [(lget a 0), (.int .i64 (1 : Int)), (.int .i64 x12)] p10.2).bind fun p13 =>
 j5 (lget a 0) x1 p13.2) (
 j5 (lget a 0) x1 p10.2)

theorem __wire_Reader__Raw_eq (C : CF) (L : LF) (a : List Value) (h : H) : fnK E C L 91 Tryz.f91 a h = __wire_Reader__Raw C L a h := by kernel_rfl


/-- 90: armarium/column.ways -/
noncomputable def column_ways (C : CF) (L : LF) (a : List Value) (h : H) : Option (Value × H) :=
 let h1 := h.new (.cells [.nilFunc, .nilFunc, .nilFunc, .nilFunc, .nilFunc, .nilFunc, .nilFunc, .nilFunc, .nilFunc, .nilFunc] 148 true false)
 let h2 := h1.new (.cells [.nilFunc, .nilFunc, .nilFunc, .nilFunc, .nilFunc, .nilFunc, .nilFunc, .nilFunc, .nilFunc, .nilFunc] 148 true false)
 (C 101 [(.func (.func 102) #[] #[])] h2).bind fun p3 =>
 (bldT E 147 [(0, p3.1), (1, (.func (.func 103) #[] #[]))]).bind fun v4 =>
 cond (decide (0 ≤ (1 : Int)) && decide ((1 : Int) < ((5 : Nat) : Int))) (
 (stV 2 p3.2 h1.next (0 + (Int.toNat (1 : Int)) * 2) v4).bind fun h5 =>
 (C 101 [(.func (.func 104) #[] #[])] h5).bind fun p6 =>
 (bldT E 147 [(0, p6.1), (1, (.func (.func 105) #[] #[]))]).bind fun v7 =>
 cond (decide (0 ≤ (2 : Int)) && decide ((2 : Int) < ((5 : Nat) : Int))) (
 (stV 2 p6.2 h1.next (0 + (Int.toNat (2 : Int)) * 2) v7).bind fun h8 =>
 (bldT E 147 [(0, (.func (.func 106) #[] #[])), (1, (.func (.func 107) #[] #[]))]).bind fun v9 =>
 cond (decide (0 ≤ (3 : Int)) && decide ((3 : Int) < ((5 : Nat) : Int))) (
 (stV 2 h8 h1.next (0 + (Int.toNat (3 : Int)) * 2) v9).bind fun h10 =>
 (C 101 [(.func (.func 108) #[] #[])] h10).bind fun p11 =>
 (bldT E 147 [(0, p11.1), (1, (.func (.func 109) #[] #[]))]).bind fun v12 =>
 cond (decide (0 ≤ (4 : Int)) && decide ((4 : Int) < ((5 : Nat) : Int))) (
 (stV 2 p11.2 h1.next (0 + (Int.toNat (4 : Int)) * 2) v12).bind fun h13 =>
 (ldA 10 h13 h1.next 0).bind fun v14 =>
 (stV 10 h13 h.next 0 v14).bind fun h15 =>
 (ldA 10 h15 h.next 0).bind fun v16 =>
 some (v16, h15)) none) none) none) none

theorem column_ways_eq (C : CF) (L : LF) (a : List Value) (h : H) : fnK E C L 90 Tryz.f90 a h = column_ways C L a h := by kernel_rfl


/-- 43: armarium/nulls.Pack -/
noncomputable def nulls_Pack (C : CF) (L : LF) (a : List Value) (h : H) : Option (Value × H) :=
 (lenV (lget a 0)).bind fun n1 =>
 (C 67 [(.int .i64 ((n1 : Nat) : Int))] h).bind fun p2 =>
 (asI .i64 p2.1).bind fun x3 =>
 (mkS 1 5 [(.int .u8 (0))] p2.2 x3 x3).bind fun p4 =>
 (lenV (lget a 0)).bind fun n5 =>
 (L 43 3 [p4.1, (lget a 0), (.int .i64 ((n5 : Nat) : Int)), (.int .i64 (0 : Int))] p4.2).bind fun p6 =>
 (strOf p6.2.2 (lget p6.2.1 0)).bind fun s7 =>
 some ((.string s7), p6.2.2)

theorem nulls_Pack_eq (C : CF) (L : LF) (a : List Value) (h : H) : fnK E C L 43 Tryz.f43 a h = nulls_Pack C L a h := by kernel_rfl

noncomputable def nulls_Pack_L3 (C : CF) (L : LF) (a : List Value) (h : H) : Option (Nat × List Value × H) :=
 (asI .i64 (lget a 2)).bind fun x1 =>
 (asI .i64 (lget a 3)).bind fun x2 =>
 cond (decide (x2 < x1)) (
 let j8 : Value → Value → Int → Int → H → Option (Nat × List Value × H) := fun (v3 : Value) (v4 : Value) (x5 : Int) (x6 : Int) (h7 : H) =>
 L 43 3 [v3, v4, (.int .i64 x5), (.int .i64 (IntKind.wrap .i64 (x6 + (1 : Int))))] h7
 (idx 1 (lget a 1) x2).bind fun p9 =>
 (ldB h p9.1 p9.2).bind fun b10 =>
 cond b10 (
 (idx 1 (lget a 0) (IntKind.wrap .i64 (Int.tdiv x2 (8 : Int)))).bind fun p11 =>
 (ldI .u8 h p11.1 p11.2).bind fun x12 =>
 cond (decide ((IntKind.wrap .u64 (Int.tmod x2 (8 : Int))) < 0)) none (
 (idx 1 (lget a 0) (IntKind.wrap .i64 (Int.tdiv x2 (8 : Int)))).bind fun p13 =>
 (stV 1 h p13.1 p13.2 (.int .u8 (ior .u8 x12 (ishl .u8 (1 : Int) (IntKind.wrap .u64 (Int.tmod x2 (8 : Int))))))).bind fun h14 =>
 j8 (lget a 0) (lget a 1) x1 x2 h14)) (
 j8 (lget a 0) (lget a 1) x1 x2 h)) (
 some (0, [(lget a 0)], h))

theorem nulls_Pack_L3_eq (C : CF) (L : LF) (a : List Value) (h : H) : lpN E C L 43 3 Tryz.f43 a h = nulls_Pack_L3 C L a h := by kernel_rfl


/-- 94: (*armarium/wire.Writer).fixed -/
noncomputable def __wire_Writer__fixed (C : CF) (L : LF) (a : List Value) (h : H) : Option (Value × H) :=
 (asI .u64 (lget a 1)).bind fun x1 =>
 (asI .i64 (lget a 2)).bind fun x2 =>
 (L 94 1 [(lget a 0), (.int .u64 x1), (.int .i64 x2), (.int .i64 (0 : Int))] h).bind fun p3 =>
 some (junk, p3.2.2)

theorem __wire_Writer__fixed_eq (C : CF) (L : LF) (a : List Value) (h : H) : fnK E C L 94 Tryz.f94 a h = __wire_Writer__fixed C L a h := by kernel_rfl

noncomputable def __wire_Writer__fixed_L1 (C : CF) (L : LF) (a : List Value) (h : H) : Option (Nat × List Value × H) :=
 (asI .u64 (lget a 1)).bind fun x1 =>
 (asI .i64 (lget a 2)).bind fun x2 =>
 (asI .i64 (lget a 3)).bind fun x3 =>
 cond (decide (x3 < x2)) (
 (bldS E 59 1 [(0, (.int .u8 (IntKind.wrap .u8 x1)))]).bind fun l4 =>
 let h5 := h.new (.cells l4 5 true false)
 (C 40 [(lget a 0), (.slice (some ⟨h.next, 0, none⟩) 1 1)] h5).bind fun p6 =>
 L 94 1 [(lget a 0), (.int .u64 (ishr .u64 x1 (8 : Int))), (.int .i64 x2), (.int .i64 (IntKind.wrap .i64 (x3 + (1 : Int))))] p6.2) (
 some (0, [], h))

theorem __wire_Writer__fixed_L1_eq (C : CF) (L : LF) (a : List Value) (h : H) : lpN E C L 94 1 Tryz.f94 a h = __wire_Writer__fixed_L1 C L a h := by kernel_rfl


/-- 96: (*armarium/wire.Writer).Svar -/
noncomputable def __wire_Writer__Svar (C : CF) (L : LF) (a : List Value) (h : H) : Option (Value × H) :=
 (asI .i64 (lget a 1)).bind fun x1 =>
 (C 17 [(lget a 0), (.int .u64 (ixor .u64 (ishl .u64 (IntKind.wrap .u64 x1) (1 : Int)) (IntKind.wrap .u64 (ishr .i64 x1 (63 : Int)))))] h).bind fun p2 =>
 some (junk, p2.2)

theorem __wire_Writer__Svar_eq (C : CF) (L : LF) (a : List Value) (h : H) : fnK E C L 96 Tryz.f96 a h = __wire_Writer__Svar C L a h := by kernel_rfl


/-- 103: armarium/plain.Decode -/
noncomputable def plain_Decode (C : CF) (L : LF) (a : List Value) (h : H) : Option (Value × H) :=
 (asI .i64 (lget a 0)).bind fun x1 =>
 (asS (lget a 1)).bind fun s2 =>
 (asI .i64 (lget a 2)).bind fun x3 =>
 (C 87 [(.int .i64 x1)] h).bind fun p4 =>
 (asB p4.1).bind fun b5 =>
 cond (!b5) (
 some (.tuple #[(.slice none 0 0), (.int .i64 (14 : Int))], p4.2)) (
 ((cond (decide (x3 < (0 : Int)))
 (some (true, p4.2))
 (some ((decide (x3 > (10000 : Int))), p4.2))) : Option (Bool × H)).bind fun p6 =>
 cond p6.1 (
 some (.tuple #[(.slice none 0 0), (.int .i64 (1 : Int))], p6.2)) (
 cond (x1 == (1 : Int)) (
 (C 111 [(.string s2), (.int .i64 x3)] p6.2).bind fun p7 =>
 (tup2 p7.1).bind fun p8 =>
 (asI .i64 p8.2).bind fun x9 =>
 some (.tuple #[p8.1, (.int .i64 x9)], p7.2)) (
 (C 10 [(.string s2)] p6.2).bind fun p10 =>
 (L 103 10 [(.int .i64 x1), p10.1, (.slice none 0 0), (.int .i64 x3), (.int .i64 (0 : Int))] p10.2).bind fun p11 =>
 cond (p11.1 == 0) (
 (C 14 [(lget p11.2.1 0)] p11.2.2).bind fun p12 =>
 (asI .i64 p12.1).bind fun x13 =>
 cond (x13 != (0 : Int)) (
 some (.tuple #[(.slice none 0 0), (.int .i64 x13)], p12.2)) (
 some (.tuple #[(lget p11.2.1 1), (.int .i64 (0 : Int))], p12.2))) (
 (asI .i64 (lget p11.2.1 1)).bind fun x14 =>
 some (.tuple #[(lget p11.2.1 0), (.int .i64 x14)], p11.2.2)))))

theorem plain_Decode_eq (C : CF) (L : LF) (a : List Value) (h : H) : fnK E C L 103 Tryz.f103 a h = plain_Decode C L a h := by kernel_rfl

noncomputable def plain_Decode_L10 (C : CF) (L : LF) (a : List Value) (h : H) : Option (Nat × List Value × H) :=
 (asI .i64 (lget a 0)).bind fun x1 =>
 (asI .i64 (lget a 3)).bind fun x2 =>
 (asI .i64 (lget a 4)).bind fun x3 =>
 cond (decide (x3 < x2)) (
 (C 61 [(lget a 1), (.int .i64 x1)] h).bind fun p4 =>
 (tup2 p4.1).bind fun p5 =>
 (asI .i64 p5.2).bind fun x6 =>
 let h7 := p4.2.new (.cells [(.bool false), (.bool false), (.int .i64 (0)), (.int .u64 (0)), (.string (bs [])), (.complex .f64 0 0)] 47 true false)
 (stV 6 h7 p4.2.next 0 p5.1).bind fun h8 =>
 cond (x6 != (0 : Int)) (
 some (1, [(.slice none 0 0), (.int .i64 x6)], h8)) (
 (ldA 6 h8 p4.2.next 0).bind fun v9 =>
 (bldS E 41 1 [(0, v9)]).bind fun l10 =>
 let h11 := h8.new (.cells l10 47 true false)
 (appA 6 56 47 h11 (lget a 2) (.slice (some ⟨h8.next, 0, none⟩) 1 1)).bind fun p12 =>
 L 103 10 [(.int .i64 x1), (lget a 1), p12.1, (.int .i64 x2), (.int .i64 (IntKind.wrap .i64 (x3 + (1 : Int))))] p12.2)) (
 some (0, [(lget a 1), (lget a 2)], h))

theorem plain_Decode_L10_eq (C : CF) (L : LF) (a : List Value) (h : H) : lpN E C L 103 10 Tryz.f103 a h = plain_Decode_L10 C L a h := by kernel_rfl


/-- 114: armarium/runs.Cells -/
noncomputable def runs_Cells (C : CF) (L : LF) (a : List Value) (h : H) : Option (Value × H) :=
 (lenV (lget a 0)).bind fun n1 =>
 (L 114 3 [(.slice none 0 0), (lget a 0), (.int .i64 ((n1 : Nat) : Int)), (.int .i64 (0 : Int))] h).bind fun p2 =>
 cond (p2.1 == 0) (
 some (.tuple #[(lget p2.2.1 0), (.int .i64 (0 : Int))], p2.2.2)) (
 (asI .i64 (lget p2.2.1 1)).bind fun x3 =>
 some (.tuple #[(lget p2.2.1 0), (.int .i64 x3)], p2.2.2))

theorem runs_Cells_eq (C : CF) (L : LF) (a : List Value) (h : H) : fnK E C L 114 Tryz.f114 a h = runs_Cells C L a h := by kernel_rfl

noncomputable def runs_Cells_L3 (C : CF) (L : LF) (a : List Value) (h : H) : Option (Nat × List Value × H) :=
 (asI .i64 (lget a 2)).bind fun x1 =>
 (asI .i64 (lget a 3)).bind fun x2 =>
 cond (decide (x2 < x1)) (
 (idx 7 (lget a 1) x2).bind fun p3 =>
 (ldA 7 h p3.1 p3.2).bind fun v4 =>
 let h5 := h.new (.cells [(.bool false), (.bool false), (.int .i64 (0)), (.int .u64 (0)), (.string (bs [])), (.complex .f64 0 0), (.int .i64 (0))] 166 true false)
 (stV 7 h5 h.next 0 v4).bind fun h6 =>
 (ldI .i64 h6 h.next (0 + 6)).bind fun x7 =>
 ((cond (decide (x7 < (1 : Int)))
 (some (true, h6))
 ((ldI .i64 h6 h.next (0 + 6)).bind fun x8 =>
 (lenV (lget a 0)).bind fun n9 =>
 some ((decide (x8 > (IntKind.wrap .i64 ((10000 : Int) - ((n9 : Nat) : Int))))), h6))) : Option (Bool × H)).bind fun p10 =>
 cond p10.1 (
 some (1, [(.slice none 0 0), (.int .i64 (1 : Int))], p10.2)) (
 (ldI .i64 p10.2 h.next (0 + 6)).bind fun x11 =>
 (L 114 8 [(lget a 0), (ptr h.next 0), (lget a 1), (.int .i64 x1), (.int .i64 x2), (.int .i64 x11), (.int .i64 (0 : Int))] p10.2).bind fun p12 =>
 (asI .i64 (lget p12.2.1 2)).bind fun x13 =>
 (asI .i64 (lget p12.2.1 3)).bind fun x14 =>
 L 114 3 [(lget p12.2.1 0), (lget p12.2.1 1), (.int .i64 x13), (.int .i64 (IntKind.wrap .i64 (x14 + (1 : Int))))] p12.2.2)) (
 some (0, [(lget a 0)], h))

theorem runs_Cells_L3_eq (C : CF) (L : LF) (a : List Value) (h : H) : lpN E C L 114 3 Tryz.f114 a h = runs_Cells_L3 C L a h := by kernel_rfl

noncomputable def runs_Cells_L8 (C : CF) (L : LF) (a : List Value) (h : H) : Option (Nat × List Value × H) :=
 (asP (lget a 1)).bind fun p1 =>
 (asI .i64 (lget a 3)).bind fun x2 =>
 (asI .i64 (lget a 4)).bind fun x3 =>
 (asI .i64 (lget a 5)).bind fun x4 =>
 (asI .i64 (lget a 6)).bind fun x5 =>
 cond (decide (x5 < x4)) (
 (ldA 6 h p1.1 (p1.2 + 0)).bind fun v6 =>
 (bldS E 41 1 [(0, v6)]).bind fun l7 =>
 let h8 := h.new (.cells l7 47 true false)
 (appA 6 56 47 h8 (lget a 0) (.slice (some ⟨h.next, 0, none⟩) 1 1)).bind fun p9 =>
 L 114 8 [p9.1, (ptr p1.1 p1.2), (lget a 2), (.int .i64 x2), (.int .i64 x3), (.int .i64 x4), (.int .i64 (IntKind.wrap .i64 (x5 + (1 : Int))))] p9.2) (
 some (0, [(lget a 0), (lget a 2), (.int .i64 x2), (.int .i64 x3)], h))

theorem runs_Cells_L8_eq (C : CF) (L : LF) (a : List Value) (h : H) : lpN E C L 114 8 Tryz.f114 a h = runs_Cells_L8 C L a h := by kernel_rfl


/-- 126: armarium/delta.whole -/
noncomputable def delta_whole (C : CF) (L : LF) (a : List Value) (h : H) : Option (Value × H) :=
 (fop .geq (lget a 0) (.float .f64 14069245235905429504)).bind fun v1 =>
 (asB v1).bind fun b2 =>
 ((cond b2
 ((fop .leq (lget a 0) (.float .f64 4845873199050653696)).bind fun v3 =>
 (asB v3).bind fun b4 =>
 some (b4, h))
 (some (false, h))) : Option (Bool × H)).bind fun p5 =>
 ((cond p5.1
 ((f2i .i64 (lget a 0)).bind fun x6 =>
 (fop .eql (.float .f64 (FloatKind.f64.nearest x6)) (lget a 0)).bind fun v7 =>
 (asB v7).bind fun b8 =>
 some (b8, p5.2))
 (some (false, p5.2))) : Option (Bool × H)).bind fun p9 =>
 some ((.bool p9.1), p9.2)

theorem delta_whole_eq (C : CF) (L : LF) (a : List Value) (h : H) : fnK E C L 126 Tryz.f126 a h = delta_whole C L a h := by kernel_rfl


/-- 107: armarium/delta.Decode -/
noncomputable def delta_Decode (C : CF) (L : LF) (a : List Value) (h : H) : Option (Value × H) :=
 (asI .i64 (lget a 0)).bind fun x1 =>
 (asS (lget a 1)).bind fun s2 =>
 (asI .i64 (lget a 2)).bind fun x3 =>
 (C 115 [(.int .i64 x1)] h).bind fun p4 =>
 (asB p4.1).bind fun b5 =>
 cond (!b5) (
 some (.tuple #[(.slice none 0 0), (.int .i64 (14 : Int))], p4.2)) (
 ((cond (decide (x3 < (0 : Int)))
 (some (true, p4.2))
 (some ((decide (x3 > (10000 : Int))), p4.2))) : Option (Bool × H)).bind fun p6 =>
 cond p6.1 (
 some (.tuple #[(.slice none 0 0), (.int .i64 (1 : Int))], p6.2)) (
 (C 10 [(.string s2)] p6.2).bind fun p7 =>
 let h8 := p7.2.new (.cells [(.bool false), (.bool false), (.int .i64 (0)), (.int .u64 (0)), (.string (bs [])), (.complex .f64 0 0)] 47 true false)
 (L 107 9 [(.int .i64 x1), p7.1, (.slice none 0 0), (ptr p7.2.next 0), (.int .i64 x3), (.int .i64 (0 : Int))] h8).bind fun p9 =>
 cond (p9.1 == 0) (
 (C 14 [(lget p9.2.1 0)] p9.2.2).bind fun p10 =>
 (asI .i64 p10.1).bind fun x11 =>
 cond (x11 != (0 : Int)) (
 some (.tuple #[(.slice none 0 0), (.int .i64 x11)], p10.2)) (
 some (.tuple #[(lget p9.2.1 1), (.int .i64 (0 : Int))], p10.2))) (
 (asI .i64 (lget p9.2.1 1)).bind fun x12 =>
 some (.tuple #[(lget p9.2.1 0), (.int .i64 x12)], p9.2.2))))

theorem delta_Decode_eq (C : CF) (L : LF) (a : List Value) (h : H) : fnK E C L 107 Tryz.f107 a h = delta_Decode C L a h := by kernel_rfl

noncomputable def delta_Decode_L9 (C : CF) (L : LF) (a : List Value) (h : H) : Option (Nat × List Value × H) :=
 (asI .i64 (lget a 0)).bind fun x1 =>
 (asP (lget a 3)).bind fun p2 =>
 (asI .i64 (lget a 4)).bind fun x3 =>
 (asI .i64 (lget a 5)).bind fun x4 =>
 cond (decide (x4 < x3)) (
 (C 119 [(lget a 1), (.int .i64 x1)] h).bind fun p5 =>
 (tup2 p5.1).bind fun p6 =>
 (asI .i64 p6.2).bind fun x7 =>
 let h8 := p5.2.new (.cells [(.bool false), (.bool false), (.int .i64 (0)), (.int .u64 (0)), (.string (bs [])), (.complex .f64 0 0)] 47 true false)
 (stV 6 h8 p5.2.next 0 p6.1).bind fun h9 =>
 cond (x7 != (0 : Int)) (
 some (1, [(.slice none 0 0), (.int .i64 x7)], h9)) (
 (ldV h9 p2.1 (p2.2 + 5)).bind fun v10 =>
 (ldV h9 p5.2.next (0 + 5)).bind fun v11 =>
 (C 118 [v10, v11] h9).bind fun p12 =>
 (asB p12.1).bind fun b13 =>
 cond (!b13) (
 some (1, [(.slice none 0 0), (.int .i64 (12 : Int))], p12.2)) (
 (ldA 6 p12.2 p2.1 p2.2).bind fun v14 =>
 (ldA 6 p12.2 p5.2.next 0).bind fun v15 =>
 (C 120 [(.int .i64 x1), v14, v15] p12.2).bind fun p16 =>
 (tup2 p16.1).bind fun p17 =>
 (asI .i64 p17.2).bind fun x18 =>
 (stV 6 p16.2 p2.1 p2.2 p17.1).bind fun h19 =>
 cond (x18 != (0 : Int)) (
 some (1, [(.slice none 0 0), (.int .i64 x18)], h19)) (
 (ldA 6 h19 p2.1 p2.2).bind fun v20 =>
 (bldS E 41 1 [(0, v20)]).bind fun l21 =>
 let h22 := h19.new (.cells l21 47 true false)
 (appA 6 56 47 h22 (lget a 2) (.slice (some ⟨h19.next, 0, none⟩) 1 1)).bind fun p23 =>
 L 107 9 [(.int .i64 x1), (lget a 1), p23.1, (ptr p2.1 p2.2), (.int .i64 x3), (.int .i64 (IntKind.wrap .i64 (x4 + (1 : Int))))] p23.2)))) (
 some (0, [(lget a 1), (lget a 2)], h))

theorem delta_Decode_L9_eq (C : CF) (L : LF) (a : List Value) (h : H) : lpN E C L 107 9 Tryz.f107 a h = delta_Decode_L9 C L a h := by kernel_rfl


/-- 122: (*armarium/dict.Dict).Len -/
noncomputable def __dict_Dict__Len (C : CF) (L : LF) (a : List Value) (h : H) : Option (Value × H) :=
 (nilT 0 (lget a 0)).bind fun b1 =>
 cond b1 (
 some ((.int .i64 (0 : Int)), h)) (
 (asP (lget a 0)).bind fun p2 =>
 (ldV h p2.1 (p2.2 + 1)).bind fun v3 =>
 (lenV v3).bind fun n4 =>
 some ((.int .i64 ((n4 : Nat) : Int)), h))

theorem __dict_Dict__Len_eq (C : CF) (L : LF) (a : List Value) (h : H) : fnK E C L 122 Tryz.f122 a h = __dict_Dict__Len C L a h := by kernel_rfl


/-- 109: armarium/dict.Decode -/
noncomputable def dict_Decode (C : CF) (L : LF) (a : List Value) (h : H) : Option (Value × H) :=
 (asI .i64 (lget a 0)).bind fun x1 =>
 (asS (lget a 1)).bind fun s2 =>
 (asI .i64 (lget a 2)).bind fun x3 =>
 ((cond (decide (x1 < (1 : Int)))
 (some (true, h))
 (some ((decide (x1 > (6 : Int))), h))) : Option (Bool × H)).bind fun p4 =>
 cond p4.1 (
 some (.tuple #[(.slice none 0 0), (.int .i64 (14 : Int))], p4.2)) (
 ((cond (decide (x3 < (0 : Int)))
 (some (true, p4.2))
 (some ((decide (x3 > (10000 : Int))), p4.2))) : Option (Bool × H)).bind fun p5 =>
 cond p5.1 (
 some (.tuple #[(.slice none 0 0), (.int .i64 (1 : Int))], p5.2)) (
 (C 10 [(.string s2)] p5.2).bind fun p6 =>
 (C 123 [p6.1, (.int .i64 x1), (.int .i64 x3)] p6.2).bind fun p7 =>
 (tup2 p7.1).bind fun p8 =>
 (asI .i64 p8.2).bind fun x9 =>
 cond (x9 != (0 : Int)) (
 some (.tuple #[(.slice none 0 0), (.int .i64 x9)], p7.2)) (
 (C 124 [p8.1, p6.1, (.int .i64 x3)] p7.2).bind fun p10 =>
 (tup3 p10.1).bind fun p11 =>
 (asI .i64 p11.2.1).bind fun x12 =>
 (asI .i64 p11.2.2).bind fun x13 =>
 cond (x13 != (0 : Int)) (
 some (.tuple #[(.slice none 0 0), (.int .i64 x13)], p10.2)) (
 (C 122 [p8.1] p10.2).bind fun p14 =>
 (asI .i64 p14.1).bind fun x15 =>
 cond (decide (x12 < x15)) (
 some (.tuple #[(.slice none 0 0), (.int .i64 (12 : Int))], p14.2)) (
 some (.tuple #[p11.1, (.int .i64 (0 : Int))], p14.2))))))

theorem dict_Decode_eq (C : CF) (L : LF) (a : List Value) (h : H) : fnK E C L 109 Tryz.f109 a h = dict_Decode C L a h := by kernel_rfl


/-- 92: armarium/nulls.Count -/
noncomputable def nulls_Count (C : CF) (L : LF) (a : List Value) (h : H) : Option (Value × H) :=
 (lenV (lget a 0)).bind fun n1 =>
 (L 92 3 [(.int .i64 (0 : Int)), (lget a 0), (.int .i64 ((n1 : Nat) : Int)), (.int .i64 (0 : Int))] h).bind fun p2 =>
 (asI .i64 (lget p2.2.1 0)).bind fun x3 =>
 some ((.int .i64 x3), p2.2.2)

theorem nulls_Count_eq (C : CF) (L : LF) (a : List Value) (h : H) : fnK E C L 92 Tryz.f92 a h = nulls_Count C L a h := by kernel_rfl

noncomputable def nulls_Count_L3 (C : CF) (L : LF) (a : List Value) (h : H) : Option (Nat × List Value × H) :=
 (asI .i64 (lget a 0)).bind fun x1 =>
 (asI .i64 (lget a 2)).bind fun x2 =>
 (asI .i64 (lget a 3)).bind fun x3 =>
 cond (decide (x3 < x2)) (
 let j9 : Int → Value → Int → Int → H → Option (Nat × List Value × H) := fun (x4 : Int) (v5 : Value) (x6 : Int) (x7 : Int) (h8 : H) =>
 L 92 3 [(.int .i64 x4), v5, (.int .i64 x6), (.int .i64 (IntKind.wrap .i64 (x7 + (1 : Int))))] h8
 (idx 1 (lget a 1) x3).bind fun p10 =>
 (ldB h p10.1 p10.2).bind fun b11 =>
 cond b11 (
 j9 (IntKind.wrap .i64 (x1 + (1 : Int))) (lget a 1) x2 x3 h) (
 j9 x1 (lget a 1) x2 x3 h)) (
 some (0, [(.int .i64 x1)], h))

theorem nulls_Count_L3_eq (C : CF) (L : LF) (a : List Value) (h : H) : lpN E C L 92 3 Tryz.f92 a h = nulls_Count_L3 C L a h := by kernel_rfl


/-- 42: armarium/column.alone -/
noncomputable def column_alone (C : CF) (L : LF) (a : List Value) (h : H) : Option (Value × H) :=
 (oneL (lget a 0).cells.toList).bind fun l2 =>
 let h1 := h.new (.cells l2 55 true false)
 let h3 := h1.new (.cells [(.slice none 0 0), (.slice none 0 0)] 37 true false)
 (ldA 3 h3 h.next 0).bind fun v4 =>
 (bldS E 23 1 [(0, v4)]).bind fun l5 =>
 let h6 := h3.new (.cells l5 55 true false)
 (bldS E 35 1 [(0, (lget a 1))]).bind fun l7 =>
 let h8 := h6.new (.cells l7 41 true false)
 (bldT E 37 [(0, (.slice (some ⟨h3.next, 0, none⟩) 1 1)), (1, (.slice (some ⟨h6.next, 0, none⟩) 1 1))]).bind fun v9 =>
 (stV 2 h8 h1.next 0 v9).bind fun h10 =>
 (ldA 2 h10 h1.next 0).bind fun v11 =>
 some (v11, h10)

theorem column_alone_eq (C : CF) (L : LF) (a : List Value) (h : H) : fnK E C L 42 Tryz.f42 a h = column_alone C L a h := by kernel_rfl


/-- 44: armarium/nulls.Nulls -/
noncomputable def nulls_Nulls (C : CF) (L : LF) (a : List Value) (h : H) : Option (Value × H) :=
 (lenV (lget a 0)).bind fun n1 =>
 (mkS 1 4 [(.bool false)] h ((n1 : Nat) : Int) ((n1 : Nat) : Int)).bind fun p2 =>
 (lenV (lget a 0)).bind fun n3 =>
 (L 44 3 [p2.1, (lget a 0), (.int .i64 ((n3 : Nat) : Int)), (.int .i64 (0 : Int))] p2.2).bind fun p4 =>
 some ((lget p4.2.1 0), p4.2.2)

theorem nulls_Nulls_eq (C : CF) (L : LF) (a : List Value) (h : H) : fnK E C L 44 Tryz.f44 a h = nulls_Nulls C L a h := by kernel_rfl

noncomputable def nulls_Nulls_L3 (C : CF) (L : LF) (a : List Value) (h : H) : Option (Nat × List Value × H) :=
 (asI .i64 (lget a 2)).bind fun x1 =>
 (asI .i64 (lget a 3)).bind fun x2 =>
 cond (decide (x2 < x1)) (
 (idx 6 (lget a 1) x2).bind fun p3 =>
 (ldA 6 h p3.1 p3.2).bind fun v4 =>
 let h5 := h.new (.cells [(.bool false), (.bool false), (.int .i64 (0)), (.int .u64 (0)), (.string (bs [])), (.complex .f64 0 0)] 47 true false)
 (stV 6 h5 h.next 0 v4).bind fun h6 =>
 (ldB h6 h.next (0 + 0)).bind fun b7 =>
 (idx 1 (lget a 0) x2).bind fun p8 =>
 (stV 1 h6 p8.1 p8.2 (.bool b7)).bind fun h9 =>
 L 44 3 [(lget a 0), (lget a 1), (.int .i64 x1), (.int .i64 (IntKind.wrap .i64 (x2 + (1 : Int))))] h9) (
 some (0, [(lget a 0)], h))

theorem nulls_Nulls_L3_eq (C : CF) (L : LF) (a : List Value) (h : H) : lpN E C L 44 3 Tryz.f44 a h = nulls_Nulls_L3 C L a h := by kernel_rfl


/-- 13: armarium/diff.Check -/
noncomputable def diff_Check (C : CF) (L : LF) (a : List Value) (h : H) : Option (Value × H) :=
 (oneL (lget a 0).cells.toList).bind fun l2 =>
 let h1 := h.new (.cells l2 26 true false)
 (ldV h1 h.next (0 + 0)).bind fun v3 =>
 (C 35 [v3] h1).bind fun p4 =>
 (asI .i64 p4.1).bind fun x5 =>
 ((cond (x5 != (0 : Int))
 (some (true, p4.2))
 ((ldV p4.2 h.next (0 + 2)).bind fun v6 =>
 (C 35 [v6] p4.2).bind fun p7 =>
 (asI .i64 p7.1).bind fun x8 =>
 some ((x8 != (0 : Int)), p7.2))) : Option (Bool × H)).bind fun p9 =>
 cond p9.1 (
 some ((.int .i64 (30 : Int)), p9.2)) (
 (ldI .i64 p9.2 h.next (0 + 1)).bind fun x10 =>
 ((cond (decide (x10 > (10000 : Int)))
 (some (true, p9.2))
 ((ldI .i64 p9.2 h.next (0 + 3)).bind fun x11 =>
 some ((decide (x11 > (10000 : Int))), p9.2))) : Option (Bool × H)).bind fun p12 =>
 cond p12.1 (
 some ((.int .i64 (31 : Int)), p12.2)) (
 (ldI .i64 p12.2 h.next (0 + 1)).bind fun x13 =>
 ((cond (decide (x13 < (0 : Int)))
 (some (true, p12.2))
 ((ldI .i64 p12.2 h.next (0 + 3)).bind fun x14 =>
 some ((decide (x14 < (0 : Int))), p12.2))) : Option (Bool × H)).bind fun p15 =>
 ((cond p15.1
 (some (true, p15.2))
 ((ldV p15.2 h.next (0 + 4)).bind fun v16 =>
 (lenV v16).bind fun n17 =>
 (ldV p15.2 h.next (0 + 2)).bind fun v18 =>
 (lenV v18).bind fun n19 =>
 some ((((n17 : Nat) : Int) != ((n19 : Nat) : Int)), p15.2))) : Option (Bool × H)).bind fun p20 =>
 cond p20.1 (
 some ((.int .i64 (1 : Int)), p20.2)) (
 (ldV p20.2 h.next (0 + 4)).bind fun v21 =>
 (lenV v21).bind fun n22 =>
 (L 13 8 [(ptr h.next 0), (.int .i64 ((n22 : Nat) : Int)), (.int .i64 (0 : Int))] p20.2).bind fun p23 =>
 cond (p23.1 == 0) (
 some ((.int .i64 (0 : Int)), p23.2.2)) (
 (asI .i64 (lget p23.2.1 0)).bind fun x24 =>
 some ((.int .i64 x24), p23.2.2)))))

theorem diff_Check_eq (C : CF) (L : LF) (a : List Value) (h : H) : fnK E C L 13 Tryz.f13 a h = diff_Check C L a h := by kernel_rfl

noncomputable def diff_Check_L8 (C : CF) (L : LF) (a : List Value) (h : H) : Option (Nat × List Value × H) :=
 (asP (lget a 0)).bind fun p1 =>
 (asI .i64 (lget a 1)).bind fun x2 =>
 (asI .i64 (lget a 2)).bind fun x3 =>
 cond (decide (x3 < x2)) (
 (ldA 5 h p1.1 p1.2).bind fun v4 =>
 (C 36 [v4, (.int .i64 x3)] h).bind fun p5 =>
 (asB p5.1).bind fun b6 =>
 cond (!b6) (
 some (1, [(.int .i64 (1 : Int))], p5.2)) (
 L 13 8 [(ptr p1.1 p1.2), (.int .i64 x2), (.int .i64 (IntKind.wrap .i64 (x3 + (1 : Int))))] p5.2)) (
 some (0, [], h))

theorem diff_Check_L8_eq (C : CF) (L : LF) (a : List Value) (h : H) : lpN E C L 13 8 Tryz.f13 a h = diff_Check_L8 C L a h := by kernel_rfl


/-- 16: armarium/schema.Put -/
noncomputable def schema_Put (C : CF) (L : LF) (a : List Value) (h : H) : Option (Value × H) :=
 (C 35 [(lget a 0)] h).bind fun p1 =>
 (asI .i64 p1.1).bind fun x2 =>
 cond (x2 != (0 : Int)) (
 some ((.string (bs [])), p1.2)) (
 let h3 := p1.2.new (.cells [(.slice none 0 0)] 61 true false)
 (lenV (lget a 0)).bind fun n4 =>
 (C 17 [(ptr p1.2.next 0), (.int .u64 (IntKind.wrap .u64 ((n4 : Nat) : Int)))] h3).bind fun p5 =>
 (lenV (lget a 0)).bind fun n6 =>
 (L 16 6 [(ptr p1.2.next 0), (lget a 0), (.int .i64 ((n6 : Nat) : Int)), (.int .i64 (0 : Int))] p5.2).bind fun p7 =>
 (asP (lget p7.2.1 0)).bind fun p8 =>
 (C 20 [(ptr p8.1 p8.2)] p7.2.2).bind fun p9 =>
 (asS p9.1).bind fun s10 =>
 some ((.string s10), p9.2))

theorem schema_Put_eq (C : CF) (L : LF) (a : List Value) (h : H) : fnK E C L 16 Tryz.f16 a h = schema_Put C L a h := by kernel_rfl

noncomputable def schema_Put_L6 (C : CF) (L : LF) (a : List Value) (h : H) : Option (Nat × List Value × H) :=
 (asP (lget a 0)).bind fun p1 =>
 (asI .i64 (lget a 2)).bind fun x2 =>
 (asI .i64 (lget a 3)).bind fun x3 =>
 cond (decide (x3 < x2)) (
 (idx 3 (lget a 1) x3).bind fun p4 =>
 (ldA 3 h p4.1 p4.2).bind fun v5 =>
 let h6 := h.new (.cells [(.string (bs [])), (.int .i64 (0)), (.bool false)] 55 true false)
 (stV 3 h6 h.next 0 v5).bind fun h7 =>
 (ldI .i64 h7 h.next (0 + 1)).bind fun x8 =>
 let j18 : Nat → Nat → Nat → Nat → Int → Value → Int → Int → H → Option (Nat × List Value × H) := fun (q9 : Nat) (q10 : Nat) (q11 : Nat) (q12 : Nat) (x13 : Int) (v14 : Value) (x15 : Int) (x16 : Int) (h17 : H) =>
 (ldS h17 q11 (q12 + 0)).bind fun s19 =>
 (C 15 [(ptr q9 q10), (.string s19)] h17).bind fun p20 =>
 (C 39 [(ptr q9 q10), (.int .u8 x13)] p20.2).bind fun p21 =>
 L 16 6 [(ptr q9 q10), v14, (.int .i64 x15), (.int .i64 (IntKind.wrap .i64 (x16 + (1 : Int))))] p21.2
 (ldB h7 h.next (0 + 2)).bind fun b22 =>
 cond b22 (
 j18 p1.1 p1.2 h.next 0 (ior .u8 (IntKind.wrap .u8 x8) (128 : Int)) (lget a 1) x2 x3 h7) (
 j18 p1.1 p1.2 h.next 0 (IntKind.wrap .u8 x8) (lget a 1) x2 x3 h7)) (
 some (0, [(ptr p1.1 p1.2)], h))

theorem schema_Put_L6_eq (C : CF) (L : LF) (a : List Value) (h : H) : lpN E C L 16 6 Tryz.f16 a h = schema_Put_L6 C L a h := by kernel_rfl


/-- 21: armarium/armariumref06.Columns -/
noncomputable def armariumref06_Columns (C : CF) (L : LF) (a : List Value) (h : H) : Option (Value × H) :=
 (L 21 2 [(lget a 0), (.int .i64 (0 : Int))] h).bind fun p1 =>
 cond (p1.1 == 0) (
 (lenV (lget p1.2.1 0)).bind fun n2 =>
 ((cond (decide (((n2 : Nat) : Int) ≥ (1 : Int)))
 ((lenV (lget p1.2.1 0)).bind fun n3 =>
 some ((decide (((n3 : Nat) : Int) ≤ (32 : Int))), p1.2.2))
 (some (false, p1.2.2))) : Option (Bool × H)).bind fun p4 =>
 some ((.bool p4.1), p4.2)) (
 (asB (lget p1.2.1 0)).bind fun b5 =>
 some ((.bool b5), p1.2.2))

theorem armariumref06_Columns_eq (C : CF) (L : LF) (a : List Value) (h : H) : fnK E C L 21 Tryz.f21 a h = armariumref06_Columns C L a h := by kernel_rfl

noncomputable def armariumref06_Columns_L2 (C : CF) (L : LF) (a : List Value) (h : H) : Option (Nat × List Value × H) :=
 (asI .i64 (lget a 1)).bind fun x1 =>
 (lenV (lget a 0)).bind fun n2 =>
 cond (decide (x1 < ((n2 : Nat) : Int))) (
 (L 21 5 [(lget a 0), (.int .i64 x1), (.int .i64 (0 : Int))] h).bind fun p3 =>
 cond (p3.1 == 0) (
 (asI .i64 (lget p3.2.1 1)).bind fun x4 =>
 (idx 3 (lget p3.2.1 0) x4).bind fun p5 =>
 (ldS p3.2.2 p5.1 (p5.2 + 0)).bind fun s6 =>
 ((cond (seq s6 (bs []))
 (some (true, p3.2.2))
 ((idx 3 (lget p3.2.1 0) x4).bind fun p7 =>
 (ldS p3.2.2 p7.1 (p7.2 + 0)).bind fun s8 =>
 some ((decide (((s8.size : Nat) : Int) > (64 : Int))), p3.2.2))) : Option (Bool × H)).bind fun p9 =>
 ((cond p9.1
 (some (true, p9.2))
 ((idx 3 (lget p3.2.1 0) x4).bind fun p10 =>
 (ldS p9.2 p10.1 (p10.2 + 0)).bind fun s11 =>
 (C 47 [(.string s11)] p9.2).bind fun p12 =>
 (asB p12.1).bind fun b13 =>
 some ((!b13), p12.2))) : Option (Bool × H)).bind fun p14 =>
 ((cond p14.1
 (some (true, p14.2))
 ((idx 3 (lget p3.2.1 0) x4).bind fun p15 =>
 (ldI .i64 p14.2 p15.1 (p15.2 + 1)).bind fun x16 =>
 some ((decide (x16 < (1 : Int))), p14.2))) : Option (Bool × H)).bind fun p17 =>
 ((cond p17.1
 (some (true, p17.2))
 ((idx 3 (lget p3.2.1 0) x4).bind fun p18 =>
 (ldI .i64 p17.2 p18.1 (p18.2 + 1)).bind fun x19 =>
 some ((decide (x19 > (6 : Int))), p17.2))) : Option (Bool × H)).bind fun p20 =>
 cond p20.1 (
 some (1, [(.bool false)], p20.2)) (
 L 21 2 [(lget p3.2.1 0), (.int .i64 (IntKind.wrap .i64 (x4 + (1 : Int))))] p20.2)) (
 (asB (lget p3.2.1 0)).bind fun b21 =>
 some (1, [(.bool b21)], p3.2.2))) (
 some (0, [(lget a 0)], h))

theorem armariumref06_Columns_L2_eq (C : CF) (L : LF) (a : List Value) (h : H) : lpN E C L 21 2 Tryz.f21 a h = armariumref06_Columns_L2 C L a h := by kernel_rfl

noncomputable def armariumref06_Columns_L5 (C : CF) (L : LF) (a : List Value) (h : H) : Option (Nat × List Value × H) :=
 (asI .i64 (lget a 1)).bind fun x1 =>
 (asI .i64 (lget a 2)).bind fun x2 =>
 cond (decide (x2 < x1)) (
 (idx 3 (lget a 0) x1).bind fun p3 =>
 (ldS h p3.1 (p3.2 + 0)).bind fun s4 =>
 (idx 3 (lget a 0) x2).bind fun p5 =>
 (ldS h p5.1 (p5.2 + 0)).bind fun s6 =>
 cond (seq s4 s6) (
 some (1, [(.bool false)], h)) (
 L 21 5 [(lget a 0), (.int .i64 x1), (.int .i64 (IntKind.wrap .i64 (x2 + (1 : Int))))] h)) (
 some (0, [(lget a 0), (.int .i64 x1)], h))

theorem armariumref06_Columns_L5_eq (C : CF) (L : LF) (a : List Value) (h : H) : lpN E C L 21 5 Tryz.f21 a h = armariumref06_Columns_L5 C L a h := by kernel_rfl


/-- 48: armarium/armariumref21.Place -/
noncomputable def armariumref21_Place (C : CF) (L : LF) (a : List Value) (h : H) : Option (Value × H) :=
 (oneL (lget a 1).cells.toList).bind fun l2 =>
 let h1 := h.new (.cells l2 55 true false)
 (L 48 2 [(lget a 0), (ptr h.next 0), (.int .i64 (0 : Int))] h1).bind fun p3 =>
 cond (p3.1 == 0) (
 some ((.int .i64 (-1 : Int)), p3.2.2)) (
 (asI .i64 (lget p3.2.1 0)).bind fun x4 =>
 some ((.int .i64 x4), p3.2.2))

theorem armariumref21_Place_eq (C : CF) (L : LF) (a : List Value) (h : H) : fnK E C L 48 Tryz.f48 a h = armariumref21_Place C L a h := by kernel_rfl

noncomputable def armariumref21_Place_L2 (C : CF) (L : LF) (a : List Value) (h : H) : Option (Nat × List Value × H) :=
 (asP (lget a 1)).bind fun p1 =>
 (asI .i64 (lget a 2)).bind fun x2 =>
 (lenV (lget a 0)).bind fun n3 =>
 cond (decide (x2 < ((n3 : Nat) : Int))) (
 (idx 3 (lget a 0) x2).bind fun p4 =>
 (ldA 3 h p4.1 p4.2).bind fun v5 =>
 (ldA 3 h p1.1 p1.2).bind fun v6 =>
 (eqT E 8 55 v5 v6).bind fun b7 =>
 cond b7 (
 some (1, [(.int .i64 x2)], h)) (
 L 48 2 [(lget a 0), (ptr p1.1 p1.2), (.int .i64 (IntKind.wrap .i64 (x2 + (1 : Int))))] h)) (
 some (0, [], h))

theorem armariumref21_Place_L2_eq (C : CF) (L : LF) (a : List Value) (h : H) : lpN E C L 48 2 Tryz.f48 a h = armariumref21_Place_L2 C L a h := by kernel_rfl


end Go.Arm
namespace Go.Arm

/-- a number's bytes -/
def uvarE (x : Nat) : List UInt8 := if x < 128 then [UInt8.ofNat x] else UInt8.ofNat (x % 128 + 128) :: uvarE (x / 128)
  termination_by x
  decreasing_by omega

inductive UV where
  | short | form
  | ok (y n : Nat)
/-- what is read from a place on: the number, and how many bytes it has -/
def uvD (i : Nat) : List UInt8 → UV
  | [] => .short
  | b :: r => if (i = 9 ∧ 1 < b.toNat) ∨ (0 < i ∧ b.toNat = 0) then .form
    else if b.toNat < 128 then .ok b.toNat 1
    else match uvD (i + 1) r with
      | .ok y n => .ok (b.toNat - 128 + 128 * y) (n + 1)
      | .short => .short
      | .form => .form

theorem uvarE_small {x : Nat} (h : x < 128) : uvarE x = [UInt8.ofNat x] := by rw [uvarE, if_pos h]
theorem uvarE_big {x : Nat} (h : ¬ x < 128) : uvarE x = UInt8.ofNat (x % 128 + 128) :: uvarE (x / 128) := by rw [uvarE, if_neg h]

theorem uvD_ok : ∀ (l : List UInt8) (i y n : Nat), i ≤ 9 → uvD i l = .ok y n → 0 < n ∧ n ≤ l.length ∧ uvarE y = l.take n ∧ (0 < i → 0 < y) ∧ i + n ≤ 10 ∧ y < 2 ^ (64 - 7 * i)
  | [], i, y, n, _, e => by simp [uvD] at e
  | b :: r, i, y, n, hi, e => by
    have hb : b.toNat < 256 := b.toNat_lt
    unfold uvD at e
    split at e
    · cases e
    · rename_i hne
      have h9 : i = 9 → b.toNat ≤ 1 := fun h => by
        rcases Nat.lt_or_ge 1 b.toNat with h1 | h1
        · exact absurd (.inl ⟨h, h1⟩) hne
        · exact h1
      have h0 : 0 < i → 0 < b.toNat := fun h => by
        rcases Nat.eq_zero_or_pos b.toNat with h1 | h1
        · exact absurd (.inr ⟨h, h1⟩) hne
        · exact h1
      split at e
      · rename_i hs
        cases e
        refine ⟨by omega, by simp, ?_, h0, by omega, ?_⟩
        · rw [uvarE_small hs]; simp
        · by_cases h : i = 9
          · subst h; have := h9 rfl; omega
          · have h8 : i ≤ 8 := by omega
            have : 2 ^ 7 ≤ 2 ^ (64 - 7 * i) := Nat.pow_le_pow_right (by omega) (by omega)
            omega
      · rename_i hs
        have hi8 : i ≤ 8 := by
          rcases Nat.lt_or_ge i 9 with h | h
          · omega
          · have : i = 9 := by omega
            have := h9 this
            omega
        split at e
        · rename_i y' n' he
          cases e
          obtain ⟨q1, q2, q3, q4, q5, q6⟩ := uvD_ok r (i + 1) y' n' (by omega) he
          have hy : 0 < y' := q4 (by omega)
          have hbig : ¬ (b.toNat - 128 + 128 * y') < 128 := by omega
          refine ⟨by omega, by simp; omega, ?_, fun _ => by omega, by omega, ?_⟩
          · rw [uvarE_big hbig]
            have e1 : (b.toNat - 128 + 128 * y') % 128 + 128 = b.toNat := by omega
            have e2 : (b.toNat - 128 + 128 * y') / 128 = y' := by omega
            rw [e1, e2, q3]
            simp
          · have : 2 ^ (64 - 7 * i) = 128 * 2 ^ (64 - 7 * (i + 1)) := by
              rw [show 64 - 7 * i = 7 + (64 - 7 * (i + 1)) by omega, Nat.pow_add]
            omega
        · cases e
        · cases e

theorem uvarE_lenk : ∀ (k x : Nat), x < 128 ^ k → 0 < k → (uvarE x).length ≤ k
  | 0, x, _, h => by omega
  | k + 1, x, hx, _ => by
    by_cases hs : x < 128
    · rw [uvarE_small hs]; simp
    · rw [uvarE_big hs]
      rw [Nat.pow_succ] at hx
      have h1 : x / 128 < 128 ^ k := by rw [Nat.div_lt_iff_lt_mul (by omega)]; exact hx
      have hk : 0 < k := by
        rcases Nat.eq_zero_or_pos k with h | h
        · subst h; simp at hx; omega
        · exact h
      have := uvarE_lenk k (x / 128) h1 hk
      simp
      omega
theorem uvarE_len {x : Nat} (h : x < 2 ^ 64) : (uvarE x).length ≤ 10 := uvarE_lenk 10 x (Nat.lt_of_lt_of_le h (by decide)) (by omega)

end Go.Arm
namespace Go.Arm
open Go.Proofs

theorem asI_int (k : IntKind) (n : Int) : asI k (.int k n) = some n := by simp [asI]
theorem lget0 (x : Value) (l : List Value) : lget (x :: l) 0 = x := rfl
theorem lgetS (x : Value) (l : List Value) (n : Nat) : lget (x :: l) (n + 1) = lget l n := rfl
theorem cellAt_of {h : H} {b o : Nat} {cs : List Value} {e : TypeId} {own l : Bool} (hg : h.get b = some (.cells cs e own l)) : cellAt h b o = cs[o]? := by simp [cellAt, hg]
theorem cellsAt_of {h : H} {b o n : Nat} {cs : List Value} {e : TypeId} {own l : Bool} (hg : h.get b = some (.cells cs e own l)) (hn : o + n ≤ cs.length) : cellsAt h b o n = some ((cs.drop o).take n) := by simp [cellsAt, hg, hn]
theorem stC_of {h : H} {b o : Nat} {cs vs : List Value} {e : TypeId} {l : Bool} (hg : h.get b = some (.cells cs e true l)) (hn : o + vs.length ≤ cs.length) (h1 : vs.all one = true) : stC h b o vs = some (h.put b (some (.cells (setAt cs o vs) e true l))) := by
  simp only [stC, hg]
  rw [if_pos (by simp [hn, h1])]

/-- bytes as cells -/
def bv (x : UInt8) : Value := .int .u8 x.toNat
def bvs (l : List UInt8) : List Value := l.map bv
theorem bvs_one (l : List UInt8) : (bvs l).all one = true := by simp [bvs, bv, one]
theorem bvs_append (a b : List UInt8) : bvs (a ++ b) = bvs a ++ bvs b := by simp [bvs]
theorem bvs_length (a : List UInt8) : (bvs a).length = a.length := by simp [bvs]

/-! ## the writer -/
def Buf (h : H) (p k : Nat) : Prop := ∃ n c, cellAt h p 0 = some (.slice (some ⟨k, 0, none⟩) n c)
/-- a writer that has bytes -/
def Wr (h : H) (p : Nat) (l : List UInt8) : Prop :=
  ∃ v, h.get p = some (.cells [v] 61 true false) ∧ ((l = [] ∧ v = .slice none 0 0) ∨ ∃ b, b ≠ p ∧ v = .slice (some ⟨b, 0, none⟩) l.length l.length ∧ h.get b = some (.cells (bvs l) 5 true true))
/-- what a writer's work turns -/
structure KpW (p : Nat) (h h' : H) : Prop where
  next : h.next ≤ h'.next
  keep : ∀ k, k < h.next → k ≠ p → ¬ Buf h p k → h'.get k = h.get k
  buf : ∀ k, Buf h' p k → Buf h p k ∨ h.next ≤ k
theorem KpW.refl (p : Nat) (h : H) : KpW p h h := ⟨Nat.le_refl _, fun _ _ _ _ => rfl, fun _ h => .inl h⟩
theorem KpW.trans {p : Nat} {h h1 h2 : H} (a : KpW p h h1) (b : KpW p h1 h2) : KpW p h h2 := by
  refine ⟨Nat.le_trans a.next b.next, fun k hk hp hb => ?_, fun k hk => ?_⟩
  · rw [b.keep k (Nat.lt_of_lt_of_le hk a.next) hp (fun h => (a.buf k h).elim hb (by omega)), a.keep k hk hp hb]
  · rcases b.buf k hk with h | h
    · exact a.buf k h
    · exact .inr (Nat.le_trans a.next h)
theorem KpW.new {p : Nat} {h : H} (hp : p < h.next) (x : Blk) : KpW p h (h.new x) := by
  refine ⟨by rw [H.next_new]; omega, fun k hk _ _ => by rw [get_new, if_neg (by omega)], fun k ⟨n, c, hk⟩ => .inl ⟨n, c, ?_⟩⟩
  unfold cellAt at hk ⊢
  rw [get_new, if_neg (by omega)] at hk
  exact hk
theorem Wr.new {p : Nat} {h : H} {l : List UInt8} (w : Wr h p l) (x : Blk) : Wr (h.new x) p l := by
  obtain ⟨v, h1, h2⟩ := w
  refine ⟨v, H.get_new_old h1, ?_⟩
  rcases h2 with h2 | ⟨b, hb, hv, hg⟩
  · exact .inl h2
  · exact .inr ⟨b, hb, hv, H.get_new_old hg⟩
theorem Wr.lt {p : Nat} {h : H} {l : List UInt8} (w : Wr h p l) : p < h.next := by
  obtain ⟨v, h1, _⟩ := w
  exact H.get_lt h1

theorem ldV_of {h : H} {b o : Nat} {cs : List Value} {e : TypeId} {own l : Bool} {v : Value} (hg : h.get b = some (.cells cs e own l)) (hv : cs[o]? = some v) (h1 : one v = true) : ldV h b o = some v := by
  simp [ldV, cellAt_of hg, hv, h1]
theorem stV1_of {h : H} {b o : Nat} {cs : List Value} {v : Value} {e : TypeId} {l : Bool} (hg : h.get b = some (.cells cs e true l)) (ho : o < cs.length) (h1 : one v = true) : stV 1 h b o v = some (h.put b (some (.cells (cs.set o v) e true l))) := by
  have hc : v.cells.toList = [v] := cells_one h1
  have hs : v.cells.size = 1 := by rw [← Array.length_toList, hc]; rfl
  unfold stV
  rw [if_pos hs, hc, stC_of hg (by simp; omega) (by simp [h1])]
  rfl

theorem KpW.put {p : Nat} {h h' : H} (hn : h.next ≤ h'.next) (hk : ∀ k, k < h.next → k ≠ p → ¬ Buf h p k → h'.get k = h.get k) (hb : ∀ k, Buf h' p k → Buf h p k ∨ h.next ≤ k) : KpW p h h' := ⟨hn, hk, hb⟩

theorem Buf.inv {h : H} {p k : Nat} {s : Value} {e : TypeId} {own l : Bool} (hg : h.get p = some (.cells [s] e own l)) (hb : Buf h p k) : ∃ n c, s = .slice (some ⟨k, 0, none⟩) n c := by
  obtain ⟨n, c, hk⟩ := hb
  rw [cellAt_of hg] at hk
  exact ⟨n, c, by simpa using hk⟩

theorem put_spec {h : H} {p : Nat} {l new : List UInt8} {x : Value} (w : Wr h p l) (hx : srcC 1 h x = some (new.length, bvs new)) (hsz : l.length + new.length ≤ 2 ^ 38) :
    Ret E 40 [ptr p 0, x] h fun v h' => v = junk ∧ Wr h' p (l ++ new) ∧ KpW p h h' := by
  refine .of_fn rfl rfl (fun C L => __wire_Writer__put_eq C L _ h) ?_
  have hpl := w.lt
  obtain ⟨v, hp, hv⟩ := w
  have h1 : one v = true := by rcases hv with ⟨_, rfl⟩ | ⟨b, _, rfl, _⟩ <;> rfl
  have hld : ldV h p (0 + 0) = some v := ldV_of hp rfl h1
  simp only [__wire_Writer__put, lget, asP, nilT, Option.isNone, Option.bind_some, Bool.not_false, cond_true, hld]
  -- nothing new
  have same : new = [] → appA 1 1 5 h v x = some (v, h) → W E (fun _ _ => (appA 1 1 5 h v x).bind fun p4 => (stV 1 p4.2 p (0 + 0) p4.1).bind fun h6 => some (junk, h6)) fun r => r.1 = junk ∧ Wr r.2 p (l ++ new) ∧ KpW p h r.2 := by
    intro hn ha
    subst hn
    simp only [ha, Option.bind_some]
    rw [stV1_of hp (by simp) h1]
    refine .ret ⟨rfl, ?_, ?_⟩
    · refine ⟨v, H.get_put_same _ _ _ hpl, ?_⟩
      rcases hv with ⟨rfl, hv⟩ | ⟨b, hb, hv, hg⟩
      · exact .inl ⟨rfl, hv⟩
      · exact .inr ⟨b, hb, by simpa using hv, by rw [H.get_put_ne _ _ _ _ hb]; simpa using hg⟩
    · refine ⟨Nat.le_refl _, fun k _ hk _ => H.get_put_ne _ _ _ _ hk, fun k hk => ?_⟩
      obtain ⟨n, c, hs⟩ := Buf.inv (H.get_put_same _ _ _ hpl) hk
      exact .inl ⟨n, c, by rw [cellAt_of hp, hs]; rfl⟩
  -- a new block
  have fresh : ∀ (h2 : H), h2.next = h.next → (∀ k, k ≠ p → ¬ Buf h p k → h2.get k = h.get k) → h2.get p = h.get p → appA 1 1 5 h v x = some (.slice (some ⟨h.next, 0, none⟩) (l.length + new.length) (l.length + new.length), h2.new (.cells (bvs (l ++ new)) 5 true true)) →
      W E (fun _ _ => (appA 1 1 5 h v x).bind fun p4 => (stV 1 p4.2 p (0 + 0) p4.1).bind fun h6 => some (junk, h6)) fun r => r.1 = junk ∧ Wr r.2 p (l ++ new) ∧ KpW p h r.2 := by
    intro h2 hn2 hk2 hp2 ha
    simp only [ha, Option.bind_some]
    have hpn : (h2.new (.cells (bvs (l ++ new)) 5 true true)).get p = some (.cells [v] 61 true false) := by rw [get_new, if_neg (by omega), hp2, hp]
    rw [stV1_of hpn (by simp) rfl]
    have hpl2 : p < (h2.new (.cells (bvs (l ++ new)) 5 true true)).next := by rw [H.next_new]; omega
    refine .ret ⟨rfl, ⟨_, H.get_put_same _ _ _ hpl2, .inr ⟨h.next, by omega, by simp, ?_⟩⟩, ?_⟩
    · rw [H.get_put_ne _ _ _ _ (by omega), get_new, if_pos hn2.symm]
    · refine ⟨by rw [H.next_put, H.next_new]; omega, fun k hk hkp hkb => ?_, fun k hk => ?_⟩
      · rw [H.get_put_ne _ _ _ _ hkp, get_new, if_neg (by omega), hk2 k hkp hkb]
      · obtain ⟨n, c, hs⟩ := Buf.inv (H.get_put_same _ _ _ hpl2) hk
        simp at hs
        exact .inr (by omega)
  have hr : (l.length + new.length) * (1 + 1) ≤ roomy := by unfold roomy; omega
  rcases hv with ⟨rfl, rfl⟩ | ⟨b, hb, rfl, hg⟩
  · cases new with
    | nil => exact same rfl (by simp only [appA, hx, Option.bind_some]; simp)
    | cons y ys =>
      refine fresh h rfl (fun _ _ _ => rfl) rfl ?_
      have hone := bvs_one (y :: ys)
      have hr2 : (y :: ys).length * (1 + 1) ≤ roomy := by simpa using hr
      simp only [appA, hx, Option.bind_some]
      rw [if_neg (by simp), if_pos (by simp only [hone, hr2, decide_true, Bool.and_true, Bool.true_and, ne_eq]; decide)]
      simp
  · have hbl := H.get_lt hg
    cases new with
    | nil => exact same rfl (by simp only [appA, hx, Option.bind_some]; simp)
    | cons y ys =>
      refine fresh (h.put b none) rfl (fun k _ hk => H.get_put_ne _ _ _ _ (fun e => hk ⟨l.length, l.length, by rw [cellAt_of hp, e]; rfl⟩)) (H.get_put_ne _ _ _ _ (Ne.symm hb)) ?_
      have hone := bvs_one (y :: ys)
      simp only [appA, hx, Option.bind_some]
      rw [if_neg (by simp), if_neg (by simp only [hone, hr, true_and, and_true]; decide)]
      simp only [hg]
      rw [if_pos (by simp [bvs_length]), if_pos (by simp [bvs_length])]
      simp only [if_true]
      have ht : ((bvs l).drop 0).take (l.length * 1) = bvs l := by rw [List.drop_zero, Nat.mul_one, ← bvs_length l, List.take_length]
      rw [ht, ← bvs_append]

theorem bldS_u8 (n : Int) : bldS E 59 1 [(0, .int .u8 n)] = some [.int .u8 n] := by kernel_rfl

theorem put1_spec {h : H} {p : Nat} {l : List UInt8} (y : UInt8) (w : Wr h p l) (hsz : l.length + 1 ≤ 2 ^ 38) :
    Ret E 40 [ptr p 0, .slice (some ⟨h.next, 0, none⟩) 1 1] (h.new (.cells [bv y] 5 true false)) fun v h' => v = junk ∧ Wr h' p (l ++ [y]) ∧ KpW p h h' :=
  (put_spec (new := [y]) (w.new _) (by simp [srcC, cellsAt, get_new, bvs]) (by simpa using hsz)).mono fun _ _ ⟨h1, h2, h3⟩ => ⟨h1, h2, (KpW.new w.lt _).trans h3⟩

theorem u8_spec {h : H} {p : Nat} {l : List UInt8} (y : UInt8) (w : Wr h p l) (hsz : l.length + 1 ≤ 2 ^ 38) :
    Ret E 39 [ptr p 0, .int .u8 y.toNat] h fun v h' => v = junk ∧ Wr h' p (l ++ [y]) ∧ KpW p h h' := by
  refine .of_fn rfl rfl (fun C L => __wire_Writer__U8_eq C L _ h) ?_
  simp only [__wire_Writer__U8, lget, asI_int, Option.bind_some, bldS_u8]
  refine .seq (put1_spec y w hsz) fun r ⟨h1, h2⟩ => .ret ⟨rfl, h2⟩

theorem wrap_u8 (x : Nat) : IntKind.wrap .u8 (x : Int) = ((x % 256 : Nat) : Int) := by
  simp [IntKind.wrap, IntKind.bits, IntKind.signed]
theorem wrap_u64 {x : Nat} (h : x < 2 ^ 64) : IntKind.wrap .u64 (x : Int) = (x : Int) := by
  simp [IntKind.wrap, IntKind.bits, IntKind.signed]
  omega
theorem or128 : ∀ k : Fin 256, ior .u8 ((k.val : Nat) : Int) 128 = ((k.val % 128 + 128 : Nat) : Int) := by decide +kernel
theorem ior128 (x : Nat) : ior .u8 (IntKind.wrap .u8 (x : Int)) 128 = ((x % 128 + 128 : Nat) : Int) := by
  rw [wrap_u8]
  have := or128 ⟨x % 256, by omega⟩
  simp only at this
  rw [this]
  congr 1
  omega
theorem shr_u64 (x k : Nat) (hk : k ≤ 64) : ishr .u64 (x : Int) (k : Int) = ((x / 2 ^ k : Nat) : Int) := by
  have : min (k : Int).toNat (IntKind.bits .u64) = k := by simp [IntKind.bits]; omega
  unfold ishr
  rw [this]
  rw [Int.fdiv_eq_ediv_of_nonneg _ (by exact_mod_cast Nat.zero_le _)]
  norm_cast
theorem ofNat_toNat {n : Nat} (h : n < 256) : ((UInt8.ofNat n).toNat : Int) = (n : Int) := by
  have : (UInt8.ofNat n).toNat = n := by simp; omega
  rw [this]

theorem uvarL_spec : ∀ (x : Nat) {h : H} {p : Nat} {l : List UInt8}, x < 2 ^ 64 → Wr h p l → l.length + (uvarE x).length ≤ 2 ^ 38 →
    RetL E 17 0 [ptr p 0, .int .u64 x] h fun k vs h' => ∃ (pre : List UInt8) (y : Nat), k = 0 ∧ vs = [ptr p 0, .int .u64 y] ∧ y < 128 ∧ uvarE x = pre ++ [UInt8.ofNat y] ∧ Wr h' p (l ++ pre) ∧ KpW p h h' := by
  intro x
  induction x using Nat.strongRecOn with
  | _ x ih =>
    intro h p l hx w hsz
    refine .of_lp rfl (fun C L => __wire_Writer__Uvar_L0_eq C L _ h) ?_
    simp only [__wire_Writer__Uvar_L0, lget, asI_int, Option.bind_some]
    by_cases hb : x < 128
    · have : decide ((x : Int) ≥ 128) = false := by simp; omega
      simp only [this, cond_false]
      exact .ret ⟨[], x, rfl, rfl, hb, by rw [uvarE_small hb]; rfl, by simpa using w, .refl p h⟩
    · have : decide ((x : Int) ≥ 128) = true := by simp; omega
      simp only [this, cond_true, bldS_u8, Option.bind_some, ior128]
      have hl : (uvarE x).length = 1 + (uvarE (x / 128)).length := by rw [uvarE_big hb]; simp; omega
      rw [← ofNat_toNat (n := x % 128 + 128) (by omega)]
      refine .seq (put1_spec (UInt8.ofNat (x % 128 + 128)) w (by omega)) fun r ⟨_, h2, h3⟩ => ?_
      have e7 : ishr .u64 (x : Int) 7 = ((x / 128 : Nat) : Int) := shr_u64 x 7 (by omega)
      rw [e7]
      refine (ih (x / 128) (by omega) (by omega) h2 (by simp; omega)).mono fun q ⟨pre, y, q1, q2, q3, q4, q5, q6⟩ => ⟨UInt8.ofNat (x % 128 + 128) :: pre, y, q1, q2, q3, by rw [uvarE_big hb, q4]; rfl, by simpa using q5, h3.trans q6⟩

end Go.Arm
namespace Go.Arm
open Go.Proofs

theorem uvar_spec {x : Nat} {h : H} {p : Nat} {l : List UInt8} (hx : x < 2 ^ 64) (w : Wr h p l) (hsz : l.length + (uvarE x).length ≤ 2 ^ 38) :
    Ret E 17 [ptr p 0, .int .u64 x] h fun v h' => v = junk ∧ Wr h' p (l ++ uvarE x) ∧ KpW p h h' := by
  refine .of_fn rfl rfl (fun C L => __wire_Writer__Uvar_eq C L _ h) ?_
  simp only [__wire_Writer__Uvar, lget, asI_int, Option.bind_some]
  refine .seq (uvarL_spec x hx w hsz) fun r ⟨pre, y, _, h2, h3, h4, h5, h6⟩ => ?_
  have hl : (uvarE x).length = pre.length + 1 := by rw [h4]; simp
  have e0 : lget r.2.1 0 = ptr p 0 := by rw [h2]; rfl
  have e1 : lget r.2.1 1 = .int .u64 y := by rw [h2]; rfl
  have hw : IntKind.wrap .u8 (y : Int) = ((UInt8.ofNat y).toNat : Int) := by rw [wrap_u8, ofNat_toNat (by omega)]; congr 1; omega
  simp only [e0, e1, asI_int, Option.bind_some, bldS_u8, hw]
  refine .seq (put1_spec (UInt8.ofNat y) h5 (by simp; omega)) fun q ⟨_, q2, q3⟩ => .ret ⟨rfl, ?_, h6.trans q3⟩
  rw [h4, ← List.append_assoc]
  exact q2

theorem bytesOf_eq {h : H} {s : ByteArray} (hs : s.size ≤ roomy) : bytesOf 5 h s = some (.slice (some ⟨h.next, 0, none⟩) s.size s.size, h.new (.cells (bvs s.data.toList) 5 true true)) := by
  unfold bytesOf
  rw [if_pos hs]
  rfl
theorem size_toList (s : ByteArray) : s.data.toList.length = s.size := by rw [Array.length_toList]; rfl

theorem raw_spec {s : ByteArray} {h : H} {p : Nat} {l : List UInt8} (w : Wr h p l) (hsz : l.length + s.size ≤ 2 ^ 38) :
    Ret E 38 [ptr p 0, .string s] h fun v h' => v = junk ∧ Wr h' p (l ++ s.data.toList) ∧ KpW p h h' := by
  refine .of_fn rfl rfl (fun C L => __wire_Writer__Raw_eq C L _ h) ?_
  simp only [__wire_Writer__Raw, lget, asS, Option.bind_some, bytesOf_eq (h := h) (s := s) (by unfold roomy; omega)]
  refine .seq (put_spec (new := s.data.toList) (w.new (.cells (bvs s.data.toList) 5 true true)) ?_ (by rw [size_toList]; exact hsz)) fun r ⟨_, h2, h3⟩ => .ret ⟨rfl, h2, (KpW.new w.lt _).trans h3⟩
  have : 0 + s.size * 1 ≤ (bvs s.data.toList).length := by rw [bvs_length, size_toList]; omega
  simp only [srcC]
  rw [cellsAt_of (by rw [get_new, if_pos rfl]) this]
  simp only [Option.map_some, size_toList, List.drop_zero, Nat.mul_one]
  rw [← size_toList, ← bvs_length, List.take_length]

theorem text_spec {s : ByteArray} {h : H} {p : Nat} {l : List UInt8} (w : Wr h p l) (hs : s.size < 2 ^ 30) (hsz : l.length + 20 + s.size ≤ 2 ^ 38) :
    Ret E 15 [ptr p 0, .string s] h fun v h' => v = junk ∧ Wr h' p (l ++ (uvarE s.size ++ s.data.toList)) ∧ KpW p h h' := by
  refine .of_fn rfl rfl (fun C L => __wire_Writer__Text_eq C L _ h) ?_
  have hlen : (uvarE s.size).length ≤ 10 := uvarE_len (by omega)
  simp only [__wire_Writer__Text, lget, asS, Option.bind_some, wrap_u64 (x := s.size) (by omega)]
  refine .seq (uvar_spec (by omega) w (by omega)) fun r ⟨_, h2, h3⟩ => ?_
  refine .seq (raw_spec (s := s) h2 (by simp; omega)) fun q ⟨_, q2, q3⟩ => .ret ⟨rfl, by simpa using q2, h3.trans q3⟩

theorem bytesOfCells_bvs : ∀ l : List UInt8, bytesOfCells (bvs l) = some l
  | [] => rfl
  | x :: l => by
    have ih := bytesOfCells_bvs l
    simp only [bvs, List.map_cons, bv, bytesOfCells] at ih ⊢
    rw [ih]
    simp

theorem string_spec {h : H} {p : Nat} {l : List UInt8} (w : Wr h p l) : Ret E 20 [ptr p 0] h fun v h' => v = .string ⟨⟨l⟩⟩ ∧ h' = h := by
  refine .of_fn rfl rfl (fun C L => __wire_Writer__String_eq C L _ h) ?_
  obtain ⟨v, hp, hv⟩ := w
  have h1 : one v = true := by rcases hv with ⟨_, rfl⟩ | ⟨b, _, rfl, _⟩ <;> rfl
  have hst : strOf h v = some ⟨⟨l⟩⟩ := by
    rcases hv with ⟨rfl, rfl⟩ | ⟨b, _, rfl, hg⟩
    · rfl
    · simp only [strOf]
      rw [cellsAt_of hg (by rw [bvs_length]; omega), List.drop_zero, ← bvs_length, List.take_length, Option.bind_some, bytesOfCells_bvs]
      rfl
  have hld : ldV h p (0 + 0) = some v := ldV_of hp rfl h1
  simp only [__wire_Writer__String, lget, asP, nilT, Option.isNone, Option.bind_some, cond_false, hld, hst]
  exact .ret ⟨rfl, rfl⟩

/-- bytes, the low one first -/
def fixE : Nat → Nat → List UInt8
  | 0, _ => []
  | n + 1, x => UInt8.ofNat (x % 256) :: fixE n (x / 256)
theorem fixE_length : ∀ n x, (fixE n x).length = n
  | 0, _ => rfl
  | n + 1, x => by simp [fixE, fixE_length n]

theorem wrap_i64 {x : Int} (h1 : -2 ^ 63 ≤ x) (h2 : x < 2 ^ 63) : IntKind.wrap .i64 x = x := by
  simp [IntKind.wrap, IntKind.bits, IntKind.signed]
  omega

theorem fixedL_spec : ∀ (m n i : Nat) (x : Nat) {h : H} {p : Nat} {l : List UInt8}, n = i + m → n ≤ 64 → x < 2 ^ 64 → Wr h p l → l.length + m ≤ 2 ^ 38 →
    RetL E 94 1 [ptr p 0, .int .u64 x, .int .i64 n, .int .i64 i] h fun k vs h' => Wr h' p (l ++ fixE m x) ∧ KpW p h h' := by
  intro m
  induction m with
  | zero =>
    intro n i x h p l hn hn64 hx w hsz
    refine .of_lp rfl (fun C L => __wire_Writer__fixed_L1_eq C L _ h) ?_
    have : decide ((i : Int) < (n : Int)) = false := by simp; omega
    simp only [__wire_Writer__fixed_L1, lget, asI_int, Option.bind_some, this, cond_false]
    exact .ret ⟨by simpa [fixE] using w, .refl p h⟩
  | succ m ih =>
    intro n i x h p l hn hn64 hx w hsz
    refine .of_lp rfl (fun C L => __wire_Writer__fixed_L1_eq C L _ h) ?_
    have : decide ((i : Int) < (n : Int)) = true := by simp; omega
    have hw : IntKind.wrap .u8 (x : Int) = ((UInt8.ofNat (x % 256)).toNat : Int) := by rw [wrap_u8, ofNat_toNat (by omega)]
    simp only [__wire_Writer__fixed_L1, lget, asI_int, Option.bind_some, this, cond_true, hw, bldS_u8]
    refine .seq (put1_spec (UInt8.ofNat (x % 256)) w (by omega)) fun r ⟨_, h2, h3⟩ => ?_
    have e8 : ishr .u64 (x : Int) 8 = ((x / 256 : Nat) : Int) := shr_u64 x 8 (by omega)
    have e1 : IntKind.wrap .i64 ((i : Int) + 1) = ((i + 1 : Nat) : Int) := by rw [wrap_i64 (by omega) (by omega)]; rfl
    rw [e8, e1]
    refine (ih n (i + 1) (x / 256) (by omega) hn64 (by omega) h2 (by simp; omega)).mono fun q ⟨q1, q2⟩ => ⟨?_, h3.trans q2⟩
    simpa [fixE] using q1

theorem u64_spec {x : Nat} {h : H} {p : Nat} {l : List UInt8} (hx : x < 2 ^ 64) (w : Wr h p l) (hsz : l.length + 8 ≤ 2 ^ 38) :
    Ret E 65 [ptr p 0, .int .u64 x] h fun v h' => v = junk ∧ Wr h' p (l ++ fixE 8 x) ∧ KpW p h h' := by
  refine .of_fn rfl rfl (fun C L => __wire_Writer__U64_eq C L _ h) ?_
  simp only [__wire_Writer__U64, lget, asI_int, Option.bind_some]
  have hf : Ret E 94 [ptr p 0, .int .u64 x, .int .i64 8] h fun v h' => v = junk ∧ Wr h' p (l ++ fixE 8 x) ∧ KpW p h h' := by
    refine .of_fn rfl rfl (fun C L => __wire_Writer__fixed_eq C L _ h) ?_
    simp only [__wire_Writer__fixed, lget, asI_int, Option.bind_some]
    exact .seq (fixedL_spec 8 8 0 x rfl (by omega) hx w hsz) fun r h2 => .ret ⟨rfl, h2⟩
  exact .seq hf fun r ⟨_, h2⟩ => .ret ⟨rfl, h2⟩

/-- a number that may be below 0, as one that is not -/
def zigI (x : Int) : Int := ixor .u64 (ishl .u64 (IntKind.wrap .u64 x) 1) (IntKind.wrap .u64 (ishr .i64 x 63))
def zig (x : Int) : Nat := (zigI x).toNat
theorem zigI_eq (x : Int) : zigI x = (zig x : Int) ∧ zig x < 2 ^ 64 := by
  unfold zig zigI ixor
  generalize (BitVec.ofInt (IntKind.bits .u64) (ishl .u64 (IntKind.wrap .u64 x) 1) ^^^ BitVec.ofInt (IntKind.bits .u64) (IntKind.wrap .u64 (ishr .i64 x 63))) = y
  have h1 : y.toNat < 2 ^ 64 := y.isLt
  rw [wrap_u64 h1]
  exact ⟨by simp, by simpa using h1⟩

theorem svar_spec {x : Int} {h : H} {p : Nat} {l : List UInt8} (w : Wr h p l) (hsz : l.length + 10 ≤ 2 ^ 38) :
    Ret E 96 [ptr p 0, .int .i64 x] h fun v h' => v = junk ∧ Wr h' p (l ++ uvarE (zig x)) ∧ KpW p h h' := by
  refine .of_fn rfl rfl (fun C L => __wire_Writer__Svar_eq C L _ h) ?_
  obtain ⟨hz, hlt⟩ := zigI_eq x
  have hz2 := hz
  unfold zigI at hz2
  have hlen := uvarE_len hlt
  simp only [__wire_Writer__Svar, lget, asI_int, Option.bind_some, hz2]
  exact .seq (uvar_spec hlt w (by omega)) fun r ⟨_, h2⟩ => .ret ⟨rfl, h2⟩

end Go.Arm
namespace Go.Arm
open Go.Proofs

/-- a reader -/
def Rd (h : H) (p : Nat) (s : ByteArray) (a : Nat) (e : Int) : Prop := h.get p = some (.cells [.string s, .int .i64 a, .int .i64 e] 79 true false)
abbrev Only (p : Nat) : Nat → Prop := fun k => k = p
theorem Kp.then {X : Nat → Prop} {h h1 h2 : H} (a : Kp X h h1) (b : Kp X h1 h2) : Kp X h h2 := a.trans (b.weaken fun _ hx => .inl hx)
theorem Rd.kp {X : Nat → Prop} {h h' : H} {p : Nat} {s : ByteArray} {a : Nat} {e : Int} (r : Rd h p s a e) (k : Kp X h h') (hx : ¬ X p) : Rd h' p s a e := k.get r hx

theorem ldI_of {k : IntKind} {n : Int} {h : H} {b o : Nat} {cs : List Value} {e : TypeId} {own l : Bool} (hg : h.get b = some (.cells cs e own l)) (hv : cs[o]? = some (.int k n)) : ldI k h b o = some n := by
  simp [ldI, cellAt_of hg, hv, asI]
theorem ldS_of {s : ByteArray} {h : H} {b o : Nat} {cs : List Value} {e : TypeId} {own l : Bool} (hg : h.get b = some (.cells cs e own l)) (hv : cs[o]? = some (.string s)) : ldS h b o = some s := by
  simp [ldS, cellAt_of hg, hv, asS]
theorem ldB_of {q : Bool} {h : H} {b o : Nat} {cs : List Value} {e : TypeId} {own l : Bool} (hg : h.get b = some (.cells cs e own l)) (hv : cs[o]? = some (.bool q)) : ldB h b o = some q := by
  simp [ldB, cellAt_of hg, hv, asB]

theorem Rd.s {h : H} {p : Nat} {s : ByteArray} {a : Nat} {e : Int} (r : Rd h p s a e) : ldS h p (0 + 0) = some s := ldS_of r rfl
theorem Rd.a {h : H} {p : Nat} {s : ByteArray} {a : Nat} {e : Int} (r : Rd h p s a e) : ldI .i64 h p (0 + 1) = some (a : Int) := ldI_of r rfl
theorem Rd.e {h : H} {p : Nat} {s : ByteArray} {a : Nat} {e : Int} (r : Rd h p s a e) : ldI .i64 h p (0 + 2) = some e := ldI_of r rfl
theorem Rd.setA {h : H} {p : Nat} {s : ByteArray} {a : Nat} {e : Int} (r : Rd h p s a e) (a' : Nat) : ∃ h', stV 1 h p (0 + 1) (.int .i64 a') = some h' ∧ Rd h' p s a' e ∧ Kp (Only p) h h' :=
  ⟨_, stV1_of (o := 0 + 1) r (by simp) rfl, H.get_put_same _ _ _ (H.get_lt r), .put _ _ rfl⟩
theorem Rd.setE {h : H} {p : Nat} {s : ByteArray} {a : Nat} {e : Int} (r : Rd h p s a e) (e' : Int) : ∃ h', stV 1 h p (0 + 2) (.int .i64 e') = some h' ∧ Rd h' p s a e' ∧ Kp (Only p) h h' :=
  ⟨_, stV1_of (o := 0 + 2) r (by simp) rfl, H.get_put_same _ _ _ (H.get_lt r), .put _ _ rfl⟩

theorem err_spec {h : H} {p : Nat} {s : ByteArray} {a : Nat} {e : Int} (r : Rd h p s a e) : Ret E 29 [ptr p 0] h fun v h' => v = .int .i64 e ∧ h' = h := by
  refine .of_fn rfl rfl (fun C L => __wire_Reader__Err_eq C L _ h) ?_
  simp only [__wire_Reader__Err, lget, asP, nilT, Option.isNone, Option.bind_some, cond_false, r.e]
  exact .ret ⟨rfl, rfl⟩
theorem at_spec {h : H} {p : Nat} {s : ByteArray} {a : Nat} {e : Int} (r : Rd h p s a e) : Ret E 57 [ptr p 0] h fun v h' => v = .int .i64 a ∧ h' = h := by
  refine .of_fn rfl rfl (fun C L => __wire_Reader__At_eq C L _ h) ?_
  simp only [__wire_Reader__At, lget, asP, nilT, Option.isNone, Option.bind_some, cond_false, r.a]
  exact .ret ⟨rfl, rfl⟩
theorem left_spec {h : H} {p : Nat} {s : ByteArray} {a : Nat} {e : Int} (r : Rd h p s a e) (ha : a ≤ s.size) (hs : s.size ≤ 2 ^ 40) : Ret E 37 [ptr p 0] h fun v h' => v = .int .i64 ((s.size - a : Nat) : Int) ∧ h' = h := by
  refine .of_fn rfl rfl (fun C L => __wire_Reader__Left_eq C L _ h) ?_
  simp only [__wire_Reader__Left, lget, asP, nilT, Option.isNone, Option.bind_some, cond_false, r.a, r.s]
  rw [wrap_i64 (by omega) (by omega)]
  exact .ret ⟨by rw [Int.ofNat_sub ha], rfl⟩
theorem fail_spec {h : H} {p : Nat} {s : ByteArray} {a a' : Nat} {e e' : Int} (r : Rd h p s a e) : Ret E 58 [ptr p 0, .int .i64 e', .int .i64 a'] h fun v h' => v = junk ∧ Rd h' p s a' e' ∧ Kp (Only p) h h' := by
  refine .of_fn rfl rfl (fun C L => __wire_Reader__fail_eq C L _ h) ?_
  obtain ⟨h1, e1, r1, k1⟩ := r.setE e'
  obtain ⟨h2, e2, r2, k2⟩ := r1.setA a'
  simp only [__wire_Reader__fail, lget, asP, asI_int, Option.bind_some, e1, e2]
  exact .ret ⟨rfl, r2, k1.then k2⟩

theorem take_spec {h : H} {p : Nat} {s : ByteArray} {a : Nat} {e : Int} (r : Rd h p s a e) (ha : a ≤ s.size) (hs : s.size ≤ 2 ^ 40) (n : Nat) (hn : n < 2 ^ 62) :
    Ret E 59 [ptr p 0, .int .i64 n] h fun v h' => Kp (Only p) h h' ∧ ((e ≠ 0 ∧ v = .string (bs []) ∧ Rd h' p s a e) ∨ (e = 0 ∧ s.size - a < n ∧ v = .string (bs []) ∧ Rd h' p s a 10) ∨
      (e = 0 ∧ a + n ≤ s.size ∧ v = .string (s.extract a (a + n)) ∧ Rd h' p s (a + n) 0)) := by
  refine .of_fn rfl rfl (fun C L => __wire_Reader__take_eq C L _ h) ?_
  simp only [__wire_Reader__take, lget, asP, nilT, asI_int, Option.isNone, Option.bind_some, cond_false, r.e]
  by_cases he : e = 0
  · subst he
    simp only [show ((0 : Int) != 0) = false from rfl, cond_false, r.s, r.a, Option.bind_some]
    rw [wrap_i64 (by omega) (by omega)]
    by_cases hlt : s.size - a < n
    · have : decide ((n : Int) > ((s.size : Nat) : Int) - (a : Int)) = true := by simp; omega
      obtain ⟨h1, e1, r1, k1⟩ := r.setE 10
      simp only [this, cond_true, e1, Option.bind_some]
      exact .ret ⟨k1, .inr (.inl ⟨by trivial, hlt, rfl, r1⟩)⟩
    · have : decide ((n : Int) > ((s.size : Nat) : Int) - (a : Int)) = false := by simp; omega
      have hw : IntKind.wrap .i64 ((a : Int) + n) = ((a + n : Nat) : Int) := by rw [wrap_i64 (by omega) (by omega)]; rfl
      obtain ⟨h1, e1, r1, k1⟩ := r.setA (a + n)
      have hsl : slS s (some (a : Int)) (some ((a + n : Nat) : Int)) = some (s.extract a (a + n)) := by
        unfold slS
        simp only [Option.getD_some]
        rw [if_pos ⟨by omega, by omega, by omega⟩]
        rfl
      simp only [this, cond_false, hw, hsl, e1, Option.bind_some]
      exact .ret ⟨k1, .inr (.inr ⟨by trivial, by omega, rfl, r1⟩)⟩
  · have : (e != 0) = true := by simp [he]
    simp only [this, cond_true]
    exact .ret ⟨.refl _ _, .inl ⟨he, rfl, r⟩⟩

theorem idx_of {esz n c b o i : Nat} (hi : i < n) : idx esz (.slice (some ⟨b, o, none⟩) n c) (i : Int) = some (b, o + i * esz) := by
  show (if 0 ≤ (i : Int) ∧ (i : Int) < (n : Int) then some (b, o + (i : Int).toNat * esz) else none) = _
  rw [if_pos ⟨by omega, by omega⟩]
  rfl

/-! ## numbers of fixed size -/
def leD : List UInt8 → Nat
  | [] => 0
  | b :: l => b.toNat + 256 * leD l
theorem leD_lt : ∀ l : List UInt8, leD l < 256 ^ l.length
  | [] => by simp [leD]
  | b :: l => by
    have := leD_lt l
    have hb := b.toNat_lt
    simp only [leD, List.length_cons, Nat.pow_succ]
    omega
theorem fixE_leD : ∀ l : List UInt8, fixE l.length (leD l) = l
  | [] => rfl
  | b :: l => by
    have hb := b.toNat_lt
    simp only [List.length_cons, fixE, leD]
    rw [show (b.toNat + 256 * leD l) % 256 = b.toNat by omega, show (b.toNat + 256 * leD l) / 256 = leD l by omega, fixE_leD l]
    simp

theorem toNat_ofInt64 {x : Nat} (h : x < 2 ^ 64) : (BitVec.ofInt (IntKind.bits .u64) (x : Int)).toNat = x := by
  simp [IntKind.bits, BitVec.toNat_ofInt]
  omega
theorem ior_add {x y k : Nat} (hx : x < 2 ^ k) (hx64 : x < 2 ^ 64) (hy : y * 2 ^ k < 2 ^ 64) : ior .u64 (x : Int) ((y * 2 ^ k : Nat) : Int) = ((x + y * 2 ^ k : Nat) : Int) := by
  unfold ior
  have h1 : (BitVec.ofInt (IntKind.bits .u64) (x : Int) ||| BitVec.ofInt (IntKind.bits .u64) ((y * 2 ^ k : Nat) : Int)).toNat = x + y * 2 ^ k := by
    rw [BitVec.toNat_or, toNat_ofInt64 hx64, toNat_ofInt64 hy]
    have := Nat.shiftLeft_add_eq_or_of_lt hx y
    rw [Nat.shiftLeft_eq] at this
    rw [Nat.or_comm, ← this, Nat.add_comm]
  have h2 : x + y * 2 ^ k < 2 ^ 64 := by
    rw [← h1]
    exact BitVec.isLt _
  rw [h1, wrap_u64 h2]
theorem ishl_eq {y k : Nat} (hk : k ≤ 64) (hy : y * 2 ^ k < 2 ^ 64) : ishl .u64 (y : Int) (k : Int) = ((y * 2 ^ k : Nat) : Int) := by
  have : min (k : Int).toNat (IntKind.bits .u64) = k := by simp [IntKind.bits]; omega
  unfold ishl
  rw [this]
  have e : (y : Int) * 2 ^ k = ((y * 2 ^ k : Nat) : Int) := by push_cast; rfl
  rw [e, wrap_u64 hy]

theorem leL_spec : ∀ (r : List UInt8) (n i x b : Nat) {h : H} {l : List UInt8} {t : TypeId} {o q : Bool}, h.get b = some (.cells (bvs l) t o q) → l.length = n → l.drop i = r → i ≤ n → n ≤ 8 → x < 256 ^ i →
    RetL E 86 3 [.int .u64 x, .slice (some ⟨b, 0, none⟩) n n, .int .i64 n, .int .i64 i] h fun k vs h' => vs = [.int .u64 ((x + 256 ^ i * leD r : Nat) : Int)] ∧ h' = h := by
  intro r
  induction r with
  | nil =>
    intro n i x b h l t o q hg hl hd hi hn hx
    have hin : n ≤ i := by
      have := congrArg List.length hd
      simp at this
      omega
    refine .of_lp rfl (fun C L => __wire_Reader__fixed_L3_eq C L _ h) ?_
    have : decide ((i : Int) < (n : Int)) = false := by simp; omega
    simp only [__wire_Reader__fixed_L3, lget, asI_int, Option.bind_some, this, cond_false]
    exact .ret ⟨by simp [leD], rfl⟩
  | cons y r ih =>
    intro n i x b h l t o q hg hl hd hi hn hx
    have hin : i < n := by
      have := congrArg List.length hd
      simp at this
      omega
    refine .of_lp rfl (fun C L => __wire_Reader__fixed_L3_eq C L _ h) ?_
    have hlt : decide ((i : Int) < (n : Int)) = true := by simp; omega
    have hidx : idx 1 (.slice (some ⟨b, 0, none⟩) n n) (i : Int) = some (b, i) := by
      have := idx_of (esz := 1) (c := n) (b := b) (o := 0) hin
      simpa using this
    have hy : l[i]? = some y := by
      have := congrArg (·[0]?) hd
      simpa using this
    have hld : ldI .u8 h b i = some (y.toNat : Int) := ldI_of hg (by simp [bvs, hy, bv])
    have hyl := y.toNat_lt
    have hp : 256 ^ i = 2 ^ (8 * i) := by rw [show (256 : Nat) = 2 ^ 8 by rfl, ← Nat.pow_mul]
    have hb : y.toNat * 2 ^ (8 * i) < 2 ^ 64 := by
      have h1 : y.toNat * 2 ^ (8 * i) < 2 ^ 8 * 2 ^ (8 * i) := Nat.mul_lt_mul_of_pos_right (by omega) (Nat.pos_of_ne_zero (by simp))
      rw [← Nat.pow_add] at h1
      exact Nat.lt_of_lt_of_le h1 (Nat.pow_le_pow_right (by omega) (by omega))
    have hx64 : x < 2 ^ 64 := by
      rw [hp] at hx
      exact Nat.lt_of_lt_of_le hx (Nat.pow_le_pow_right (by omega) (by omega))
    have e8 : IntKind.wrap .i64 ((8 : Int) * (i : Int)) = ((8 * i : Nat) : Int) := by rw [wrap_i64 (by omega) (by omega)]; push_cast; rfl
    have e9 : IntKind.wrap .u64 ((8 * i : Nat) : Int) = ((8 * i : Nat) : Int) := wrap_u64 (by omega)
    have e10 : IntKind.wrap .u64 (y.toNat : Int) = (y.toNat : Int) := wrap_u64 (by omega)
    have e11 : IntKind.wrap .i64 ((i : Int) + 1) = ((i + 1 : Nat) : Int) := by rw [wrap_i64 (by omega) (by omega)]; rfl
    have hneg : decide (((8 * i : Nat) : Int) < 0) = false := by simp; omega
    simp only [__wire_Reader__fixed_L3, lget, asI_int, Option.bind_some, hlt, cond_true, hidx, hld, e8, e9, hneg, cond_false, e10, e11, ishl_eq (y := y.toNat) (k := 8 * i) (by omega) hb, ior_add (by rw [← hp]; exact hx) hx64 hb]
    refine (ih n (i + 1) (x + y.toNat * 2 ^ (8 * i)) b hg hl (by rw [← List.drop_drop, hd]; rfl) (by omega) hn ?_).mono fun q ⟨h1, h2⟩ => ⟨?_, h2⟩
    · rw [Nat.pow_succ, ← hp]
      rw [hp] at hx ⊢
      have h3 : y.toNat * 2 ^ (8 * i) ≤ 255 * 2 ^ (8 * i) := Nat.mul_le_mul_right _ (by omega)
      omega
    · rw [h1]
      congr 3
      rw [← hp, Nat.pow_succ]
      simp only [leD]
      rw [Nat.mul_add, Nat.mul_assoc, Nat.mul_comm y.toNat]
      omega

end Go.Arm
namespace Go.Arm
open Go.Proofs

/-- what is left to be read -/
def rest (s : ByteArray) (a : Nat) : List UInt8 := s.data.toList.drop a
theorem rest_length (s : ByteArray) (a : Nat) : (rest s a).length = s.size - a := by simp [rest, size_toList]
theorem extract_toList (s : ByteArray) (a n : Nat) : (s.extract a (a + n)).data.toList = (rest s a).take n := by
  simp [rest, ByteArray.data_extract]
theorem rest_drop (s : ByteArray) (a n : Nat) : (rest s a).drop n = rest s (a + n) := by simp [rest, List.drop_drop]

theorem fixed_spec {h : H} {p : Nat} {s : ByteArray} {a : Nat} {e : Int} (r : Rd h p s a e) (ha : a ≤ s.size) (hs : s.size ≤ 2 ^ 40) (n : Nat) (hn : n ≤ 8) :
    Ret E 86 [ptr p 0, .int .i64 n] h fun v h' => Kp (Only p) h h' ∧ ((e ≠ 0 ∧ v = .int .u64 0 ∧ Rd h' p s a e) ∨ (e = 0 ∧ s.size - a < n ∧ v = .int .u64 0 ∧ Rd h' p s a 10) ∨
      (e = 0 ∧ a + n ≤ s.size ∧ v = .int .u64 (leD ((rest s a).take n) : Nat) ∧ Rd h' p s (a + n) 0)) := by
  refine .of_fn rfl rfl (fun C L => __wire_Reader__fixed_eq C L _ h) ?_
  simp only [__wire_Reader__fixed, lget, asI_int, Option.bind_some]
  refine .seq (take_spec r ha hs n (by omega)) fun q ⟨k1, hq⟩ => ?_
  -- the bytes that are taken
  have go : ∀ (s' : ByteArray), q.1 = .string s' → s'.size ≤ 8 → W E (fun _ L => (asS q.1).bind fun s3 => (bytesOf 5 q.2 s3).bind fun p4 => (lenV p4.1).bind fun n5 => (L 86 3 [.int .u64 (0 : Int), p4.1, .int .i64 ((n5 : Nat) : Int), .int .i64 (0 : Int)] p4.2).bind fun p6 => (asI .u64 (lget p6.2.1 0)).bind fun x7 => some (Value.int .u64 x7, p6.2.2))
      fun z => z.1 = .int .u64 (leD s'.data.toList : Nat) ∧ z.2 = q.2.new (.cells (bvs s'.data.toList) 5 true true) := by
    intro s' hs' h8
    simp only [hs', asS, Option.bind_some, bytesOf_eq (h := q.2) (s := s') (by unfold roomy; omega), lenV]
    have hl := leL_spec s'.data.toList s'.size 0 0 q.2.next (h := q.2.new (.cells (bvs s'.data.toList) 5 true true)) (by rw [get_new, if_pos rfl]) (size_toList s') rfl (Nat.zero_le _) h8 (by omega)
    refine .seq hl fun z ⟨h1, h2⟩ => ?_
    have e0 : lget z.2.1 0 = .int .u64 ((leD s'.data.toList : Nat) : Int) := by rw [h1]; simp [lget]
    simp only [e0, asI_int, Option.bind_some]
    exact .ret ⟨rfl, h2⟩
  have kn : ∀ x, Kp (Only p) h (q.2.new x) := fun x => k1.then (.new _ _)
  rcases hq with ⟨he, hv, hr⟩ | ⟨he, hlt, hv, hr⟩ | ⟨he, hle, hv, hr⟩
  · refine (go _ hv (by decide)).mono fun z ⟨h1, h2⟩ => ⟨by rw [h2]; exact kn _, .inl ⟨he, h1, by rw [h2]; exact H.get_new_old hr⟩⟩
  · refine (go _ hv (by decide)).mono fun z ⟨h1, h2⟩ => ⟨by rw [h2]; exact kn _, .inr (.inl ⟨he, hlt, h1, by rw [h2]; exact H.get_new_old hr⟩)⟩
  · have hsz : (s.extract a (a + n)).size = n := by rw [ByteArray.size_extract]; omega
    refine (go _ hv (by omega)).mono fun z ⟨h1, h2⟩ => ⟨by rw [h2]; exact kn _, .inr (.inr ⟨he, hle, by rw [h1, extract_toList], by rw [h2]; exact H.get_new_old hr⟩)⟩

theorem rU8_spec {h : H} {p : Nat} {s : ByteArray} {a : Nat} {e : Int} (r : Rd h p s a e) (ha : a ≤ s.size) (hs : s.size ≤ 2 ^ 40) :
    Ret E 60 [ptr p 0] h fun v h' => Kp (Only p) h h' ∧ ((e ≠ 0 ∧ v = .int .u8 0 ∧ Rd h' p s a e) ∨ (e = 0 ∧ rest s a = [] ∧ v = .int .u8 0 ∧ Rd h' p s a 10) ∨
      (∃ b l, e = 0 ∧ rest s a = b :: l ∧ v = .int .u8 b.toNat ∧ Rd h' p s (a + 1) 0)) := by
  refine .of_fn rfl rfl (fun C L => __wire_Reader__U8_eq C L _ h) ?_
  simp only [__wire_Reader__U8, lget]
  refine .seq (fixed_spec r ha hs 1 (by omega)) fun q ⟨k1, hq⟩ => ?_
  have hl := rest_length s a
  rcases hq with ⟨he, hv, hr⟩ | ⟨he, hlt, hv, hr⟩ | ⟨he, hle, hv, hr⟩
  · simp only [hv, asI_int, Option.bind_some]
    exact .ret ⟨k1, .inl ⟨he, rfl, hr⟩⟩
  · simp only [hv, asI_int, Option.bind_some]
    exact .ret ⟨k1, .inr (.inl ⟨he, List.eq_nil_of_length_eq_zero (by omega), rfl, hr⟩)⟩
  · simp only [hv, asI_int, Option.bind_some]
    cases hrs : rest s a with
    | nil => rw [hrs] at hl; simp at hl; omega
    | cons b l =>
      refine .ret ⟨k1, .inr (.inr ⟨b, l, he, rfl, ?_, hr⟩)⟩
      have hb := b.toNat_lt
      rw [wrap_u8]
      simp [leD]

theorem rU64_spec {h : H} {p : Nat} {s : ByteArray} {a : Nat} {e : Int} (r : Rd h p s a e) (ha : a ≤ s.size) (hs : s.size ≤ 2 ^ 40) :
    Ret E 97 [ptr p 0] h fun v h' => Kp (Only p) h h' ∧ ((e ≠ 0 ∧ v = .int .u64 0 ∧ Rd h' p s a e) ∨ (e = 0 ∧ s.size - a < 8 ∧ v = .int .u64 0 ∧ Rd h' p s a 10) ∨
      (e = 0 ∧ a + 8 ≤ s.size ∧ v = .int .u64 (leD ((rest s a).take 8) : Nat) ∧ Rd h' p s (a + 8) 0)) := by
  refine .of_fn rfl rfl (fun C L => __wire_Reader__U64_eq C L _ h) ?_
  simp only [__wire_Reader__U64, lget]
  refine .seq (fixed_spec r ha hs 8 (by omega)) fun q ⟨k1, hq⟩ => ?_
  rcases hq with ⟨he, hv, hr⟩ | ⟨he, hlt, hv, hr⟩ | ⟨he, hle, hv, hr⟩
  · simp only [hv, asI_int, Option.bind_some]; exact .ret ⟨k1, .inl ⟨he, rfl, hr⟩⟩
  · simp only [hv, asI_int, Option.bind_some]; exact .ret ⟨k1, .inr (.inl ⟨he, hlt, rfl, hr⟩)⟩
  · simp only [hv, asI_int, Option.bind_some]; exact .ret ⟨k1, .inr (.inr ⟨he, hle, rfl, hr⟩)⟩

theorem and127 : ∀ k : Fin 256, iand .u8 ((k.val : Nat) : Int) 127 = ((k.val % 128 : Nat) : Int) := by decide +kernel

theorem short_spec {h : H} {p : Nat} {s : ByteArray} {a f : Nat} {e : Int} (r : Rd h p s a e) :
    RetL E 31 1000001 [ptr p 0, .int .i64 f] h fun k vs h' => k = 0 ∧ vs = [.int .u64 0] ∧ Rd h' p s f e ∧ Kp (Only p) h h' := by
  refine .of_lp rfl (fun C L => __wire_Reader__Uvar_L1000001_eq C L _ h) ?_
  simp only [__wire_Reader__Uvar_L1000001, lget, asI_int, asP, Option.bind_some, r.e]
  exact .seq (fail_spec (a' := f) (e' := e) r) fun q ⟨_, h2, h3⟩ => .ret ⟨rfl, rfl, h2, h3⟩
theorem wrong_spec {h : H} {p : Nat} {s : ByteArray} {a f : Nat} {e : Int} (r : Rd h p s a e) :
    RetL E 31 1000002 [ptr p 0, .int .i64 f] h fun k vs h' => k = 0 ∧ vs = [.int .u64 0] ∧ Rd h' p s f 12 ∧ Kp (Only p) h h' := by
  refine .of_lp rfl (fun C L => __wire_Reader__Uvar_L1000002_eq C L _ h) ?_
  simp only [__wire_Reader__Uvar_L1000002, lget, asI_int, Option.bind_some]
  exact .seq (fail_spec (a' := f) (e' := 12) r) fun q ⟨_, h2, h3⟩ => .ret ⟨rfl, rfl, h2, h3⟩

/-- how a number's reading ends -/
def UvR (s : ByteArray) (p a f : Nat) (h' : H) (x i : Nat) (v : Value) : UV → Prop
  | .short => v = .int .u64 0 ∧ Rd h' p s f 10
  | .form => v = .int .u64 0 ∧ Rd h' p s f 12
  | .ok y n => v = .int .u64 ((x + y * 2 ^ (7 * i) : Nat) : Int) ∧ Rd h' p s (a + n) 0

/-- the form of a byte, as the program asks -/
theorem form_cond (i b : Nat) (h : H) {R : Type} (K : Bool × H → Option R) :
    ((cond (((i : Nat) : Int) == (9 : Int)) (some ((decide (((b : Nat) : Int) > (1 : Int))), h)) (some (false, h))) : Option (Bool × H)).bind (fun p8 =>
      ((cond p8.1 (some (true, p8.2)) (((cond (decide (((i : Nat) : Int) > (0 : Int))) (some ((((b : Nat) : Int) == (0 : Int)), p8.2)) (some (false, p8.2))) : Option (Bool × H)).bind fun p9 => some (p9.1, p9.2))) : Option (Bool × H)).bind K) =
      K (decide ((i = 9 ∧ 1 < b) ∨ (0 < i ∧ b = 0)), h) := by
  by_cases h9 : i = 9
  · subst h9
    by_cases h1 : 1 < b
    · have e1 : decide (((b : Nat) : Int) > (1 : Int)) = true := by simp; omega
      simp [e1, h1]
    · have e1 : decide (((b : Nat) : Int) > (1 : Int)) = false := by simp; omega
      by_cases h0 : b = 0
      · subst h0; simp
      · have : b = 1 := by omega
        subst this
        simp
  · have e9 : (((i : Nat) : Int) == (9 : Int)) = false := by simp; omega
    by_cases hi : 0 < i
    · by_cases h0 : b = 0
      · subst h0; simp [e9, hi]
      · have e2 : (((b : Nat) : Int) == (0 : Int)) = false := by simp; omega
        simp [e9, hi, h0, h9, e2]
    · have : i = 0 := by omega
      subst this
      simp
theorem form_step (b : UInt8) (i : Nat) (hx : i ≤ 9) : IntKind.wrap .u64 (IntKind.wrap .i64 ((7 : Int) * (i : Int))) = ((7 * i : Nat) : Int) := by
  rw [show (7 : Int) * (i : Int) = ((7 * i : Nat) : Int) by push_cast; rfl, wrap_i64 (by omega) (by omega), wrap_u64 (by omega)]
theorem and127' (b : UInt8) : IntKind.wrap .u64 (iand .u8 (b.toNat : Int) 127) = ((b.toNat % 128 : Nat) : Int) := by
  have := and127 ⟨b.toNat, b.toNat_lt⟩
  simp only at this
  rw [this, wrap_u64 (by omega)]

theorem uvarLoop_spec : ∀ (l : List UInt8) (i x a f : Nat) {h : H} {p : Nat} {s : ByteArray}, rest s a = l → Rd h p s a 0 → a ≤ s.size → s.size ≤ 2 ^ 40 → 0 < i → i ≤ 9 → x < 2 ^ (7 * i) →
    RetL E 31 1000000 [ptr p 0, .int .u64 x, .int .i64 f, .int .i64 i] h fun k vs h' => Kp (Only p) h h' ∧ ∃ v, vs = [v] ∧ UvR s p a f h' x i v (uvD i l) := by
  intro l
  induction l with
  | nil =>
    intro i x a f h p s hl r ha hs hi hi9 hx
    refine .of_lp rfl (fun C L => __wire_Reader__Uvar_L1000000_eq C L _ h) ?_
    simp only [__wire_Reader__Uvar_L1000000, lget, asI_int, asP, Option.bind_some]
    refine .seq (rU8_spec r ha hs) fun q ⟨k1, hq⟩ => ?_
    rcases hq with ⟨he, _⟩ | ⟨_, _, hv, hr⟩ | ⟨b, l', _, hb, _⟩
    · exact absurd rfl he
    · simp only [hv, asI_int, Option.bind_some, hr.e, show ((10 : Int) != 0) = true from rfl, cond_true]
      exact (short_spec (f := f) hr).mono fun z ⟨_, h2, h3, h4⟩ => ⟨k1.then h4, _, h2, rfl, h3⟩
    · rw [hl] at hb; cases hb
  | cons b l ih =>
    intro i x a f h p s hl r ha hs hi hi9 hx
    refine .of_lp rfl (fun C L => __wire_Reader__Uvar_L1000000_eq C L _ h) ?_
    simp only [__wire_Reader__Uvar_L1000000, lget, asI_int, asP, Option.bind_some]
    refine .seq (rU8_spec r ha hs) fun q ⟨k1, hq⟩ => ?_
    rcases hq with ⟨he, _⟩ | ⟨_, hb, _⟩ | ⟨b', l', _, hb, hv, hr⟩
    · exact absurd rfl he
    · rw [hl] at hb; cases hb
    rw [hl] at hb
    cases hb
    have hlt := b.toNat_lt
    simp only [hv, asI_int, Option.bind_some, hr.e, show ((0 : Int) != 0) = false from rfl, cond_false, form_cond]
    by_cases hform : (i = 9 ∧ 1 < b.toNat) ∨ (0 < i ∧ b.toNat = 0)
    · have hd : uvD i (b :: l) = .form := by unfold uvD; rw [if_pos hform]
      rw [hd]
      simp only [hform, decide_true, cond_true]
      exact (wrong_spec (f := f) hr).mono fun z ⟨_, h2, h3, h4⟩ => ⟨k1.then h4, _, h2, rfl, h3⟩
    · have h9 : i = 9 → b.toNat ≤ 1 := fun h => by
        rcases Nat.lt_or_ge 1 b.toNat with h1 | h1
        · exact absurd (.inl ⟨h, h1⟩) hform
        · exact h1
      have hneg : decide (((7 * i : Nat) : Int) < 0) = false := by simp; omega
      have hrl := rest_length s a
      rw [hl] at hrl
      simp at hrl
      have hx64 : x < 2 ^ 64 := Nat.lt_of_lt_of_le hx (Nat.pow_le_pow_right (by omega) (by omega))
      simp only [hform, decide_false, cond_false, form_step b i hi9, hneg, and127' b]
      by_cases hs128 : b.toNat < 128
      · have hge : decide ((b.toNat : Int) ≥ 128) = false := by simp; omega
        have hd : uvD i (b :: l) = .ok b.toNat 1 := by unfold uvD; rw [if_neg hform, if_pos hs128]
        have hm : b.toNat % 128 = b.toNat := by omega
        have hb64 : b.toNat * 2 ^ (7 * i) < 2 ^ 64 := by
          by_cases h : i = 9
          · have h1 := h9 h
            subst h
            have : b.toNat * 2 ^ (7 * 9) ≤ 1 * 2 ^ (7 * 9) := Nat.mul_le_mul_right _ h1
            omega
          · have h1 : b.toNat * 2 ^ (7 * i) < 2 ^ 7 * 2 ^ (7 * i) := Nat.mul_lt_mul_of_pos_right (by omega) (Nat.pos_of_ne_zero (by simp))
            rw [← Nat.pow_add] at h1
            exact Nat.lt_of_lt_of_le h1 (Nat.pow_le_pow_right (by omega) (by omega))
        rw [hd]
        simp only [hge, cond_false, hm, ishl_eq (y := b.toNat) (k := 7 * i) (by omega) hb64, ior_add hx hx64 hb64]
        exact .ret ⟨k1, _, rfl, rfl, hr⟩
      · have hge : decide ((b.toNat : Int) ≥ 128) = true := by simp; omega
        have hi8 : i ≤ 8 := by
          rcases Nat.lt_or_ge i 9 with h | h
          · omega
          · have := h9 (by omega); omega
        have hb64 : (b.toNat % 128) * 2 ^ (7 * i) < 2 ^ 64 := by
          have h1 : (b.toNat % 128) * 2 ^ (7 * i) < 2 ^ 7 * 2 ^ (7 * i) := Nat.mul_lt_mul_of_pos_right (by omega) (Nat.pos_of_ne_zero (by simp))
          rw [← Nat.pow_add] at h1
          exact Nat.lt_of_lt_of_le h1 (Nat.pow_le_pow_right (by omega) (by omega))
        have e1 : IntKind.wrap .i64 ((i : Int) + 1) = ((i + 1 : Nat) : Int) := by rw [wrap_i64 (by omega) (by omega)]; rfl
        simp only [hge, cond_true, ishl_eq (y := b.toNat % 128) (k := 7 * i) (by omega) hb64, ior_add hx hx64 hb64, e1]
        have hx2 : x + b.toNat % 128 * 2 ^ (7 * i) < 2 ^ (7 * (i + 1)) := by
          rw [show 7 * (i + 1) = 7 + 7 * i by omega, Nat.pow_add]
          have : b.toNat % 128 * 2 ^ (7 * i) ≤ 127 * 2 ^ (7 * i) := Nat.mul_le_mul_right _ (by omega)
          omega
        refine (ih (i + 1) (x + b.toNat % 128 * 2 ^ (7 * i)) (a + 1) f (by rw [← rest_drop, hl]; rfl) hr (by omega) hs (by omega) (by omega) hx2).mono fun z ⟨k2, v, h2, h3⟩ => ⟨k1.then k2, v, h2, ?_⟩
        unfold uvD
        rw [if_neg hform, if_neg hs128]
        cases hd : uvD (i + 1) l with
        | short => rw [hd] at h3; exact h3
        | form => rw [hd] at h3; exact h3
        | ok y n =>
          rw [hd] at h3
          obtain ⟨h4, h5⟩ := h3
          refine ⟨?_, by rw [show a + (n + 1) = a + 1 + n by omega]; exact h5⟩
          rw [h4]
          congr 2
          have e2 : 2 ^ (7 * (i + 1)) = 128 * 2 ^ (7 * i) := by rw [show 7 * (i + 1) = 7 + 7 * i by omega, Nat.pow_add]
          have e3 : b.toNat - 128 = b.toNat % 128 := by omega
          rw [e2, e3, Nat.add_mul, ← Nat.mul_assoc, Nat.mul_comm y 128]
          omega

theorem rUvar_spec {h : H} {p : Nat} {s : ByteArray} {a : Nat} {e : Int} (r : Rd h p s a e) (ha : a ≤ s.size) (hs : s.size ≤ 2 ^ 40) :
    Ret E 31 [ptr p 0] h fun v h' => Kp (Only p) h h' ∧ ((e ≠ 0 ∧ v = .int .u64 0 ∧ Rd h' p s a e) ∨ (e = 0 ∧ UvR s p a a h' 0 0 v (uvD 0 (rest s a)))) := by
  refine .of_fn rfl rfl (fun C L => __wire_Reader__Uvar_eq C L _ h) ?_
  simp only [__wire_Reader__Uvar, lget, asP, nilT, Option.isNone, Option.bind_some, cond_false, r.e]
  by_cases he : e = 0
  · subst he
    simp only [show ((0 : Int) != 0) = false from rfl, cond_false, r.a, Option.bind_some]
    refine .seq (rU8_spec r ha hs) fun q ⟨k1, hq⟩ => ?_
    rcases hq with ⟨he, _⟩ | ⟨_, hb, hv, hr⟩ | ⟨b, l, _, hb, hv, hr⟩
    · exact absurd rfl he
    · simp only [hv, asI_int, Option.bind_some, hr.e, show ((10 : Int) != 0) = true from rfl, cond_true, hb]
      refine .seq (short_spec (f := a) hr) fun z ⟨_, h2, h3, h4⟩ => ?_
      simp only [h2, lget, asI_int, Option.bind_some]
      exact .ret ⟨k1.then h4, .inr ⟨by trivial, rfl, h3⟩⟩
    · have hlt := b.toNat_lt
      have hrl := rest_length s a
      rw [hb] at hrl
      simp at hrl
      have hform : ¬ ((0 = 9 ∧ 1 < b.toNat) ∨ (0 < 0 ∧ b.toNat = 0)) := by omega
      have e7 : IntKind.wrap .u64 (IntKind.wrap .i64 ((7 : Int) * (0 : Int))) = ((7 * 0 : Nat) : Int) := by decide
      have hneg : decide (((7 * 0 : Nat) : Int) < 0) = false := by decide
      have e01 : IntKind.wrap .i64 ((0 : Int) + 1) = ((1 : Nat) : Int) := by decide
      have hm64 : (b.toNat % 128) * 2 ^ (7 * 0) < 2 ^ 64 := by simp; omega
      simp only [hv, asI_int, Option.bind_some, hr.e, show ((0 : Int) != 0) = false from rfl, show ((0 : Int) == 9) = false from rfl, show decide ((0 : Int) > 0) = false from rfl, cond_false, hb, e7, hneg, e01, and127' b, ishl_eq (y := b.toNat % 128) (k := 7 * 0) (by omega) hm64]
      rw [show (0 : Int) = ((0 : Nat) : Int) from rfl]
      simp only [ior_add (x := 0) (y := b.toNat % 128) (k := 7 * 0) (by simp) (by simp) hm64]
      by_cases hs128 : b.toNat < 128
      · have hge : decide ((b.toNat : Int) ≥ 128) = false := by simp; omega
        have hd : uvD 0 (b :: l) = .ok b.toNat 1 := by unfold uvD; rw [if_neg hform, if_pos hs128]
        have hm : b.toNat % 128 = b.toNat := by omega
        simp only [hge, cond_false, hm, hd]
        exact .ret ⟨k1, .inr ⟨by trivial, rfl, hr⟩⟩
      · have hge : decide ((b.toNat : Int) ≥ 128) = true := by simp; omega
        simp only [hge, cond_true]
        refine .seq (uvarLoop_spec l 1 (0 + b.toNat % 128 * 2 ^ (7 * 0)) (a + 1) a (by rw [← rest_drop, hb]; rfl) hr (by omega) hs (by omega) (by omega) (by simp; omega)) fun z ⟨k2, v, h2, h3⟩ => ?_
        cases hd : uvD 1 l with
        | short =>
          rw [hd] at h3
          obtain ⟨rfl, h4⟩ := h3
          simp only [h2, lget, asI_int, Option.bind_some]
          refine .ret ⟨k1.then k2, .inr ⟨by trivial, ?_⟩⟩
          unfold uvD; rw [if_neg hform, if_neg hs128, hd]
          exact ⟨rfl, h4⟩
        | form =>
          rw [hd] at h3
          obtain ⟨rfl, h4⟩ := h3
          simp only [h2, lget, asI_int, Option.bind_some]
          refine .ret ⟨k1.then k2, .inr ⟨by trivial, ?_⟩⟩
          unfold uvD; rw [if_neg hform, if_neg hs128, hd]
          exact ⟨rfl, h4⟩
        | ok y n =>
          rw [hd] at h3
          obtain ⟨rfl, h4⟩ := h3
          simp only [h2, lget, asI_int, Option.bind_some]
          refine .ret ⟨k1.then k2, .inr ⟨by trivial, ?_⟩⟩
          unfold uvD; rw [if_neg hform, if_neg hs128, hd]
          refine ⟨?_, by rw [show a + (n + 1) = a + 1 + n by omega]; exact h4⟩
          congr 2
          simp
          omega
  · have : (e != 0) = true := by simp [he]
    simp only [this, cond_true]
    exact .ret ⟨.refl _ _, .inl ⟨he, rfl, r⟩⟩

end Go.Arm
namespace Go.Arm
open Go.Proofs

abbrev None' : Nat → Prop := fun _ => False
theorem bldT_79 (s : ByteArray) : bldT E 79 [(0, .string s)] = some (.agg #[.string s, .int .i64 0, .int .i64 0]) := by kernel_rfl
theorem read_spec (s : ByteArray) (h : H) : Ret E 10 [.string s] h fun v h' => v = ptr h.next 0 ∧ Rd h' h.next s 0 0 ∧ Kp None' h h' := by
  refine .of_fn rfl rfl (fun C L => wire_Read_eq C L _ h) ?_
  have hone : oneL (Value.agg #[.string s, .int .i64 0, .int .i64 0]).cells.toList = some [.string s, .int .i64 0, .int .i64 0] := by rfl
  simp only [wire_Read, lget, asS, Option.bind_some, bldT_79, hone]
  exact .ret ⟨rfl, by unfold Rd; rw [get_new, if_pos rfl]; rfl, .new _ _⟩

theorem ba_eq (s : ByteArray) : s = ⟨⟨s.data.toList⟩⟩ := rfl
theorem bs_nil : bs [] = ⟨⟨[]⟩⟩ := rfl

/-- a text, up to so many bytes: what is wrong, or its bytes and how many were read -/
def txD (most : Nat) (l : List UInt8) : Except Int (List UInt8 × Nat) :=
  match uvD 0 l with
  | .short => .error 10
  | .form => .error 12
  | .ok n c => if most < n then .error 12 else if l.length - c < n then .error 10 else .ok ((l.drop c).take n, c + n)

theorem rText_spec {h : H} {p : Nat} {s : ByteArray} {a : Nat} {e : Int} (r : Rd h p s a e) (ha : a ≤ s.size) (hs : s.size ≤ 2 ^ 40) (most : Nat) (hm : most < 2 ^ 40) :
    Ret E 28 [ptr p 0, .int .i64 most] h fun v h' => Kp (Only p) h h' ∧ ((e ≠ 0 ∧ v = .string (bs []) ∧ Rd h' p s a e) ∨
      (e = 0 ∧ match txD most (rest s a) with | .error c => v = .string (bs []) ∧ Rd h' p s a c | .ok (t, n) => v = .string ⟨⟨t⟩⟩ ∧ Rd h' p s (a + n) 0)) := by
  refine .of_fn rfl rfl (fun C L => __wire_Reader__Text_eq C L _ h) ?_
  simp only [__wire_Reader__Text, lget, asI_int, Option.bind_some]
  refine .seq (at_spec r) fun q0 ⟨hv0, hh0⟩ => ?_
  obtain ⟨v0, h0⟩ := q0
  simp only at hv0 hh0
  subst hv0 hh0
  simp only [asI_int, Option.bind_some]
  refine .seq (rUvar_spec r ha hs) fun q ⟨k1, hq⟩ => ?_
  rcases hq with ⟨he, hv, hr⟩ | ⟨he, hu⟩
  · simp only [hv, asI_int, Option.bind_some]
    refine .seq (err_spec hr) fun q1 ⟨hv1, hh1⟩ => ?_
    have : (e != 0) = true := by simp [he]
    simp only [hv1, hh1, asI_int, Option.bind_some, this, cond_true]
    exact .ret ⟨k1, .inl ⟨he, rfl, hr⟩⟩
  · unfold txD
    cases hd : uvD 0 (rest s a) with
    | short =>
      rw [hd] at hu
      obtain ⟨hv, hr⟩ := hu
      simp only [hv, asI_int, Option.bind_some]
      refine .seq (err_spec hr) fun q1 ⟨hv1, hh1⟩ => ?_
      simp only [hv1, hh1, asI_int, Option.bind_some, show ((10 : Int) != 0) = true from rfl, cond_true]
      exact .ret ⟨k1, .inr ⟨he, rfl, hr⟩⟩
    | form =>
      rw [hd] at hu
      obtain ⟨hv, hr⟩ := hu
      simp only [hv, asI_int, Option.bind_some]
      refine .seq (err_spec hr) fun q1 ⟨hv1, hh1⟩ => ?_
      simp only [hv1, hh1, asI_int, Option.bind_some, show ((12 : Int) != 0) = true from rfl, cond_true]
      exact .ret ⟨k1, .inr ⟨he, rfl, hr⟩⟩
    | ok y n =>
      rw [hd] at hu
      obtain ⟨hv, hr⟩ := hu
      obtain ⟨q1, q2, q3, q4, q5, q6⟩ := uvD_ok _ 0 y n (by omega) hd
      have hrl := rest_length s a
      have hy : 0 + y * 2 ^ (7 * 0) = y := by simp
      rw [hy] at hv
      simp only [hv, asI_int, Option.bind_some]
      refine .seq (err_spec hr) fun q1 ⟨hv1, hh1⟩ => ?_
      have e1 : decide ((most : Int) < 0) = false := by simp
      have e2 : IntKind.wrap .u64 (most : Int) = (most : Int) := wrap_u64 (by omega)
      simp only [hv1, hh1, asI_int, Option.bind_some, show ((0 : Int) != 0) = false from rfl, cond_false, e1, e2]
      by_cases hmost : most < y
      · have e3 : decide ((y : Int) > (most : Int)) = true := by simp; omega
        simp only [e3, cond_true, hmost, if_true]
        refine .seq (fail_spec (a' := a) (e' := 12) hr) fun q2 ⟨_, h2, h3⟩ => .ret ⟨k1.then h3, .inr ⟨he, rfl, h2⟩⟩
      · have e3 : decide ((y : Int) > (most : Int)) = false := by simp; omega
        simp only [e3, cond_false, hmost, if_false]
        refine .seq (left_spec hr (by omega) hs) fun q2 ⟨hv2, hh2⟩ => ?_
        have e4 : IntKind.wrap .u64 ((s.size - (a + n) : Nat) : Int) = ((s.size - (a + n) : Nat) : Int) := wrap_u64 (by omega)
        simp only [hv2, hh2, asI_int, Option.bind_some, e4]
        by_cases hleft : (rest s a).length - n < y
        · have e5 : decide ((y : Int) > ((s.size - (a + n) : Nat) : Int)) = true := by simp; omega
          simp only [e5, cond_true, hleft, if_true]
          refine .seq (fail_spec (a' := a) (e' := 10) hr) fun q3 ⟨_, h2, h3⟩ => .ret ⟨k1.then h3, .inr ⟨he, rfl, h2⟩⟩
        · have e5 : decide ((y : Int) > ((s.size - (a + n) : Nat) : Int)) = false := by simp; omega
          have e6 : IntKind.wrap .i64 (y : Int) = (y : Int) := wrap_i64 (by omega) (by omega)
          simp only [e5, cond_false, hleft, if_false, e6]
          refine .seq (take_spec hr (by omega) hs y (by omega)) fun q3 ⟨k3, hq3⟩ => ?_
          rcases hq3 with ⟨he3, _⟩ | ⟨_, hlt, _⟩ | ⟨_, hle, hv3, hr3⟩
          · exact absurd rfl he3
          · omega
          · simp only [hv3, asS, Option.bind_some]
            refine .ret ⟨k1.then k3, .inr ⟨he, ?_, by rw [← Nat.add_assoc]; exact hr3⟩⟩
            congr 1
            rw [ba_eq (s.extract (a + n) (a + n + y)), extract_toList, rest_drop]

theorem rRaw_spec {h : H} {p : Nat} {s : ByteArray} {a : Nat} {e : Int} (r : Rd h p s a e) (ha : a ≤ s.size) (hs : s.size ≤ 2 ^ 40) (n : Nat) (hn : n < 2 ^ 62) :
    Ret E 91 [ptr p 0, .int .i64 n] h fun v h' => Kp (Only p) h h' ∧ ((e ≠ 0 ∧ v = .string (bs []) ∧ Rd h' p s a e) ∨ (e = 0 ∧ s.size - a < n ∧ v = .string (bs []) ∧ Rd h' p s a 10) ∨
      (e = 0 ∧ a + n ≤ s.size ∧ v = .string ⟨⟨(rest s a).take n⟩⟩ ∧ Rd h' p s (a + n) 0)) := by
  refine .of_fn rfl rfl (fun C L => __wire_Reader__Raw_eq C L _ h) ?_
  have e1 : decide ((n : Int) < 0) = false := by simp
  simp only [__wire_Reader__Raw, lget, asI_int, Option.bind_some, e1, cond_false]
  refine .seq (take_spec r ha hs n hn) fun q ⟨k1, hq⟩ => ?_
  rcases hq with ⟨he, hv, hr⟩ | ⟨he, hlt, hv, hr⟩ | ⟨he, hle, hv, hr⟩
  · simp only [hv, asS, Option.bind_some]; exact .ret ⟨k1, .inl ⟨he, rfl, hr⟩⟩
  · simp only [hv, asS, Option.bind_some]; exact .ret ⟨k1, .inr (.inl ⟨he, hlt, rfl, hr⟩)⟩
  · simp only [hv, asS, Option.bind_some]
    refine .ret ⟨k1, .inr (.inr ⟨he, hle, ?_, hr⟩)⟩
    congr 1
    rw [ba_eq (s.extract a (a + n)), extract_toList]

theorem done_spec {h : H} {p : Nat} {s : ByteArray} {a : Nat} {e : Int} (r : Rd h p s a e) (ha : a ≤ s.size) (hs : s.size ≤ 2 ^ 40) :
    Ret E 14 [ptr p 0] h fun v h' => h' = h ∧ ((e ≠ 0 ∧ v = .int .i64 e) ∨ (e = 0 ∧ a < s.size ∧ v = .int .i64 11) ∨ (e = 0 ∧ a = s.size ∧ v = .int .i64 0)) := by
  refine .of_fn rfl rfl (fun C L => __wire_Reader__Done_eq C L _ h) ?_
  simp only [__wire_Reader__Done, lget]
  refine .seq (err_spec r) fun q1 ⟨hv1, hh1⟩ => ?_
  simp only [hv1, hh1, asI_int, Option.bind_some]
  by_cases he : e = 0
  · subst he
    simp only [show ((0 : Int) != 0) = false from rfl, cond_false]
    refine .seq (left_spec r ha hs) fun q2 ⟨hv2, hh2⟩ => ?_
    simp only [hv2, hh2, asI_int, Option.bind_some]
    by_cases hlt : a < s.size
    · have : decide (((s.size - a : Nat) : Int) > 0) = true := by simp; omega
      simp only [this, cond_true]
      exact .ret ⟨rfl, .inr (.inl ⟨by trivial, hlt, rfl⟩)⟩
    · have : decide (((s.size - a : Nat) : Int) > 0) = false := by simp; omega
      simp only [this, cond_false]
      exact .ret ⟨rfl, .inr (.inr ⟨by trivial, by omega, rfl⟩)⟩
  · have : (e != 0) = true := by simp [he]
    simp only [this, cond_true]
    exact .ret ⟨rfl, .inl ⟨he, rfl⟩⟩

def unzI (x : Nat) : Int := ixor .i64 (IntKind.wrap .i64 (ishr .u64 (x : Int) 1)) (IntKind.wrap .i64 (0 - (IntKind.wrap .i64 (iand .u64 (x : Int) 1))))
theorem rSvar_spec {h : H} {p : Nat} {s : ByteArray} {a : Nat} {e : Int} (r : Rd h p s a e) (ha : a ≤ s.size) (hs : s.size ≤ 2 ^ 40) :
    Ret E 98 [ptr p 0] h fun v h' => Kp (Only p) h h' ∧ ((e ≠ 0 ∧ v = .int .i64 (unzI 0) ∧ Rd h' p s a e) ∨ (e = 0 ∧ match uvD 0 (rest s a) with
      | .short => v = .int .i64 (unzI 0) ∧ Rd h' p s a 10
      | .form => v = .int .i64 (unzI 0) ∧ Rd h' p s a 12
      | .ok y n => v = .int .i64 (unzI y) ∧ Rd h' p s (a + n) 0)) := by
  refine .of_fn rfl rfl (fun C L => __wire_Reader__Svar_eq C L _ h) ?_
  simp only [__wire_Reader__Svar, lget]
  refine .seq (rUvar_spec r ha hs) fun q ⟨k1, hq⟩ => ?_
  rcases hq with ⟨he, hv, hr⟩ | ⟨he, hu⟩
  · simp only [hv, asI_int, Option.bind_some]
    exact .ret ⟨k1, .inl ⟨he, rfl, hr⟩⟩
  · cases hd : uvD 0 (rest s a) with
    | short =>
      rw [hd] at hu
      obtain ⟨hv, hr⟩ := hu
      simp only [hv, asI_int, Option.bind_some]
      exact .ret ⟨k1, .inr ⟨he, rfl, hr⟩⟩
    | form =>
      rw [hd] at hu
      obtain ⟨hv, hr⟩ := hu
      simp only [hv, asI_int, Option.bind_some]
      exact .ret ⟨k1, .inr ⟨he, rfl, hr⟩⟩
    | ok y n =>
      rw [hd] at hu
      obtain ⟨hv, hr⟩ := hu
      have hy : 0 + y * 2 ^ (7 * 0) = y := by simp
      rw [hy] at hv
      simp only [hv, asI_int, Option.bind_some]
      exact .ret ⟨k1, .inr ⟨he, rfl, hr⟩⟩

end Go.Arm
