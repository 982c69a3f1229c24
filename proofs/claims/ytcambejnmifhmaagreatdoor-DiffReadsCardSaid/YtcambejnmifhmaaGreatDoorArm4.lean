/- The evaluator tells what the model does: the induction.
   What functions come to, whatever the evaluator's fuel from some on.
   What stands for the functions that are not walked: utf8.ValidString; the chapter's example. Definitions alone.
   Printed by Gen.lean. The types and the loops of the functions that are reached.
   shallow functions -/
import Derived.Test.YtcambejnmifhmaaGreatDoorArm3
import Derived.Test.YtcambejnmifhmaaGreatDoorArm1
import Derived.Lib.ValidU
import Derived.Test.YtcambejnmifhmaaGreatDoorProg
import Derived.KernelRfl
namespace Go.Arm
variable {E : Env} {P : Program} {C : CF} {L : LF}

/-- what is no block of cells turns, out of reach -/
theorem RH.putAway {β : Beta} {h : H} {S : Sc} {w : World} (r : RH E β h S w) {q : Nat} {o : Obj} (hq : ∀ j, w.cell? ⟨q, j, none⟩ = none) (hS : ¬ S q) : RH E β h S (w.putObj q o) := by
  have hsz : (w.putObj q o).heap.size = w.heap.size := by simp [World.putObj]
  refine ⟨r.glob, by rw [hsz]; exact r.up, r.fresh, by rw [hsz]; exact r.lt, fun c l hc hh => ?_, r.disj, r.hol, r.held⟩
  obtain ⟨y, hy, hk⟩ := r.blk c l hc hh
  refine ⟨y, hy, ?_⟩
  by_cases hyq : y.blk = q
  · cases l with
    | cells cs t own loose =>
      obtain ⟨h1, h2, h3, h4, h5, h6⟩ := hk
      refine ⟨h1, h2, h3, h4, fun i v hv => ?_, fun ho => absurd (by rw [← hyq]; exact (h6 ho).1) hS⟩
      obtain ⟨v', hv', _⟩ := h5 i v hv
      rw [hyq, hq] at hv'; cases hv'
    | map es clock => exact absurd (by rw [← hyq]; exact hk.1) hS
    | loop f r vs => exact absurd (by rw [← hyq]; exact hk.1) hS
    | hole => exact absurd rfl hh
  · exact hk.keep (Beta.le_refl β) (fun s => s) (World.putObj_heap_other hyq)
theorem RH.putMark {β : Beta} {h : H} {S : Sc} {w : World} (r : RH E β h S w) {q : Nat} (hq : w.heap[q]? = some (.deferred (some []))) (hS : ¬ S q) : RH E β h S (w.putObj q (.deferred none)) :=
  r.putAway (fun j => by simp [World.cell?, hq]) hS

theorem leaves_marks {fn : Func} {tmps : Array Value} {R : Ending → World → Prop} {β : Beta} {h : H} {S S' : Sc} : ∀ (rs : List Nat) (w : World), rs.Nodup → (∀ r ∈ rs, w.heap[r]? = some (.deferred (some [])) ∧ S r ∧ ¬ S' r) → RH E β h S' w →
    (∀ w', RH E β h S' w' → Fr S w w' → LeavesIn Fence.wide 0 P fn tmps R [] .returning w') → LeavesInM Fence.wide 0 P fn tmps R (rs.map mkMark) .returning w
  | [], w, _, _, r, hk => hk w r (Fr.refl S w)
  | q :: rs, w, hn, hr, r, hk => by
    obtain ⟨h1, h2, h3⟩ := hr q (by simp)
    obtain ⟨n1, n2⟩ := List.nodup_cons.1 hn
    refine ⟨by simp, .inl ⟨q, _, rfl, run_takeDeferred h1, ?_⟩⟩
    have hfr : Fr S w (w.putObj q (.deferred none)) := ⟨rfl, rfl, rfl, by simp [World.putObj], fun k hk => World.putObj_heap_other (fun e => hk (by rw [e]; exact h2))⟩
    refine leaves_marks rs _ n2 (fun p hp => ?_) (r.putMark h1 h3) fun w' r' hf => hk w' r' (hfr.trans hf)
    obtain ⟨q1, q2, q3⟩ := hr p (by simp [hp])
    exact ⟨by rw [World.putObj_heap_other (fun e => n1 (by rw [← e]; exact hp))]; exact q1, q2, q3⟩

theorem fnK_sound (hE : EnvOK P E) (hC : CallsOK P E C) (hD : DrawOK E P C L) {f : Nat} {fn : Func} {c : Code} (hf : P.funcs[f]? = some fn) (hb : fn.body = some c) (hn : fn.params.size + fn.nfree ≤ fn.ntmps)
    (hL : LoopsOK E P (annOf E f) L f c fn.ntmps) {args : List Value} {h : H} {v : Value} {h' : H} (e : fnK E C L f fn args h = some (v, h'))
    {β : Beta} {S : Sc} {w : World} {args' : List Value} (hv : VL β args args') (r : RH E β h S w) : Calls P f ⟨args'⟩ w (Post E β S w v h') := by
  unfold fnK at e
  rw [hb] at e
  simp only at e
  have e := srcL_any _ _ _ _ _ e
  simp only [List.reverse_nil, List.nil_append] at e
  have hlen : (fn.params.toList.map some ++ List.replicate fn.nfree none).length = fn.params.size + fn.nfree := by simp
  rw [hlen] at e
  obtain ⟨ex, tm', h1, hK, _, hw⟩ := codeK_sound hE hC hD hL c _ h _ _ (fun p hp => hp) (fun p hp => hp) (fun p hp => hp) (by simp; omega) e
  refine callsIn_wide.1 (callsIn_of_wp_marks (n := 0) hf hb trivial ?_)
  have ht := enter_rel (n := fn.params.size + fn.nfree) (m := fn.ntmps) hv
  refine hw none (.inl rfl) β S w _ ht ?_ r _ fun β' S' a' w' x => ?_
  · unfold TmS
    simp
    omega
  · obtain ⟨rs, hd, hnd, hrs⟩ := x.a0.defers
    simp only [List.append_nil] at hd
    have fin : resK E fn tm' h1 = some (v, h') → LeavesInM Fence.wide 0 P fn a'.tmps (Post E β S w v h') a'.defers .returning w' := by
      intro hK
      rw [hd]
      refine leaves_marks rs w' hnd hrs x.a0.rh fun w2 r2 hf2 => ?_
      obtain ⟨rfl, v', hvr, hrun⟩ := resK_run hE hK x.tmr r2
      exact ⟨v', hrun, β', x.a0.le, r2.sub x.a0.sub.mem (fun b hb => by rw [x.a0.sub.held]; exact hb) (fun b hb => by rw [x.a0.sub.hol]; exact hb), x.a0.fr.trans hf2, hvr⟩
    cases ex with
    | normal => exact fin hK
    | ret => exact fin hK
    | exit i => cases hK
    | goto l => cases hK

/-! ## rounds -/
theorem setP_rel {β : Beta} : ∀ (ps : List Tmp) (xs xs' : List Value) (tm : List Value) (A : Array Value), VL β xs xs' → tm.length ≤ A.size → TmR β tm { tmps := A, defers := [] } →
    TmR β (setP ps xs tm) { tmps := (ps.zip xs').foldl (fun tmps p => tmps.setIfInBounds p.1 p.2) A, defers := [] } ∧ (setP ps xs tm).length = tm.length ∧ ((ps.zip xs').foldl (fun tmps p => tmps.setIfInBounds p.1 p.2) A).size = A.size
  | [], xs, xs', tm, A, _, _, ht => by
    have h1 : setP [] xs tm = tm := by cases xs <;> rfl
    rw [h1]
    exact ⟨ht, rfl, rfl⟩
  | p :: ps, [], xs', tm, A, hv, _, ht => by
    obtain rfl := hv.cases_nil
    exact ⟨ht, rfl, rfl⟩
  | p :: ps, x :: xs, xs', tm, A, hv, hle, ht => by
    obtain ⟨x', t, rfl, h1, h2⟩ := hv.cases_cons
    have ht2 : TmR β (lset tm p x) { tmps := A.setIfInBounds p x', defers := [] } := by
      intro i
      rw [lget_lset]
      by_cases hip : i = p
      · subst hip
        by_cases hi : i < tm.length
        · simp only [hi, and_self, if_true]
          have hA : i < A.size := by omega
          simp [hA]; exact h1
        · simp only [hi, and_false, if_false]
          rw [lget_ge tm i (by omega)]
          exact .junk _
      · simp only [hip, false_and, if_false]
        have := ht i
        simp only [Array.getD_eq_getD_getElem?] at this ⊢
        rw [Array.getElem?_setIfInBounds_ne (Ne.symm hip)]
        exact this
    obtain ⟨q1, q2, q3⟩ := setP_rel ps xs t _ _ h2 (by rw [lset_length, Array.size_setIfInBounds]; exact hle) ht2
    exact ⟨q1, by rw [← lset_length tm p x]; exact q2, by rw [← Array.size_setIfInBounds (xs := A) (i := p) (a := x')]; exact q3⟩

/-- what is asked of the functions and the summaries -/
structure AllOK (P : Program) (E : Env) : Prop where
  fns : ∀ f fn, E.fns.get f = some fn → ∃ c, fn.body = some c ∧ FnOK c ∧ fn.params.size + fn.nfree ≤ fn.ntmps ∧ ∀ r, (annOf E f).loops.get (rngKey + r) = none
  sums : ∀ f g, E.sums.get f = some g → CallsOK P E (fun f' args h => if f' = f then g args h else none)
  draw : ∀ C L, CallsOK P E C → RoundsOK P E L → DrawOK E P C L

theorem rdK_sound (hE : EnvOK P E) (hC : CallsOK P E C) (hL : ∀ f fn c, E.fns.get f = some fn → fn.body = some c → LoopsOK E P (annOf E f) L f c fn.ntmps) (hA : AllOK P E) (hRd : RoundsOK P E L) {L' : LF}
    (hL' : ∀ f fn r args h, E.fns.get f = some fn → L' f r args h = lpN E C L f r fn args h) : RoundsOK P E L' := by
  intro f r vals xs h vs h' e ps x y ⟨fn, c, hfn, hc, hfr, hvn⟩
  obtain ⟨c', hc', hok, hn, hann⟩ := hA.fns f fn hfn
  rw [hc] at hc'; cases hc'
  rw [hL' f fn _ _ _ hfn] at e
  have hle : rngKey ≤ rngKey + r := by omega
  have hsub : rngKey + r - rngKey = r := by omega
  simp only [lpN, hc, hann, hle, if_true, hsub, hfr, Option.bind_some] at e
  unfold rdK at e
  cases hcnd : (noRange x && noRange y && Nat.beq (vals ++ xs).length (fn.ntmps + ps.size)) with
  | false => rw [hcnd] at e; cases e
  | true =>
    rw [hcnd] at e
    simp only [cond_true] at e
    simp only [Bool.and_eq_true] at hcnd
    obtain ⟨⟨hnx, hny⟩, hlen⟩ := hcnd
    have hlen := Nat.eq_of_beq_eq_true hlen
    rw [List.length_append] at hlen
    have hxl : xs.length = ps.size := by omega
    refine ⟨hxl, fun ro l f' rc β S w xs' htm hsz hvx rh hSl hrc hst Rr hRr => ?_⟩
    have hmap : ∀ (a : List Value) (n k : Nat), k + n ≤ a.length → (List.range n).map (fun j => lget a (k + j)) = (a.drop k).take n := by
      intro a n k hk
      apply List.ext_getElem
      · simp; omega
      · intro i h1 h2
        simp only [List.getElem_map, List.getElem_range, List.getElem_take, List.getElem_drop]
        rw [lget_getElem, List.getElem?_eq_getElem (by simp at h1; omega)]
        rfl
    have hvals : (List.range fn.ntmps).map (lget (vals ++ xs)) = vals := by
      have := hmap (vals ++ xs) fn.ntmps 0 (by rw [List.length_append]; omega)
      simp only [Nat.zero_add, List.drop_zero] at this
      rw [this, ← hvn, List.take_left]
    have hxs : (List.range ps.size).map (fun j => lget (vals ++ xs) (fn.ntmps + j)) = xs := by
      rw [hmap (vals ++ xs) ps.size fn.ntmps (by rw [List.length_append]; omega), ← hvn, List.drop_left, ← hxl, List.take_length]
    rw [hvals, hxs] at e
    obtain ⟨sx, sy⟩ := ranges_sub c r ps x y hfr
    have hD := hA.draw C L hC hRd
    have hLf := hL f fn c hfn hc
    obtain ⟨p1, p2, p3⟩ := setP_rel ps.toList xs xs' vals rc.tmps hvx hsz (fun i => htm i)
    obtain ⟨ex, tm1, h1, hK, hn1, hwx⟩ := codeK_sound hE hC hD hLf x _ h _ _ sx.1 sx.2.1 sx.2.2 (by rw [p2]; exact hvn) e
    cases ex with
    | exit i => cases hK
    | goto i => cases hK
    | ret => cases hK
    | normal =>
      simp only at hK
      obtain ⟨ex2, tm2, h2, hK2, hn2, hwy⟩ := codeK_sound hE hC hD hLf y _ h1 _ _ sy.1 sy.2.1 sy.2.2 (by
        have : (maskAt (annOf E f) y tm1).length = tm1.length := by
          unfold maskAt
          split
          · exact length_keep _ _ _
          · rfl
        rw [this]; exact hn1) hK
      cases ex2 with
      | exit i => cases hK2
      | goto i => cases hK2
      | ret => cases hK2
      | normal =>
        simp only [Option.some.injEq, Prod.mk.injEq] at hK2
        obtain ⟨_, _, rfl⟩ := hK2
        refine roundIn_of_wpIn trivial ?_
        have hfold : (ps.zip ⟨xs'⟩).foldl (fun tmps (t, a) => tmps.setIfInBounds t a) rc.tmps = (ps.toList.zip xs').foldl (fun tmps p => tmps.setIfInBounds p.1 p.2) rc.tmps := by
          rw [← Array.foldl_toList]
          simp
        rw [hfold]
        refine hwx (some l) (.inr hnx) β S w _ p1 (by unfold TmS; rw [p2]; show vals.length ≤ Array.size _; rw [p3]; exact hsz) rh _ fun β1 S1 a1 w1 x1 => ?_
        have hSl1 : ¬ S1 l := fun h => hSl (x1.a0.sub.mem l h)
        have hrc1 : w1.heap[l]? = some (.loop rc) := by rw [x1.a0.fr.keep l hSl]; exact hrc
        refine ⟨_, run_beginRound hrc1 hst, ?_⟩
        have rh1 : RH E β1 h1 S1 (w1.putObj l (.loop { rc with state := .busy })) := x1.a0.rh.putAway (fun j => by simp [World.cell?, hrc1]) hSl1
        refine hwy (some l) (.inr hny) β1 S1 _ a1 (x1.tmr.mask _ _) (x1.tms.mask _ _) rh1 _ fun β2 S2 a2 w2 x2 => ?_
        have hl1 : l < w1.heap.size := (Array.getElem?_eq_some_iff.1 hrc1).1
        have hrc2 : w2.heap[l]? = some (.loop { rc with state := .busy }) := by
          rw [x2.a0.fr.keep l hSl1]
          exact World.putObj_heap_same hl1
        have hend := run_endRound (P := P) none hrc2
        refine ⟨_, _, hend, ?_⟩
        have hS2 : ¬ S2 l := fun h => hSl1 (x2.a0.sub.mem l h)
        have rh2 := x2.a0.rh.putAway (o := .loop { rc with state := .ready, pending := none }) (fun j => by simp [World.cell?, hrc2]) hS2
        refine hRr β2 _ (Beta.le_trans x1.a0.le x2.a0.le) (rh2.sub (fun b hb => x1.a0.sub.mem b (x2.a0.sub.mem b hb)) (fun b hb => by rw [x2.a0.sub.held, x1.a0.sub.held]; exact hb) (fun b hb => by rw [x2.a0.sub.hol, x1.a0.sub.hol]; exact hb)) ?_ ?_
        · have f1 := x1.a0.fr
          have f2 := x2.a0.fr
          refine ⟨f2.os.trans f1.os, f2.tape.trans f1.tape, f2.output.trans f1.output, ?_, fun k hk => ?_⟩
          · have h3 := f1.size
            have h4 := f2.size
            simp only [World.putObj_size] at h4 ⊢
            omega
          · have hkl : k ≠ l := fun e => hk (.inr e)
            have hkS : ¬ S k := fun e => hk (.inl e)
            rw [World.putObj_heap_other hkl, f2.keep k fun e => hkS (x1.a0.sub.mem k e), World.putObj_heap_other hkl, f1.keep k hkS]
        · exact World.putObj_heap_same (Array.getElem?_eq_some_iff.1 hrc2).1

theorem evalN_sound (hE : EnvOK P E) (hA : AllOK P E) : ∀ N, CallsOK P E (evalN E N).1 ∧ RoundsOK P E (evalN E N).2 ∧ ∀ f fn c, E.fns.get f = some fn → fn.body = some c → LoopsOK E P (annOf E f) (evalN E N).2 f c fn.ntmps := by
  intro N
  induction N with
  | zero =>
    have hr : RoundsOK P E (evalN E 0).2 := fun f r vals xs h vs h' e => by simp [evalN] at e
    refine ⟨fun f args h v h' e => by simp [evalN] at e, hr, fun f fn c hf hb => ?_⟩
    obtain ⟨c', hb', hok, _⟩ := hA.fns f fn hf
    rw [hb] at hb'; cases hb'
    refine ⟨?_, ?_, fun r ps x y hm => ⟨fn, c, hf, hb, hok.ranges r ps x y hm, rfl⟩, hr⟩
    · intro r b la vals h k vs h' _ _ e; simp [evalN] at e
    · intro l b rest la vals h k vs h' _ _ _ e; simp [evalN] at e
  | succ N ih =>
    obtain ⟨ihC, ihR, ihL⟩ := ih
    have hr : RoundsOK P E (evalN E (N + 1)).2 := rdK_sound hE ihC ihL hA ihR fun f fn r args h hfn => by simp only [evalN, hfn]
    refine ⟨fun f args h v h' e => ?_, hr, fun f fn c hfn hb => ?_⟩
    · simp only [evalN] at e
      split at e
      · rename_i g hg
        have := hA.sums f g hg f args h v h' (by simpa using e)
        exact this
      · split at e
        · rename_i fn hfn
          obtain ⟨hf1, hf2, hf3⟩ := hE.fns f fn hfn
          obtain ⟨c, hb, _, hn, _⟩ := hA.fns f fn hfn
          exact ⟨⟨fn, hf1, hf2, hf3⟩, fun β S w args' hv r => fnK_sound hE ihC (hA.draw _ _ ihC ihR) hf1 hb hn (ihL f fn c hfn hb) e hv r⟩
        · cases e
    · obtain ⟨c', hb', hok, _⟩ := hA.fns f fn hfn
      rw [hb] at hb'
      cases hb'
      refine loops_step hE ihC (hA.draw _ _ ihC ihR) hb hok (ihL f fn c hfn hb) (fun r args h => ?_) hfn hr
      simp only [evalN, hfn]

end Go.Arm
namespace Go.Arm
variable {E : Env} {R R' : Type}

def Evt (E : Env) (p : CF → LF → Prop) : Prop := ∃ N, ∀ n, N ≤ n → p (evalN E n).1 (evalN E n).2
theorem Evt.of {p : CF → LF → Prop} (h : ∀ C L, p C L) : Evt E p := ⟨0, fun _ _ => h _ _⟩
theorem Evt.and {p q : CF → LF → Prop} (h : Evt E p) (k : Evt E q) : Evt E (fun C L => p C L ∧ q C L) := by
  obtain ⟨N, h⟩ := h
  obtain ⟨M, k⟩ := k
  exact ⟨max N M, fun n hn => ⟨h n (by omega), k n (by omega)⟩⟩
theorem Evt.mono {p q : CF → LF → Prop} (h : Evt E p) (k : ∀ C L, p C L → q C L) : Evt E q := by
  obtain ⟨N, h⟩ := h
  exact ⟨N, fun n hn => k _ _ (h n hn)⟩

/-- an expression over calls and loops answers, and of the answer something is true -/
def W (E : Env) (e : CF → LF → Option R) (Q : R → Prop) : Prop := ∃ r, Evt E (fun C L => e C L = some r) ∧ Q r
theorem W.ret {r : R} {Q : R → Prop} (h : Q r) : W E (fun _ _ => some r) Q := ⟨r, .of fun _ _ => rfl, h⟩
theorem W.mono {e : CF → LF → Option R} {Q Q' : R → Prop} (h : W E e Q) (k : ∀ r, Q r → Q' r) : W E e Q' := by
  obtain ⟨r, h1, h2⟩ := h
  exact ⟨r, h1, k r h2⟩
theorem W.bind {e : CF → LF → Option R} {k : CF → LF → R → Option R'} {Q : R' → Prop} (h : W E e fun a => W E (fun C L => k C L a) Q) : W E (fun C L => (e C L).bind (k C L)) Q := by
  obtain ⟨a, h1, b, h2, h3⟩ := h
  exact ⟨b, (h1.and h2).mono fun C L ⟨e1, e2⟩ => by show (e C L).bind (k C L) = some b; rw [e1, Option.bind_some]; exact e2, h3⟩
/-- first what is called, then what follows -/
theorem W.seq {e : CF → LF → Option R} {k : CF → LF → R → Option R'} {Q1 : R → Prop} {Q : R' → Prop} (h : W E e Q1) (h2 : ∀ a, Q1 a → W E (fun C L => k C L a) Q) : W E (fun C L => (e C L).bind (k C L)) Q :=
  .bind (h.mono h2)
theorem W.map {e : CF → LF → Option R} {g : R → R'} {Q : R' → Prop} (h : W E e fun a => Q (g a)) : W E (fun C L => (e C L).map g) Q := by
  obtain ⟨a, h1, h2⟩ := h
  exact ⟨g a, h1.mono fun C L e1 => by show (e C L).map g = some (g a); rw [e1]; rfl, h2⟩
theorem W.congr {e e' : CF → LF → Option R} {Q : R → Prop} (h : ∀ C L, e' C L = e C L) (k : W E e Q) : W E e' Q := by
  obtain ⟨a, h1, h2⟩ := k
  exact ⟨a, h1.mono fun C L e1 => (h C L).trans e1, h2⟩
theorem W.ite {b : Bool} {e e' : CF → LF → Option R} {Q : R → Prop} (h1 : b = true → W E e Q) (h2 : b = false → W E e' Q) : W E (fun C L => cond b (e C L) (e' C L)) Q := by
  cases b
  · exact h2 rfl
  · exact h1 rfl

/-- a call -/
def Ret (E : Env) (f : Nat) (args : List Value) (h : H) (Q : Value → H → Prop) : Prop := W E (fun C _ => C f args h) fun p => Q p.1 p.2
/-- a loop -/
def RetL (E : Env) (f r : Nat) (args : List Value) (h : H) (Q : Nat → List Value → H → Prop) : Prop := W E (fun _ L => L f r args h) fun p => Q p.1 p.2.1 p.2.2

theorem Ret.of_fn {f : Nat} {fn : Func} {args : List Value} {h : H} {Q : Value → H → Prop} {e : CF → LF → Option (Value × H)} (hs : E.sums.get f = none) (hf : E.fns.get f = some fn) (he : ∀ C L, fnK E C L f fn args h = e C L) (hw : W E e fun p => Q p.1 p.2) : Ret E f args h Q := by
  obtain ⟨r, ⟨N, h1⟩, h2⟩ := hw
  refine ⟨r, ⟨N + 1, fun n hn => ?_⟩, h2⟩
  obtain ⟨m, rfl⟩ : ∃ m, n = m + 1 := ⟨n - 1, by omega⟩
  simp only [evalN, hs, hf, he]
  exact h1 m (by omega)
theorem Ret.of_sum {f : Nat} {g : List Value → H → Option (Value × H)} {args : List Value} {h : H} {Q : Value → H → Prop} {v : Value} {h' : H} (hs : E.sums.get f = some g) (he : g args h = some (v, h')) (hq : Q v h') : Ret E f args h Q := by
  refine ⟨(v, h'), ⟨1, fun n hn => ?_⟩, hq⟩
  obtain ⟨m, rfl⟩ : ∃ m, n = m + 1 := ⟨n - 1, by omega⟩
  simp only [evalN, hs, he]
theorem RetL.of_lp {f r : Nat} {fn : Func} {args : List Value} {h : H} {Q : Nat → List Value → H → Prop} {e : CF → LF → Option (Nat × List Value × H)} (hf : E.fns.get f = some fn) (he : ∀ C L, lpN E C L f r fn args h = e C L) (hw : W E e fun p => Q p.1 p.2.1 p.2.2) : RetL E f r args h Q := by
  obtain ⟨q, ⟨N, h1⟩, h2⟩ := hw
  refine ⟨q, ⟨N + 1, fun n hn => ?_⟩, h2⟩
  obtain ⟨m, rfl⟩ : ∃ m, n = m + 1 := ⟨n - 1, by omega⟩
  simp only [evalN, hf, he]
  exact h1 m (by omega)
theorem Ret.mono {f : Nat} {args : List Value} {h : H} {Q Q' : Value → H → Prop} (x : Ret E f args h Q) (k : ∀ v h', Q v h' → Q' v h') : Ret E f args h Q' := W.mono x fun p => k p.1 p.2

/-! ## heaps -/
/-- blocks that were there are as they were, but for some -/
def Kp (X : Nat → Prop) (h h' : H) : Prop := h.next ≤ h'.next ∧ ∀ b, b < h.next → ¬ X b → h'.get b = h.get b
theorem Kp.refl (X : Nat → Prop) (h : H) : Kp X h h := ⟨Nat.le_refl _, fun _ _ _ => rfl⟩
theorem Kp.trans {X : Nat → Prop} {h h1 h2 : H} (a : Kp X h h1) (b : Kp (fun k => X k ∨ h.next ≤ k) h1 h2) : Kp X h h2 :=
  ⟨Nat.le_trans a.1 b.1, fun k hk hx => by rw [b.2 k (Nat.lt_of_lt_of_le hk a.1) (fun h => h.elim hx (by omega)), a.2 k hk hx]⟩
theorem Kp.weaken {X Y : Nat → Prop} {h h' : H} (a : Kp X h h') (hxy : ∀ k, X k → Y k) : Kp Y h h' := ⟨a.1, fun k hk hy => a.2 k hk fun hx => hy (hxy k hx)⟩
theorem Kp.get {X : Nat → Prop} {h h' : H} (a : Kp X h h') {b : Nat} {x : Blk} (hb : h.get b = some x) (hx : ¬ X b) : h'.get b = some x := by
  rw [a.2 b (H.get_lt hb) hx, hb]
theorem Kp.new {X : Nat → Prop} (h : H) (x : Blk) : Kp X h (h.new x) :=
  ⟨by rw [H.next_new]; omega, fun b hb _ => by rw [get_new, if_neg (by omega)]⟩
theorem Kp.put {X : Nat → Prop} (h : H) {b : Nat} (x : Option Blk) (hb : X b) : Kp X h (h.put b x) :=
  ⟨by rw [H.next_put]; omega, fun c _ hx => H.get_put_ne _ _ _ _ (fun e => hx (by rw [e]; exact hb))⟩

end Go.Arm
namespace Go.Arm
/-- utf8.first, utf8.acceptRanges -/
def firstC : List Value := (List.range 256).map fun c => .int .u8 (Lib.firstT c)
def accC : List Value := (List.range 16).flatMap fun i => [.int .u8 (Lib.accLo i), .int .u8 (Lib.accHi i)]
def tabOK (h : H) : Bool :=
  match h.get 0 with
  | some (.cells a _ false false) => veqL firstC a && (match h.get 1 with
    | some (.cells b _ false false) => veqL accC b
    | _ => false)
  | _ => false
def g47 (args : List Value) (h : H) : Option (Value × H) :=
  match args with
  | [.string s] => cond (Nat.ble s.size roomy && tabOK h) (some (.bool (Lib.validD s.data.toList), h)) none
  | _ => none
/-- the heap at the start -/
def H0 : H := ⟨.node (.node .leaf (some (.cells accC 0 false false)) .leaf) (some (.cells firstC 0 false false)) .leaf, 2⟩
end Go.Arm
namespace Go.Arm
open Go.Proofs
noncomputable def tysE : Tr TI := (.node (.node (.node (.node (.node (.node (.node (.node .leaf (some ⟨5, 80, [(.string (bs [])), (.string (bs [])), (.string (bs [])), (.string (bs [])), (.string (bs []))], (.array 5 9), true, true⟩) .leaf) none (.node .leaf (some ⟨4, 40, [(.int .u64 (0)), (.string (bs [])), (.int .i64 (0)), (.int .i64 (0))], (.struct [(0, 44), (1, 9), (2, 189)]), true, true⟩) .leaf)) none .leaf) none (.node (.node .leaf (some ⟨3, 32, [(.string (bs [])), (.int .i64 (0)), (.int .i64 (0))], (.struct [(0, 9), (1, 3), (2, 27)]), true, true⟩) .leaf) (some ⟨6, 56, [(.bool false), (.bool false), (.int .i64 (0)), (.int .u64 (0)), (.string (bs [])), (.complex .f64 0 0)], (.struct [(0, 4), (1, 4), (2, 2), (3, 44), (4, 9), (5, 45)]), true, false⟩) (.node (.node .leaf (some ⟨1, 0, [(.tuple #[(.pointer none), (.slice none 0 0)])], (.tuple [174, 117]), false, false⟩) .leaf) (some ⟨21, 168, [.nilFunc, .nilFunc, .nilFunc, .nilFunc, .nilFunc, .nilFunc, .nilFunc, .nilFunc, .nilFunc, .nilFunc, .nilFunc, .nilFunc, .nilFunc, .nilFunc, .nilFunc, .nilFunc, .nilFunc, .nilFunc, .nilFunc, .nilFunc, .nilFunc], (.array 7 110), false, false⟩) .leaf))) none (.node (.node (.node .leaf (some ⟨1, 24, [(.slice none 0 0)], (.slice 104), false, false⟩) .leaf) (some ⟨1, 24, [(.slice none 0 0)], (.slice 2), false, false⟩) (.node (.node .leaf (some ⟨1, 24, [(.slice none 0 0)], (.slice 166), false, false⟩) .leaf) none .leaf)) (some ⟨1, 24, [(.slice none 0 0)], (.slice 55), false, false⟩) (.node (.node .leaf (some ⟨1, 0, [(.tuple #[(.slice none 0 0), (.int .i64 (0))])], (.tuple [41, 27]), false, false⟩) .leaf) (some ⟨3, 32, [(.string (bs [])), (.int .i64 (0)), (.bool false)], (.struct [(0, 9), (1, 3), (2, 4)]), true, true⟩) .leaf))) (some ⟨1, 8, [(.int .i64 (0))], (.int .i64), true, true⟩) (.node (.node (.node .leaf (some ⟨1, 24, [(.slice none 0 0)], (.slice 41), false, false⟩) (.node (.node .leaf (some ⟨1, 8, [.nilFunc], .func, false, false⟩) .leaf) none .leaf)) none (.node (.node (.node .leaf (some ⟨2, 16, [.nilFunc, .nilFunc], (.struct [(0, 144), (1, 145)]), false, false⟩) .leaf) none .leaf) none (.node (.node .leaf (some ⟨3, 40, [(.int .i64 (0)), (.slice none 0 0), (.map none)], (.struct [(0, 3), (1, 41), (2, 177)]), false, false⟩) .leaf) none .leaf))) none (.node (.node .leaf (some ⟨3, 56, [(.bool false), (.slice none 0 0), (.slice none 0 0)], (.struct [(0, 4), (1, 40), (2, 41)]), false, false⟩) (.node .leaf (some ⟨1, 8, [.nilFunc], .func, false, false⟩) .leaf)) (some ⟨1, 8, [(.int .i64 (0))], (.int .i64), true, true⟩) (.node .leaf (some ⟨1, 24, [(.slice none 0 0)], (.slice 5), false, false⟩) (.node (.node .leaf (some ⟨1, 0, [(.tuple #[(.int .i64 (0)), (.bool false)])], (.tuple [3, 4]), false, false⟩) .leaf) (some ⟨1, 8, [(.map none)], (.map 9 3), false, false⟩) .leaf))))) none (.node (.node (.node (.node (.node (.node .leaf (some ⟨1, 0, [(.tuple #[(.agg #[(.string (bs [])), (.string (bs [])), (.string (bs [])), (.string (bs [])), (.string (bs []))]), (.agg #[(.bool false), (.bool false), (.bool false), (.bool false), (.bool false)])])], (.tuple [127, 128]), false, false⟩) .leaf) none .leaf) none .leaf) none (.node (.node (.node .leaf (some ⟨1, 8, [.nilFunc], .func, false, false⟩) .leaf) (some ⟨1, 0, [(.tuple #[(.slice none 0 0), (.int .i64 (0))])], (.tuple [23, 27]), false, false⟩) .leaf) (some ⟨7, 64, [(.int .i64 (0)), (.bool false), (.bool false), (.int .i64 (0)), (.int .u64 (0)), (.string (bs [])), (.complex .f64 0 0)], (.struct [(0, 3), (1, 47)]), true, false⟩) (.node (.node .leaf (some ⟨1, 8, [(.map none)], (.map 191 3), false, false⟩) .leaf) none .leaf))) (some ⟨1, 16, [(.string (bs []))], .string, true, true⟩) (.node (.node (.node (.node .leaf (some ⟨1, 8, [(.float .f64 0)], .float, true, false⟩) .leaf) (some ⟨1, 24, [(.slice none 0 0)], (.slice 37), false, false⟩) .leaf) (some ⟨1, 24, [(.slice none 0 0)], (.slice 47), false, false⟩) .leaf) none (.node (.node (.node .leaf (some ⟨1, 0, [(.tuple #[(.int .i64 (0)), (.bool false)])], (.tuple [2, 4]), false, false⟩) .leaf) none .leaf) none (.node .leaf (some ⟨1, 0, [(.tuple #[(.agg #[(.bool false), (.bool false), (.int .i64 (0)), (.int .u64 (0)), (.string (bs [])), (.complex .f64 0 0)]), (.int .i64 (0))])], (.tuple [47, 27]), false, false⟩) .leaf)))) (some ⟨1, 1, [(.int .u8 (0))], (.int .u8), true, true⟩) (.node (.node (.node .leaf (some ⟨2, 48, [(.slice none 0 0), (.slice none 0 0)], (.struct [(0, 23), (1, 35)]), false, false⟩) .leaf) none (.node (.node .leaf (some ⟨1, 0, [(.tuple #[(.slice none 0 0), (.int .i64 (0))])], (.tuple [40, 27]), false, false⟩) .leaf) none (.node .leaf (some ⟨1, 24, [(.slice none 0 0)], (.slice 3), false, false⟩) .leaf))) none (.node (.node .leaf (some ⟨1, 16, [(.complex .f64 0 0)], .complex, true, false⟩) .leaf) none (.node (.node .leaf (some ⟨1, 8, [(.int .u64 (0))], (.int .u64), true, true⟩) .leaf) (some ⟨1, 24, [(.slice none 0 0)], (.struct [(0, 59)]), false, false⟩) (.node (.node .leaf (some ⟨2, 16, [(.int .i64 (0)), (.int .i64 (0))], (.array 2 2), true, true⟩) .leaf) none .leaf)))))) (some ⟨1, 0, [(.tuple #[])], (.tuple []), false, false⟩) (.node (.node (.node (.node (.node (.node (.node .leaf (some ⟨5, 5, [(.bool false), (.bool false), (.bool false), (.bool false), (.bool false)], (.array 5 4), true, true⟩) .leaf) none .leaf) none (.node (.node .leaf (some ⟨1, 8, [.nilFunc], .func, false, false⟩) .leaf) none .leaf)) none (.node (.node (.node .leaf (some ⟨1, 8, [.nilFunc], .func, false, false⟩) .leaf) none .leaf) none .leaf)) none (.node (.node .leaf (some ⟨1, 24, [(.slice none 0 0)], (.slice 49), false, false⟩) (.node (.node .leaf (some ⟨1, 0, [(.tuple #[(.agg #[(.bool false), (.bool false), (.int .i64 (0)), (.int .u64 (0)), (.string (bs [])), (.complex .f64 0 0), (.int .i64 (0))]), (.int .i64 (0))])], (.tuple [166, 27]), false, false⟩) .leaf) (some ⟨7, 64, [(.int .i64 (0)), (.bool false), (.bool false), (.int .i64 (0)), (.int .u64 (0)), (.string (bs [])), (.complex .f64 0 0)], (.struct [(0, 3), (1, 47)]), true, false⟩) .leaf)) (some ⟨1, 24, [(.slice none 0 0)], (.slice 43), false, false⟩) (.node .leaf (some ⟨1, 0, [(.tuple #[(.agg #[(.bool false), (.slice none 0 0), (.slice none 0 0)]), (.int .i64 (0))])], (.tuple [43, 27]), false, false⟩) (.node (.node .leaf (some ⟨1, 8, [.nilFunc], .func, false, false⟩) .leaf) none .leaf)))) (some ⟨1, 1, [(.bool false)], .bool, true, true⟩) (.node (.node (.node .leaf none (.node .leaf (some ⟨1, 0, [(.tuple #[(.int .i64 (0)), (.string (bs []))])], (.tuple [3, 9]), false, false⟩) .leaf)) none (.node (.node (.node .leaf (some ⟨10, 80, [.nilFunc, .nilFunc, .nilFunc, .nilFunc, .nilFunc, .nilFunc, .nilFunc, .nilFunc, .nilFunc, .nilFunc], (.array 5 147), false, false⟩) .leaf) none .leaf) (some ⟨1, 0, [(.tuple #[(.slice none 0 0), (.int .i64 (0)), (.int .i64 (0))])], (.tuple [23, 3, 27]), false, false⟩) (.node (.node .leaf (some ⟨1, 0, [(.tuple #[(.pointer none), (.int .i64 (0))])], (.tuple [174, 27]), false, false⟩) .leaf) (some ⟨3, 56, [(.int .i64 (0)), (.slice none 0 0), (.slice none 0 0)], (.struct [(0, 3), (1, 41), (2, 41)]), false, false⟩) .leaf))) none (.node (.node (.node (.node .leaf (some ⟨1, 0, [(.tuple #[(.agg #[(.bool false), (.bool false), (.int .i64 (0)), (.int .u64 (0)), (.string (bs [])), (.complex .f64 0 0)]), (.bool false)])], (.tuple [47, 4]), false, false⟩) .leaf) none .leaf) (some ⟨1, 8, [(.int .u64 (0))], (.int .u64), true, true⟩) (.node .leaf (some ⟨1, 8, [.nilFunc], .func, false, false⟩) .leaf)) (some ⟨1, 0, [(.tuple #[(.agg #[(.slice none 0 0), (.int .i64 (0)), (.slice none 0 0), (.int .i64 (0)), (.slice none 0 0)]), (.int .i64 (0))])], (.tuple [26, 27]), false, false⟩) .leaf))) (some ⟨1, 8, [(.int .i64 (0))], (.int .i64), true, true⟩) (.node (.node (.node (.node (.node .leaf (some ⟨1, 8, [(.pointer none)], .ptr, false, false⟩) .leaf) none (.node (.node .leaf (some ⟨1, 8, [.nilFunc], .func, false, false⟩) .leaf) (some ⟨1, 24, [(.slice none 0 0)], (.slice 4), false, false⟩) .leaf)) none (.node .leaf (some ⟨1, 8, [(.pointer none)], .ptr, false, false⟩) .leaf)) none (.node (.node .leaf none (.node .leaf (some ⟨1, 8, [.nilFunc], .func, false, false⟩) .leaf)) (some ⟨5, 88, [(.slice none 0 0), (.int .i64 (0)), (.slice none 0 0), (.int .i64 (0)), (.slice none 0 0)], (.struct [(0, 23), (1, 3), (2, 23), (3, 3), (4, 24)]), false, false⟩) (.node (.node .leaf (some ⟨1, 8, [.nilFunc], .func, false, false⟩) .leaf) none .leaf))) none (.node (.node (.node .leaf none (.node (.node .leaf (some ⟨7, 64, [(.bool false), (.bool false), (.int .i64 (0)), (.int .u64 (0)), (.string (bs [])), (.complex .f64 0 0), (.int .i64 (0))], (.struct [(0, 47), (6, 3)]), true, false⟩) .leaf) none .leaf)) none (.node .leaf none (.node (.node .leaf (some ⟨1, 0, [(.tuple #[(.slice none 0 0), (.int .i64 (0)), (.int .i64 (0))])], (.tuple [41, 3, 27]), false, false⟩) .leaf) none .leaf))) none (.node (.node (.node (.node .leaf (some ⟨1, 0, [(.tuple #[(.slice none 0 0), (.int .i64 (0))])], (.tuple [98, 27]), false, false⟩) .leaf) none .leaf) none (.node (.node .leaf (some ⟨1, 8, [(.pointer none)], .ptr, false, false⟩) .leaf) (some ⟨3, 24, [.nilFunc, .nilFunc, .nilFunc], (.struct [(0, 106), (1, 107), (2, 108)]), false, false⟩) .leaf)) (some ⟨1, 0, [(.tuple #[(.string (bs [])), (.int .i64 (0))])], (.tuple [9, 27]), false, false⟩) .leaf)))))
noncomputable def annsE : Tr Ann := (.node (.node (.node (.node (.node (.node .leaf (some ⟨.leaf, (.node (.node .leaf none (.node (.node (.node (.node (.node .leaf none (.node (.node (.node .leaf none (.node (.node (.node (.node (.node .leaf none (.node (.node .leaf none (.node .leaf none (.node .leaf none (.node .leaf (some ⟨[(0, 52), (4, 5)], [(.ret, [(2, 46)])]⟩) .leaf)))) none .leaf)) none .leaf) none .leaf) none .leaf) none .leaf)) none .leaf) none .leaf)) none .leaf) none .leaf) none .leaf) none .leaf)) none (.node (.node (.node (.node (.node (.node .leaf none (.node (.node (.node .leaf none (.node (.node (.node (.node (.node .leaf none (.node (.node .leaf none (.node .leaf none (.node .leaf none (.node .leaf (some ⟨[(0, 52), (3, 46), (4, 5), (5, 5)], [(.ret, [(2, 46)])]⟩) .leaf)))) none .leaf)) none .leaf) none .leaf) none .leaf) none .leaf)) none .leaf) none .leaf)) none .leaf) none .leaf) none .leaf) none .leaf) none (.node (.node (.node (.node (.node .leaf none (.node (.node (.node .leaf none (.node (.node (.node (.node (.node .leaf none (.node (.node .leaf none (.node .leaf none (.node .leaf none (.node .leaf (some ⟨[(0, 52), (4, 5)], [(.ret, [(2, 46)])]⟩) .leaf)))) none .leaf)) none .leaf) none .leaf) none .leaf) none .leaf)) none .leaf) none .leaf)) none .leaf) none .leaf) none .leaf) none .leaf)))⟩) .leaf) none (.node .leaf none (.node .leaf (some ⟨.leaf, (.node .leaf none (.node .leaf none (.node .leaf (some ⟨[(8, 43), (22, 100), (23, 5), (24, 5)], [(.exit 0, [(8, 43)])]⟩) .leaf)))⟩) .leaf))) (some ⟨.leaf, (.node .leaf none (.node (.node (.node .leaf (some ⟨[(1, 0), (3, 5)], [(.exit 0, []), (.ret, [(2, 29)])]⟩) .leaf) none .leaf) none .leaf))⟩) (.node (.node .leaf none (.node .leaf (some ⟨.leaf, (.node .leaf none (.node .leaf none (.node (.node .leaf (some ⟨[(0, 5), (8, 52), (9, 43), (34, 5), (35, 5)], [(.exit 1, [(8, 52), (9, 43)]), (.ret, [(6, 43), (7, 29)])]⟩) .leaf) none .leaf)))⟩) .leaf)) (some ⟨.leaf, (.node (.node (.node .leaf (some ⟨[(0, 42), (3, 73), (4, 5)], [(.exit 0, [(3, 73)])]⟩) .leaf) none .leaf) none .leaf)⟩) (.node .leaf (some ⟨.leaf, (.node (.node (.node .leaf (some ⟨[(1, 92), (5, 119), (7, 5), (8, 5)], [(.exit 0, [(5, 119)])]⟩) .leaf) none .leaf) none .leaf)⟩) .leaf))) none (.node (.node (.node .leaf (some ⟨.leaf, (.node (.node .leaf none (.node .leaf (some ⟨[(3, 125), (15, 25), (16, 5), (17, 5)], [(.exit 0, []), (.ret, [(2, 29)])]⟩) .leaf)) none .leaf)⟩) .leaf) none .leaf) none (.node (.node .leaf (some ⟨.leaf, (.node (.node (.node .leaf (some ⟨[(3, 61), (10, 100), (11, 5), (12, 5)], [(.exit 0, [(3, 61)])]⟩) .leaf) none .leaf) none .leaf)⟩) (.node .leaf (some ⟨.leaf, (.node (.node .leaf none (.node (.node .leaf (some ⟨[(0, 5), (8, 52), (9, 43), (10, 0), (27, 5), (28, 5)], [(.exit 1, [(8, 52), (9, 43)]), (.ret, [(6, 43), (7, 29)])]⟩) .leaf) none .leaf)) none .leaf)⟩) .leaf)) (some ⟨.leaf, (.node .leaf none (.node (.node (.node .leaf (some ⟨[(2, 43), (6, 0), (10, 0), (46, 119), (47, 5), (48, 5)], [(.exit 0, [(6, 0), (10, 0)])]⟩) .leaf) none .leaf) none .leaf))⟩) (.node .leaf none (.node .leaf (some ⟨.leaf, (.node .leaf none (.node (.node (.node .leaf (some ⟨[(0, 52), (1, 5), (9, 176), (29, 46), (30, 46)], [(.exit 1, [(9, 176)]), (.ret, [(6, 176), (7, 29)])]⟩) .leaf) none .leaf) none .leaf))⟩) .leaf))))) none (.node (.node (.node (.node .leaf (some ⟨.leaf, (.node (.node .leaf none (.node (.node .leaf (some ⟨[(0, 52), (1, 5), (2, 5), (9, 42), (10, 5), (29, 46), (30, 46)], [(.exit 1, [(9, 42)]), (.ret, [(6, 42), (7, 29)])]⟩) .leaf) none .leaf)) none .leaf)⟩) .leaf) (some ⟨.leaf, (.node .leaf (some ⟨[(0, 68), (1, 46)], [(.exit 0, [(0, 68), (1, 46)])]⟩) .leaf)⟩) .leaf) (some ⟨.leaf, (.node (.node (.node .leaf (some ⟨[(0, 41), (2, 0), (3, 0), (4, 5)], [(.exit 0, [(2, 0), (3, 0)])]⟩) .leaf) none .leaf) none .leaf)⟩) (.node (.node .leaf none (.node .leaf (some ⟨.leaf, (.node .leaf none (.node (.node (.node .leaf (some ⟨[(0, 5), (8, 52), (9, 169), (10, 5)], [(.exit 1, [(9, 169), (10, 5)]), (.ret, [(6, 43), (7, 29)])]⟩) .leaf) none .leaf) none .leaf))⟩) .leaf)) none (.node .leaf none (.node .leaf (some ⟨.leaf, (.node .leaf none (.node .leaf none (.node .leaf (some ⟨[(6, 176), (7, 119), (21, 43), (22, 5), (23, 5)], [(.exit 0, [(6, 176), (7, 119)])]⟩) .leaf)))⟩) .leaf)))) (some ⟨.leaf, (.node (.node (.node .leaf none (.node .leaf (some ⟨[(2, 0), (4, 52), (5, 0), (39, 25), (40, 5), (41, 5)], [(.exit 0, [(2, 0), (4, 52), (5, 0)]), (.ret, [(2, 0), (3, 29)])]⟩) .leaf)) none .leaf) none .leaf)⟩) (.node (.node .leaf (some ⟨.leaf, (.node (.node .leaf none (.node .leaf (some ⟨[(0, 25), (3, 5), (4, 5)], [(.exit 2, [(0, 25), (3, 5)]), (.ret, [(2, 6)])]⟩) .leaf)) none (.node .leaf (some ⟨[(0, 25), (3, 5)], [(.exit 0, [(0, 25)]), (.ret, [(2, 6)])]⟩) .leaf))⟩) (.node .leaf (some ⟨.leaf, (.node .leaf none (.node .leaf (some ⟨[(0, 25), (3, 0), (7, 5), (8, 5)], [(.exit 0, []), (.ret, [(4, 5)])]⟩) .leaf))⟩) .leaf)) (some ⟨.leaf, (.node .leaf none (.node (.node (.node .leaf (some ⟨[(1, 0), (44, 5), (45, 5)], [(.exit 1, []), (.ret, [(2, 29)])]⟩) .leaf) none .leaf) none .leaf))⟩) (.node (.node .leaf (some ⟨.leaf, (.node .leaf none (.node (.node .leaf (some ⟨[(6, 0), (7, 0), (8, 5), (16, 5)], [(.exit 0, [(6, 0), (8, 5)])]⟩) .leaf) none .leaf))⟩) .leaf) none (.node (.node .leaf (some ⟨.leaf, (.node .leaf none (.node (.node (.node .leaf (some ⟨[(1, 43), (7, 43), (28, 100), (29, 5), (30, 5)], [(.exit 1, [(7, 43)])]⟩) .leaf) none .leaf) none .leaf))⟩) .leaf) none (.node .leaf (some ⟨.leaf, (.node (.node (.node .leaf (some ⟨[(0, 186), (1, 1), (2, 1), (4, 5), (5, 5)], [(.exit 2, [(0, 186), (1, 1), (2, 1), (4, 5), (5, 5)])]⟩) .leaf) (some ⟨[(0, 186), (1, 1), (2, 1), (4, 5)], [(.exit 0, []), (.ret, [])]⟩) .leaf) none .leaf)⟩) .leaf)))))) none (.node (.node (.node (.node .leaf (some ⟨.leaf, (.node .leaf none (.node .leaf none (.node .leaf (some ⟨[(3, 0), (14, 25), (15, 5), (16, 5)], [(.exit 0, [(3, 0)])]⟩) .leaf)))⟩) (.node .leaf (some ⟨.leaf, (.node .leaf none (.node .leaf (some ⟨[(0, 25), (3, 0), (5, 5)], [(.exit 0, []), (.ret, [(4, 5)])]⟩) .leaf))⟩) .leaf)) (some ⟨.leaf, (.node .leaf none (.node .leaf (some ⟨[(2, 0), (3, 0), (4, 0), (14, 75), (15, 5), (16, 5)], [(.exit 0, [(2, 0), (3, 0), (4, 0)]), (.ret, [(4, 0), (5, 29)])]⟩) (.node (.node .leaf (some ⟨[(2, 0), (3, 0), (4, 0), (9, 0), (39, 25), (40, 5), (41, 5)], [(.exit 2, [(4, 0), (9, 0)])]⟩) .leaf) none .leaf)))⟩) (.node .leaf (some ⟨.leaf, (.node (.node (.node .leaf none (.node .leaf (some ⟨[(1, 0), (3, 5), (4, 6), (5, 0), (6, 5), (8, 5), (28, 37), (29, 5), (30, 5), (39, 43), (40, 5), (41, 5)], [(.exit 2, [(1, 0), (3, 5), (4, 6), (5, 0), (8, 5), (28, 37), (29, 5), (30, 5)]), (.ret, [(2, 29)])]⟩) .leaf)) none (.node .leaf (some ⟨[(1, 0), (3, 5), (4, 6), (5, 0), (28, 37), (29, 5), (30, 5)], [(.exit 0, [(3, 5), (4, 6)]), (.ret, [(2, 29)])]⟩) .leaf)) none .leaf)⟩) .leaf)) none (.node (.node (.node (.node .leaf (some ⟨.leaf, (.node .leaf none (.node .leaf none (.node .leaf (some ⟨[(0, 5), (1, 43), (4, 0), (5, 0), (6, 0), (7, 0), (20, 150), (21, 5)], [(.exit 0, [(4, 0), (5, 0), (6, 0), (7, 0)])]⟩) .leaf)))⟩) .leaf) (some ⟨.leaf, (.node (.node .leaf none (.node (.node .leaf (some ⟨[(2, 0), (5, 0), (9, 5), (64, 42), (65, 5), (66, 5)], [(.exit 0, []), (.ret, [(4, 6)])]⟩) .leaf) none .leaf)) none .leaf)⟩) (.node .leaf (some ⟨.leaf, (.node (.node .leaf none (.node (.node .leaf (some ⟨[(0, 11), (1, 5), (6, 100), (32, 5), (33, 5)], [(.exit 1, [(6, 100)]), (.ret, [(4, 100), (5, 29)])]⟩) .leaf) none .leaf)) none (.node (.node (.node (.node (.node (.node .leaf none (.node (.node (.node .leaf none (.node (.node (.node (.node (.node .leaf none (.node (.node .leaf none (.node .leaf none (.node .leaf none (.node .leaf (some ⟨[(0, 11), (1, 5), (6, 100)], [(.ret, [(4, 100), (5, 29)])]⟩) .leaf)))) none .leaf)) none .leaf) none .leaf) none .leaf) none .leaf)) none .leaf) none .leaf)) none .leaf) none .leaf) none .leaf) none .leaf) none .leaf))⟩) .leaf)) none .leaf) none (.node (.node .leaf (some ⟨.leaf, (.node (.node (.node .leaf (some ⟨[(3, 100), (9, 43), (10, 5), (11, 5)], [(.exit 0, [(3, 100)])]⟩) .leaf) none .leaf) none .leaf)⟩) (.node .leaf (some ⟨.leaf, (.node (.node (.node (.node .leaf (some ⟨[(0, 5), (6, 119), (7, 0), (27, 43), (28, 5), (29, 5)], [(.exit 0, [(6, 119), (7, 0)])]⟩) .leaf) none .leaf) none .leaf) none (.node (.node .leaf none (.node .leaf (some ⟨[(7, 0), (37, 119), (38, 5), (39, 5)], [(.exit 2, [(7, 0)])]⟩) .leaf)) none .leaf))⟩) .leaf)) none (.node (.node .leaf (some ⟨.leaf, (.node (.node (.node .leaf (some ⟨[(3, 5), (6, 100), (7, 5), (8, 5)], [(.exit 0, [(3, 5)])]⟩) .leaf) none .leaf) none .leaf)⟩) .leaf) none (.node .leaf (some ⟨.leaf, (.node .leaf none (.node .leaf (some ⟨[(0, 176), (1, 52), (6, 43), (7, 5), (10, 5), (11, 5)], [(.exit 0, [(1, 52), (6, 43), (7, 5)]), (.ret, [(6, 43), (7, 5), (8, 29)])]⟩) .leaf))⟩) .leaf))))) none (.node (.node (.node .leaf none (.node .leaf none (.node .leaf (some ⟨.leaf, (.node (.node (.node .leaf (some ⟨[(4, 43), (7, 169), (8, 5), (9, 5)], [(.exit 0, [(4, 43)]), (.ret, [(2, 43), (3, 29)])]⟩) .leaf) none .leaf) none (.node (.node (.node .leaf (some ⟨[(4, 43), (6, 0), (7, 169), (8, 5), (9, 5), (25, 5), (26, 5)], [(.exit 2, [(4, 43), (7, 169), (8, 5), (9, 5)])]⟩) .leaf) none .leaf) none .leaf))⟩) .leaf))) none (.node (.node .leaf none (.node .leaf (some ⟨.leaf, (.node .leaf none (.node .leaf none (.node .leaf (some ⟨[(0, 5), (6, 0), (7, 0), (15, 43), (16, 5), (17, 5)], [(.exit 0, [(6, 0)]), (.ret, [(4, 11), (5, 29)])]⟩) .leaf)))⟩) .leaf)) none .leaf)) (some ⟨.leaf, (.node (.node .leaf none (.node (.node (.node .leaf (some ⟨[(1, 0), (5, 0), (7, 0), (8, 0), (9, 5), (36, 26), (37, 5), (38, 5), (56, 42), (57, 5), (58, 5)], [(.exit 2, [(1, 0), (5, 0), (7, 0), (8, 0), (36, 26), (37, 5), (38, 5)])]⟩) .leaf) none .leaf) none .leaf)) none (.node .leaf none (.node (.node .leaf (some ⟨[(1, 0), (5, 0), (36, 26), (37, 5), (38, 5)], [(.exit 0, [(5, 0)]), (.ret, [(2, 11), (3, 29)])]⟩) .leaf) none .leaf)))⟩) (.node (.node (.node .leaf none (.node .leaf (some ⟨.leaf, (.node (.node (.node .leaf none (.node .leaf (some ⟨[(0, 5), (8, 0), (31, 43), (32, 5), (33, 5)], [(.exit 2, [(8, 0)])]⟩) .leaf)) none .leaf) none (.node (.node .leaf (some ⟨[(5, 100), (16, 43), (17, 5), (18, 5)], [(.exit 0, [(5, 100)])]⟩) .leaf) none .leaf))⟩) .leaf)) (some ⟨.leaf, (.node (.node (.node (.node (.node .leaf (some ⟨[(6, 43), (8, 0), (19, 5)], [(.exit 2, []), (.ret, [(14, 6)])]⟩) .leaf) none .leaf) none .leaf) none (.node (.node .leaf (some ⟨[(2, 5), (3, 5), (5, 73), (6, 43), (8, 0), (17, 5), (18, 5)], [(.exit 0, [(6, 43), (8, 0)]), (.ret, [(14, 6)])]⟩) .leaf) none .leaf)) none .leaf)⟩) (.node (.node .leaf (some ⟨.leaf, (.node (.node (.node .leaf (some ⟨[(5, 46), (11, 61), (12, 5), (13, 5)], [(.exit 0, [(5, 46)])]⟩) .leaf) none .leaf) none .leaf)⟩) .leaf) none .leaf)) none (.node (.node .leaf (some ⟨.leaf, (.node (.node (.node .leaf (some ⟨[(3, 43), (6, 43), (7, 5), (8, 5)], [(.exit 0, [(3, 43)])]⟩) .leaf) none .leaf) none .leaf)⟩) .leaf) (some ⟨.leaf, (.node (.node .leaf none (.node .leaf (some ⟨[(4, 52), (5, 46), (6, 25), (7, 46)], [(.exit 0, [(4, 52), (6, 25)])]⟩) .leaf)) none .leaf)⟩) (.node (.node .leaf (some ⟨.leaf, (.node (.node .leaf (some ⟨[(0, 68), (1, 46), (6, 5), (7, 5)], [(.exit 0, [])]⟩) .leaf) none .leaf)⟩) .leaf) none .leaf))))))
noncomputable def fnsE : Tr Func := (.node (.node (.node (.node (.node (.node (.node (.node .leaf (some Tryz.f127) .leaf) (some Tryz.f63) .leaf) (some Tryz.f31) (.node .leaf (some Tryz.f95) .leaf)) (some Tryz.f15) (.node (.node .leaf (some Tryz.f79) .leaf) none (.node .leaf (some Tryz.f111) .leaf))) (some Tryz.f7) (.node (.node (.node .leaf (some Tryz.f71) .leaf) (some Tryz.f39) (.node .leaf (some Tryz.f103) .leaf)) (some Tryz.f23) (.node (.node .leaf (some Tryz.f87) .leaf) (some Tryz.f55) (.node .leaf (some Tryz.f119) .leaf)))) (some Tryz.f3) (.node (.node (.node (.node .leaf (some Tryz.f67) .leaf) (some Tryz.f35) (.node .leaf (some Tryz.f99) .leaf)) (some Tryz.f19) (.node (.node .leaf (some Tryz.f83) .leaf) (some Tryz.f51) (.node .leaf (some Tryz.f115) .leaf))) (some Tryz.f11) (.node (.node (.node .leaf (some Tryz.f75) .leaf) (some Tryz.f43) (.node .leaf (some Tryz.f107) .leaf)) (some Tryz.f27) (.node (.node .leaf (some Tryz.f91) .leaf) (some Tryz.f59) (.node .leaf (some Tryz.f123) .leaf))))) none (.node (.node (.node (.node (.node (.node .leaf (some Tryz.f129) .leaf) (some Tryz.f65) .leaf) (some Tryz.f33) (.node .leaf (some Tryz.f97) .leaf)) (some Tryz.f17) (.node (.node .leaf (some Tryz.f81) .leaf) (some Tryz.f49) (.node .leaf (some Tryz.f113) .leaf))) (some Tryz.f9) (.node (.node (.node .leaf (some Tryz.f73) .leaf) (some Tryz.f41) (.node .leaf (some Tryz.f105) .leaf)) (some Tryz.f25) (.node (.node .leaf (some Tryz.f89) .leaf) (some Tryz.f57) (.node .leaf (some Tryz.f121) .leaf)))) (some Tryz.f5) (.node (.node (.node .leaf (some Tryz.f37) (.node .leaf (some Tryz.f101) .leaf)) (some Tryz.f21) (.node (.node .leaf (some Tryz.f85) .leaf) (some Tryz.f53) (.node .leaf (some Tryz.f117) .leaf))) (some Tryz.f13) (.node (.node (.node .leaf (some Tryz.f77) .leaf) (some Tryz.f45) (.node .leaf (some Tryz.f109) .leaf)) (some Tryz.f29) (.node (.node .leaf (some Tryz.f93) .leaf) (some Tryz.f61) (.node .leaf (some Tryz.f125) .leaf)))))) none (.node (.node (.node (.node (.node (.node (.node .leaf (some Tryz.f128) .leaf) (some Tryz.f64) .leaf) (some Tryz.f32) (.node .leaf (some Tryz.f96) .leaf)) (some Tryz.f16) (.node (.node .leaf (some Tryz.f80) .leaf) (some Tryz.f48) (.node .leaf (some Tryz.f112) .leaf))) (some Tryz.f8) (.node (.node (.node .leaf (some Tryz.f72) .leaf) (some Tryz.f40) (.node .leaf (some Tryz.f104) .leaf)) (some Tryz.f24) (.node (.node .leaf (some Tryz.f88) .leaf) (some Tryz.f56) (.node .leaf (some Tryz.f120) .leaf)))) (some Tryz.f4) (.node (.node (.node (.node .leaf (some Tryz.f68) .leaf) (some Tryz.f36) (.node .leaf (some Tryz.f100) .leaf)) (some Tryz.f20) (.node (.node .leaf (some Tryz.f84) .leaf) (some Tryz.f52) (.node .leaf (some Tryz.f116) .leaf))) (some Tryz.f12) (.node (.node (.node .leaf (some Tryz.f76) .leaf) (some Tryz.f44) (.node .leaf (some Tryz.f108) .leaf)) (some Tryz.f28) (.node (.node .leaf (some Tryz.f92) .leaf) (some Tryz.f60) (.node .leaf (some Tryz.f124) .leaf))))) none (.node (.node (.node (.node (.node (.node .leaf (some Tryz.f130) .leaf) (some Tryz.f66) .leaf) (some Tryz.f34) (.node .leaf (some Tryz.f98) .leaf)) (some Tryz.f18) (.node (.node .leaf (some Tryz.f82) .leaf) (some Tryz.f50) (.node .leaf (some Tryz.f114) .leaf))) (some Tryz.f10) (.node (.node (.node .leaf (some Tryz.f74) .leaf) (some Tryz.f42) (.node .leaf (some Tryz.f106) .leaf)) (some Tryz.f26) (.node (.node .leaf (some Tryz.f90) .leaf) (some Tryz.f58) (.node .leaf (some Tryz.f122) .leaf)))) (some Tryz.f6) (.node (.node (.node (.node .leaf (some Tryz.f70) .leaf) (some Tryz.f38) (.node .leaf (some Tryz.f102) .leaf)) (some Tryz.f22) (.node (.node .leaf (some Tryz.f86) .leaf) (some Tryz.f54) (.node .leaf (some Tryz.f118) .leaf))) (some Tryz.f14) (.node (.node (.node .leaf (some Tryz.f78) .leaf) (some Tryz.f46) (.node .leaf (some Tryz.f110) .leaf)) (some Tryz.f30) (.node (.node .leaf (some Tryz.f94) .leaf) (some Tryz.f62) (.node .leaf (some Tryz.f126) .leaf)))))))
def g4 (args : List Value) (h : H) : Option (Value × H) := match args with
  | [] => cond (tabOK h) (some (.bool true, h)) none
  | _ => none
noncomputable def sums0 : Tr (List Value → H → Option (Value × H)) := Tr.set 48 .leaf 47 (some g47)
noncomputable def sumsE : Tr (List Value → H → Option (Value × H)) := Tr.set 48 sums0 4 (some g4)
noncomputable def E0 : Env := ⟨tysE, fnsE, sums0, annsE, 2⟩
noncomputable def E : Env := ⟨tysE, fnsE, sumsE, annsE, 2⟩
end Go.Arm
namespace Go.Arm
open Go.Proofs
set_option maxRecDepth 100000
/-- 3: armarium/armariumlaw21.DiffReads -/
noncomputable def armariumlaw21_DiffReads (C : CF) (L : LF) (a : List Value) (h : H) : Option (Value × H) :=
 (asS (lget a 0)).bind fun s1 =>
 cond (decide (((s1.size : Nat) : Int) > (600 : Int))) (
 (C 4 [] h).bind fun p2 =>
 (asB p2.1).bind fun b3 =>
 some ((.bool b3), p2.2)) (
 (C 5 [(.string s1)] h).bind fun p4 =>
 (tup2 p4.1).bind fun p5 =>
 (asI .i64 p5.2).bind fun x6 =>
 let h7 := p4.2.new (.cells [(.slice none 0 0), (.int .i64 (0)), (.slice none 0 0), (.int .i64 (0)), (.slice none 0 0)] 26 true false)
 (stV 5 h7 p4.2.next 0 p5.1).bind fun h8 =>
 cond (x6 != (0 : Int)) (
 ((cond (x6 == (10 : Int))
 (some (true, h8))
 (some ((x6 == (12 : Int)), h8))) : Option (Bool × H)).bind fun p9 =>
 ((cond p9.1
 (some (true, p9.2))
 (some ((x6 == (11 : Int)), p9.2))) : Option (Bool × H)).bind fun p10 =>
 ((cond p10.1
 (some (true, p10.2))
 (some ((x6 == (30 : Int)), p10.2))) : Option (Bool × H)).bind fun p11 =>
 ((cond p11.1
 (some (true, p11.2))
 (some ((x6 == (14 : Int)), p11.2))) : Option (Bool × H)).bind fun p12 =>
 ((cond p12.1
 (some (true, p12.2))
 (some ((x6 == (31 : Int)), p12.2))) : Option (Bool × H)).bind fun p13 =>
 ((cond p13.1
 ((ldV p13.2 p4.2.next (0 + 4)).bind fun v14 =>
 (lenV v14).bind fun n15 =>
 some ((((n15 : Nat) : Int) == (0 : Int)), p13.2))
 (some (false, p13.2))) : Option (Bool × H)).bind fun p16 =>
 ((cond p16.1
 ((C 4 [] p16.2).bind fun p17 =>
 (asB p17.1).bind fun b18 =>
 some (b18, p17.2))
 (some (false, p16.2))) : Option (Bool × H)).bind fun p19 =>
 some ((.bool p19.1), p19.2)) (
 (ldA 5 h8 p4.2.next 0).bind fun v20 =>
 (C 6 [v20] h8).bind fun p21 =>
 (tup2 p21.1).bind fun p22 =>
 (asS p22.1).bind fun s23 =>
 (asI .i64 p22.2).bind fun x24 =>
 (ldA 5 p21.2 p4.2.next 0).bind fun v25 =>
 (C 7 [v25] p21.2).bind fun p26 =>
 (asI .i64 p26.1).bind fun x27 =>
 ((cond (x27 == (0 : Int))
 (some ((x24 == (0 : Int)), p26.2))
 (some (false, p26.2))) : Option (Bool × H)).bind fun p28 =>
 ((cond p28.1
 (some ((seq s23 s1), p28.2))
 (some (false, p28.2))) : Option (Bool × H)).bind fun p29 =>
 ((cond p29.1
 ((C 4 [] p29.2).bind fun p30 =>
 (asB p30.1).bind fun b31 =>
 some (b31, p30.2))
 (some (false, p29.2))) : Option (Bool × H)).bind fun p32 =>
 some ((.bool p32.1), p32.2)))

theorem armariumlaw21_DiffReads_eq (C : CF) (L : LF) (a : List Value) (h : H) : fnK E C L 3 Tryz.f3 a h = armariumlaw21_DiffReads C L a h := by kernel_rfl


/-- 35: armarium/schema.Columns -/
noncomputable def schema_Columns (C : CF) (L : LF) (a : List Value) (h : H) : Option (Value × H) :=
 (lenV (lget a 0)).bind fun n1 =>
 ((cond (decide (((n1 : Nat) : Int) < (1 : Int)))
 (some (true, h))
 ((lenV (lget a 0)).bind fun n2 =>
 some ((decide (((n2 : Nat) : Int) > (32 : Int))), h))) : Option (Bool × H)).bind fun p3 =>
 cond p3.1 (
 some ((.int .i64 (30 : Int)), p3.2)) (
 let h4 := p3.2.new (.map [] 0)
 (lenV (lget a 0)).bind fun n5 =>
 (L 35 5 [(.map (some p3.2.next)), (lget a 0), (.int .i64 ((n5 : Nat) : Int)), (.int .i64 (0 : Int))] h4).bind fun p6 =>
 cond (p6.1 == 0) (
 some ((.int .i64 (0 : Int)), p6.2.2)) (
 (asI .i64 (lget p6.2.1 0)).bind fun x7 =>
 some ((.int .i64 x7), p6.2.2)))

theorem schema_Columns_eq (C : CF) (L : LF) (a : List Value) (h : H) : fnK E C L 35 Tryz.f35 a h = schema_Columns C L a h := by kernel_rfl

noncomputable def schema_Columns_L5 (C : CF) (L : LF) (a : List Value) (h : H) : Option (Nat × List Value × H) :=
 (asI .i64 (lget a 2)).bind fun x1 =>
 (asI .i64 (lget a 3)).bind fun x2 =>
 cond (decide (x2 < x1)) (
 (idx 3 (lget a 1) x2).bind fun p3 =>
 (ldA 3 h p3.1 p3.2).bind fun v4 =>
 let h5 := h.new (.cells [(.string (bs [])), (.int .i64 (0)), (.bool false)] 55 true false)
 (stV 3 h5 h.next 0 v4).bind fun h6 =>
 (ldS h6 h.next (0 + 0)).bind fun s7 =>
 (lookM E 9 h6 (lget a 0) (.string s7)).bind fun r8 =>
 (asI .i64 (r8.getD (.int .i64 (0)))).bind fun x9 =>
 (setM E 9 h6 (lget a 0) (.string s7) (.int .i64 (IntKind.wrap .i64 (x9 + (1 : Int))))).bind fun h10 =>
 (ldS h10 h.next (0 + 0)).bind fun s11 =>
 ((cond (seq s11 (bs []))
 (some (true, h10))
 ((ldS h10 h.next (0 + 0)).bind fun s12 =>
 some ((decide (((s12.size : Nat) : Int) > (64 : Int))), h10))) : Option (Bool × H)).bind fun p13 =>
 ((cond p13.1
 (some (true, p13.2))
 ((ldS p13.2 h.next (0 + 0)).bind fun s14 =>
 (C 47 [(.string s14)] p13.2).bind fun p15 =>
 (asB p15.1).bind fun b16 =>
 some ((!b16), p15.2))) : Option (Bool × H)).bind fun p17 =>
 ((cond p17.1
 (some (true, p17.2))
 ((ldI .i64 p17.2 h.next (0 + 1)).bind fun x18 =>
 (C 63 [(.int .i64 x18)] p17.2).bind fun p19 =>
 (asB p19.1).bind fun b20 =>
 some ((!b20), p19.2))) : Option (Bool × H)).bind fun p21 =>
 ((cond p21.1
 (some (true, p21.2))
 ((ldS p21.2 h.next (0 + 0)).bind fun s22 =>
 (lookM E 9 p21.2 (lget a 0) (.string s22)).bind fun r23 =>
 (asI .i64 (r23.getD (.int .i64 (0)))).bind fun x24 =>
 some ((decide (x24 > (1 : Int))), p21.2))) : Option (Bool × H)).bind fun p25 =>
 cond p25.1 (
 some (1, [(.int .i64 (30 : Int))], p25.2)) (
 L 35 5 [(lget a 0), (lget a 1), (.int .i64 x1), (.int .i64 (IntKind.wrap .i64 (x2 + (1 : Int))))] p25.2)) (
 some (0, [], h))

theorem schema_Columns_L5_eq (C : CF) (L : LF) (a : List Value) (h : H) : lpN E C L 35 5 Tryz.f35 a h = schema_Columns_L5 C L a h := by kernel_rfl


/-- 71: armarium/schema.every -/
noncomputable def schema_every (C : CF) (L : LF) (a : List Value) (h : H) : Option (Value × H) :=
 (oneL (lget a 0).cells.toList).bind fun l2 =>
 let h1 := h.new (.cells l2 47 true false)
 some ((.bool true), h1)

theorem schema_every_eq (C : CF) (L : LF) (a : List Value) (h : H) : fnK E C L 71 Tryz.f71 a h = schema_every C L a h := by kernel_rfl


/-- 72: armarium/schema.kinds$1 -/
noncomputable def schema_kinds_1 (C : CF) (L : LF) (a : List Value) (h : H) : Option (Value × H) :=
 (oneL (lget a 0).cells.toList).bind fun l2 =>
 let h1 := h.new (.cells l2 47 true false)
 let h3 := h1.new (.cells [(.bool false), (.bool false), (.int .i64 (0)), (.int .u64 (0)), (.string (bs [])), (.complex .f64 0 0)] 47 true false)
 (stV 1 h3 h.next (0 + 1) (.bool false)).bind fun h4 =>
 (ldA 6 h4 h.next 0).bind fun v5 =>
 (stV 6 h4 h1.next 0 v5).bind fun h6 =>
 (ldA 6 h6 h1.next 0).bind fun v7 =>
 some (v7, h6)

theorem schema_kinds_1_eq (C : CF) (L : LF) (a : List Value) (h : H) : fnK E C L 72 Tryz.f72 a h = schema_kinds_1 C L a h := by kernel_rfl


/-- 74: armarium/schema.kinds$3 -/
noncomputable def schema_kinds_3 (C : CF) (L : LF) (a : List Value) (h : H) : Option (Value × H) :=
 (oneL (lget a 0).cells.toList).bind fun l2 =>
 let h1 := h.new (.cells l2 47 true false)
 let h3 := h1.new (.cells [(.bool false), (.bool false), (.int .i64 (0)), (.int .u64 (0)), (.string (bs [])), (.complex .f64 0 0)] 47 true false)
 (stV 1 h3 h.next (0 + 2) (.int .i64 (0 : Int))).bind fun h4 =>
 (ldA 6 h4 h.next 0).bind fun v5 =>
 (stV 6 h4 h1.next 0 v5).bind fun h6 =>
 (ldA 6 h6 h1.next 0).bind fun v7 =>
 some (v7, h6)

theorem schema_kinds_3_eq (C : CF) (L : LF) (a : List Value) (h : H) : fnK E C L 74 Tryz.f74 a h = schema_kinds_3 C L a h := by kernel_rfl


/-- 78: armarium/schema.noText -/
noncomputable def schema_noText (C : CF) (L : LF) (a : List Value) (h : H) : Option (Value × H) :=
 (oneL (lget a 0).cells.toList).bind fun l2 =>
 let h1 := h.new (.cells l2 47 true false)
 let h3 := h1.new (.cells [(.bool false), (.bool false), (.int .i64 (0)), (.int .u64 (0)), (.string (bs [])), (.complex .f64 0 0)] 47 true false)
 (stV 1 h3 h.next (0 + 4) (.string (bs []))).bind fun h4 =>
 (ldA 6 h4 h.next 0).bind fun v5 =>
 (stV 6 h4 h1.next 0 v5).bind fun h6 =>
 (ldA 6 h6 h1.next 0).bind fun v7 =>
 some (v7, h6)

theorem schema_noText_eq (C : CF) (L : LF) (a : List Value) (h : H) : fnK E C L 78 Tryz.f78 a h = schema_noText C L a h := by kernel_rfl


/-- 82: armarium/schema.whole -/
noncomputable def schema_whole (C : CF) (L : LF) (a : List Value) (h : H) : Option (Value × H) :=
 (fop .geq (lget a 0) (.float .f64 14069245235905429504)).bind fun v1 =>
 (asB v1).bind fun b2 =>
 ((cond b2
 ((fop .leq (lget a 0) (.float .f64 4845873199050653696)).bind fun v3 =>
 (asB v3).bind fun b4 =>
 some (b4, h))
 (some (false, h))) : Option (Bool × H)).bind fun p5 =>
 ((cond p5.1
 ((f2i .i64 (lget a 0)).bind fun x6 =>
 (fop .eql (.float .f64 (FloatKind.f64.nearest x6)) (lget a 0)).bind fun v7 =>
 (asB v7).bind fun b8 =>
 some (b8, p5.2))
 (some (false, p5.2))) : Option (Bool × H)).bind fun p9 =>
 some ((.bool p9.1), p9.2)

theorem schema_whole_eq (C : CF) (L : LF) (a : List Value) (h : H) : fnK E C L 82 Tryz.f82 a h = schema_whole C L a h := by kernel_rfl


/-- 52: armarium/schema.Size -/
noncomputable def schema_Size (C : CF) (L : LF) (a : List Value) (h : H) : Option (Value × H) :=
 (oneL (lget a 0).cells.toList).bind fun l2 =>
 let h1 := h.new (.cells l2 47 true false)
 (ldS h1 h.next (0 + 4)).bind fun s3 =>
 some ((.int .i64 (IntKind.wrap .i64 ((20 : Int) + ((s3.size : Nat) : Int)))), h1)

theorem schema_Size_eq (C : CF) (L : LF) (a : List Value) (h : H) : fnK E C L 52 Tryz.f52 a h = schema_Size C L a h := by kernel_rfl


/-- 53: slices.Index[[]armarium/api.Column,armarium/api.Column] -/
noncomputable def slices_Index___api_Column_api_Column_ (C : CF) (L : LF) (a : List Value) (h : H) : Option (Value × H) :=
 (oneL (lget a 1).cells.toList).bind fun l2 =>
 let h1 := h.new (.cells l2 55 true false)
 (lenV (lget a 0)).bind fun n3 =>
 (L 53 2 [(lget a 0), (ptr h.next 0), (.int .i64 ((n3 : Nat) : Int)), (.int .i64 (0 : Int))] h1).bind fun p4 =>
 cond (p4.1 == 0) (
 some ((.int .i64 (-1 : Int)), p4.2.2)) (
 (asI .i64 (lget p4.2.1 0)).bind fun x5 =>
 some ((.int .i64 x5), p4.2.2))

theorem slices_Index___api_Column_api_Column__eq (C : CF) (L : LF) (a : List Value) (h : H) : fnK E C L 53 Tryz.f53 a h = slices_Index___api_Column_api_Column_ C L a h := by kernel_rfl

noncomputable def slices_Index___api_Column_api_Column__L2 (C : CF) (L : LF) (a : List Value) (h : H) : Option (Nat × List Value × H) :=
 (asP (lget a 1)).bind fun p1 =>
 (asI .i64 (lget a 2)).bind fun x2 =>
 (asI .i64 (lget a 3)).bind fun x3 =>
 cond (decide (x3 < x2)) (
 (ldA 3 h p1.1 p1.2).bind fun v4 =>
 (idx 3 (lget a 0) x3).bind fun p5 =>
 (ldA 3 h p5.1 p5.2).bind fun v6 =>
 (eqT E 8 55 v4 v6).bind fun b7 =>
 cond b7 (
 some (1, [(.int .i64 x3)], h)) (
 L 53 2 [(lget a 0), (ptr p1.1 p1.2), (.int .i64 x2), (.int .i64 (IntKind.wrap .i64 (x3 + (1 : Int))))] h)) (
 some (0, [], h))

theorem slices_Index___api_Column_api_Column__L2_eq (C : CF) (L : LF) (a : List Value) (h : H) : lpN E C L 53 2 Tryz.f53 a h = slices_Index___api_Column_api_Column__L2 C L a h := by kernel_rfl


/-- 55: armarium/diff.where -/
noncomputable def diff_where (C : CF) (L : LF) (a : List Value) (h : H) : Option (Value × H) :=
 (asI .i64 (lget a 0)).bind fun x1 =>
 (L 55 3 [(lget a 1), (.slice none 0 0), (.int .i64 x1), (.int .i64 (0 : Int))] h).bind fun p2 =>
 some ((lget p2.2.1 0), p2.2.2)

theorem diff_where_eq (C : CF) (L : LF) (a : List Value) (h : H) : fnK E C L 55 Tryz.f55 a h = diff_where C L a h := by kernel_rfl

noncomputable def diff_where_L3 (C : CF) (L : LF) (a : List Value) (h : H) : Option (Nat × List Value × H) :=
 (asI .i64 (lget a 2)).bind fun x1 =>
 (asI .i64 (lget a 3)).bind fun x2 =>
 cond (decide (x2 < x1)) (
 let j8 : Value → Value → Int → Int → H → Option (Nat × List Value × H) := fun (v3 : Value) (v4 : Value) (x5 : Int) (x6 : Int) (h7 : H) =>
 L 55 3 [v3, v4, (.int .i64 x5), (.int .i64 (IntKind.wrap .i64 (x6 + (1 : Int))))] h7
 (callV C L (lget a 0) [(.int .i64 x2)] h).bind fun p9 =>
 (asB p9.1).bind fun b10 =>
 cond b10 (
 (bldS E 117 1 [(0, (.int .i64 x2))]).bind fun l11 =>
 let h12 := p9.2.new (.cells l11 3 true false)
 (appA 1 8 3 h12 (lget a 1) (.slice (some ⟨p9.2.next, 0, none⟩) 1 1)).bind fun p13 =>
 j8 (lget a 0) p13.1 x1 x2 p13.2) (
 j8 (lget a 0) (lget a 1) x1 x2 p9.2)) (
 some (0, [(lget a 1)], h))

theorem diff_where_L3_eq (C : CF) (L : LF) (a : List Value) (h : H) : lpN E C L 55 3 Tryz.f55 a h = diff_where_L3 C L a h := by kernel_rfl


/-- 11: armarium/diff.columns -/
noncomputable def diff_columns (C : CF) (L : LF) (a : List Value) (h : H) : Option (Value × H) :=
 (C 28 [(lget a 0), (.int .i64 (1048576 : Int))] h).bind fun p1 =>
 (asS p1.1).bind fun s2 =>
 (C 29 [(lget a 0)] p1.2).bind fun p3 =>
 (asI .i64 p3.1).bind fun x4 =>
 cond (x4 != (0 : Int)) (
 some (.tuple #[(.slice none 0 0), (.int .i64 (0 : Int)), (.int .i64 x4)], p3.2)) (
 (C 30 [(.string s2)] p3.2).bind fun p5 =>
 (tup2 p5.1).bind fun p6 =>
 (asI .i64 p6.2).bind fun x7 =>
 cond (x7 != (0 : Int)) (
 some (.tuple #[(.slice none 0 0), (.int .i64 (0 : Int)), (.int .i64 x7)], p5.2)) (
 (C 31 [(lget a 0)] p5.2).bind fun p8 =>
 (asI .u64 p8.1).bind fun x9 =>
 (C 29 [(lget a 0)] p8.2).bind fun p10 =>
 (asI .i64 p10.1).bind fun x11 =>
 cond (x11 != (0 : Int)) (
 (C 29 [(lget a 0)] p10.2).bind fun p12 =>
 (asI .i64 p12.1).bind fun x13 =>
 some (.tuple #[(.slice none 0 0), (.int .i64 (0 : Int)), (.int .i64 x13)], p12.2)) (
 cond (decide (x9 > (10000 : Int))) (
 some (.tuple #[(.slice none 0 0), (.int .i64 (0 : Int)), (.int .i64 (12 : Int))], p10.2)) (
 some (.tuple #[p6.1, (.int .i64 (IntKind.wrap .i64 x9)), (.int .i64 (0 : Int))], p10.2)))))

theorem diff_columns_eq (C : CF) (L : LF) (a : List Value) (h : H) : fnK E C L 11 Tryz.f11 a h = diff_columns C L a h := by kernel_rfl


/-- 60: (*armarium/wire.Reader).U8 -/
noncomputable def __wire_Reader__U8 (C : CF) (L : LF) (a : List Value) (h : H) : Option (Value × H) :=
 (C 86 [(lget a 0), (.int .i64 (1 : Int))] h).bind fun p1 =>
 (asI .u64 p1.1).bind fun x2 =>
 some ((.int .u8 (IntKind.wrap .u8 x2)), p1.2)

theorem __wire_Reader__U8_eq (C : CF) (L : LF) (a : List Value) (h : H) : fnK E C L 60 Tryz.f60 a h = __wire_Reader__U8 C L a h := by kernel_rfl


/-- 59: (*armarium/wire.Reader).take -/
noncomputable def __wire_Reader__take (C : CF) (L : LF) (a : List Value) (h : H) : Option (Value × H) :=
 (asI .i64 (lget a 1)).bind fun x1 =>
 (nilT 0 (lget a 0)).bind fun b2 =>
 ((cond b2
 (some (true, h))
 ((asP (lget a 0)).bind fun p3 =>
 (ldI .i64 h p3.1 (p3.2 + 2)).bind fun x4 =>
 some ((x4 != (0 : Int)), h))) : Option (Bool × H)).bind fun p5 =>
 cond p5.1 (
 some ((.string (bs [])), p5.2)) (
 (asP (lget a 0)).bind fun p6 =>
 (ldS p5.2 p6.1 (p6.2 + 0)).bind fun s7 =>
 (asP (lget a 0)).bind fun p8 =>
 (ldI .i64 p5.2 p8.1 (p8.2 + 1)).bind fun x9 =>
 cond (decide (x1 > (IntKind.wrap .i64 (((s7.size : Nat) : Int) - x9)))) (
 (asP (lget a 0)).bind fun p10 =>
 (stV 1 p5.2 p10.1 (p10.2 + 2) (.int .i64 (10 : Int))).bind fun h11 =>
 some ((.string (bs [])), h11)) (
 (asP (lget a 0)).bind fun p12 =>
 (ldS p5.2 p12.1 (p12.2 + 0)).bind fun s13 =>
 (asP (lget a 0)).bind fun p14 =>
 (ldI .i64 p5.2 p14.1 (p14.2 + 1)).bind fun x15 =>
 (asP (lget a 0)).bind fun p16 =>
 (ldI .i64 p5.2 p16.1 (p16.2 + 1)).bind fun x17 =>
 (slS s13 (some x15) (some (IntKind.wrap .i64 (x17 + x1)))).bind fun s18 =>
 (asP (lget a 0)).bind fun p19 =>
 (ldI .i64 p5.2 p19.1 (p19.2 + 1)).bind fun x20 =>
 (asP (lget a 0)).bind fun p21 =>
 (stV 1 p5.2 p21.1 (p21.2 + 1) (.int .i64 (IntKind.wrap .i64 (x20 + x1)))).bind fun h22 =>
 some ((.string s18), h22)))

theorem __wire_Reader__take_eq (C : CF) (L : LF) (a : List Value) (h : H) : fnK E C L 59 Tryz.f59 a h = __wire_Reader__take C L a h := by kernel_rfl


/-- 37: (*armarium/wire.Reader).Left -/
noncomputable def __wire_Reader__Left (C : CF) (L : LF) (a : List Value) (h : H) : Option (Value × H) :=
 (nilT 0 (lget a 0)).bind fun b1 =>
 cond b1 (
 some ((.int .i64 (0 : Int)), h)) (
 (asP (lget a 0)).bind fun p2 =>
 (ldS h p2.1 (p2.2 + 0)).bind fun s3 =>
 (asP (lget a 0)).bind fun p4 =>
 (ldI .i64 h p4.1 (p4.2 + 1)).bind fun x5 =>
 some ((.int .i64 (IntKind.wrap .i64 (((s3.size : Nat) : Int) - x5))), h))

theorem __wire_Reader__Left_eq (C : CF) (L : LF) (a : List Value) (h : H) : fnK E C L 37 Tryz.f37 a h = __wire_Reader__Left C L a h := by kernel_rfl


/-- 12: (armarium/diff.Patch).read -/
noncomputable def _diff_Patch__read (C : CF) (L : LF) (a : List Value) (h : H) : Option (Value × H) :=
 (oneL (lget a 0).cells.toList).bind fun l2 =>
 let h1 := h.new (.cells l2 26 true false)
 (oneL (lget a 2).cells.toList).bind fun l4 =>
 let h3 := h1.new (.cells l4 55 true false)
 let h5 := h3.new (.cells [(.bool false), (.slice none 0 0), (.slice none 0 0)] 43 true false)
 (ldV h5 h.next (0 + 0)).bind fun v6 =>
 (ldA 3 h5 h1.next 0).bind fun v7 =>
 (C 32 [v6, v7] h5).bind fun p8 =>
 (asB p8.1).bind fun b9 =>
 (bldT E 43 [(0, (.bool b9))]).bind fun v10 =>
 let h11 := p8.2.new (.cells [(.bool false), (.slice none 0 0), (.slice none 0 0)] 43 true false)
 (stV 3 h11 p8.2.next 0 v10).bind fun h12 =>
 let j21 : Value → Nat → Nat → Nat → Nat → Nat → Nat → H → Option (Value × H) := fun (v13 : Value) (q14 : Nat) (q15 : Nat) (q16 : Nat) (q17 : Nat) (q18 : Nat) (q19 : Nat) (h20 : H) =>
 (C 28 [v13, (.int .i64 (2097152 : Int))] h20).bind fun p22 =>
 (asS p22.1).bind fun s23 =>
 (C 29 [v13] p22.2).bind fun p24 =>
 (asI .i64 p24.1).bind fun x25 =>
 cond (x25 != (0 : Int)) (
 (bldT E 43 []).bind fun v26 =>
 (C 29 [v13] p24.2).bind fun p27 =>
 (asI .i64 p27.1).bind fun x28 =>
 (stV 3 p27.2 q16 q17 v26).bind fun h29 =>
 (ldA 3 h29 q16 q17).bind fun v30 =>
 some (.tuple #[v30, (.int .i64 x28)], h29)) (
 (ldA 3 p24.2 q14 q15).bind fun v31 =>
 (C 34 [v31, (.string s23)] p24.2).bind fun p32 =>
 (tup2 p32.1).bind fun p33 =>
 (asI .i64 p33.2).bind fun x34 =>
 (stV 1 p32.2 q18 (q19 + 2) p33.1).bind fun h35 =>
 (ldA 3 h35 q18 q19).bind fun v36 =>
 (stV 3 h35 q16 q17 v36).bind fun h37 =>
 (ldA 3 h37 q16 q17).bind fun v38 =>
 some (.tuple #[v38, (.int .i64 x34)], h37))
 (ldB h12 p8.2.next (0 + 0)).bind fun b39 =>
 cond b39 (
 (ldI .i64 h12 h1.next (0 + 1)).bind fun x40 =>
 (ldI .i64 h12 h.next (0 + 1)).bind fun x41 =>
 (ldI .i64 h12 h.next (0 + 3)).bind fun x42 =>
 (C 33 [(lget a 1), (.int .i64 x40), (.int .i64 (cond (decide (x42 < x41)) x42 x41))] h12).bind fun p43 =>
 (tup2 p43.1).bind fun p44 =>
 (asI .i64 p44.2).bind fun x45 =>
 (stV 1 p43.2 p8.2.next (0 + 1) p44.1).bind fun h46 =>
 cond (x45 != (0 : Int)) (
 (bldT E 43 []).bind fun v47 =>
 (stV 3 h46 h3.next 0 v47).bind fun h48 =>
 (ldA 3 h48 h3.next 0).bind fun v49 =>
 some (.tuple #[v49, (.int .i64 x45)], h48)) (
 j21 (lget a 1) h1.next 0 h3.next 0 p8.2.next 0 h46)) (
 j21 (lget a 1) h1.next 0 h3.next 0 p8.2.next 0 h12)

theorem _diff_Patch__read_eq (C : CF) (L : LF) (a : List Value) (h : H) : fnK E C L 12 Tryz.f12 a h = _diff_Patch__read C L a h := by kernel_rfl


/-- 97: (*armarium/wire.Reader).U64 -/
noncomputable def __wire_Reader__U64 (C : CF) (L : LF) (a : List Value) (h : H) : Option (Value × H) :=
 (C 86 [(lget a 0), (.int .i64 (8 : Int))] h).bind fun p1 =>
 (asI .u64 p1.1).bind fun x2 =>
 some ((.int .u64 x2), p1.2)

theorem __wire_Reader__U64_eq (C : CF) (L : LF) (a : List Value) (h : H) : fnK E C L 97 Tryz.f97 a h = __wire_Reader__U64 C L a h := by kernel_rfl


/-- 98: (*armarium/wire.Reader).Svar -/
noncomputable def __wire_Reader__Svar (C : CF) (L : LF) (a : List Value) (h : H) : Option (Value × H) :=
 (C 31 [(lget a 0)] h).bind fun p1 =>
 (asI .u64 p1.1).bind fun x2 =>
 some ((.int .i64 (ixor .i64 (IntKind.wrap .i64 (ishr .u64 x2 (1 : Int))) (IntKind.wrap .i64 (0 - (IntKind.wrap .i64 (iand .u64 x2 (1 : Int))))))), p1.2)

theorem __wire_Reader__Svar_eq (C : CF) (L : LF) (a : List Value) (h : H) : fnK E C L 98 Tryz.f98 a h = __wire_Reader__Svar C L a h := by kernel_rfl


/-- 99: armarium/plain.far -/
noncomputable def plain_far (C : CF) (L : LF) (a : List Value) (h : H) : Option (Value × H) :=
 (asI .i64 (lget a 0)).bind fun x1 =>
 ((cond (decide (x1 < (-9007199254740992 : Int)))
 (some (true, h))
 (some ((decide (x1 > (9007199254740992 : Int))), h))) : Option (Bool × H)).bind fun p2 =>
 some ((.bool p2.1), p2.2)

theorem plain_far_eq (C : CF) (L : LF) (a : List Value) (h : H) : fnK E C L 99 Tryz.f99 a h = plain_far C L a h := by kernel_rfl


/-- 62: armarium/column.cells -/
noncomputable def column_cells (C : CF) (L : LF) (a : List Value) (h : H) : Option (Value × H) :=
 (asS (lget a 1)).bind fun s1 =>
 (oneL (lget a 0).cells.toList).bind fun l3 =>
 let h2 := h.new (.cells l3 55 true false)
 (C 10 [(.string s1)] h2).bind fun p4 =>
 (C 31 [p4.1] p4.2).bind fun p5 =>
 (asI .u64 p5.1).bind fun x6 =>
 (C 29 [p4.1] p5.2).bind fun p7 =>
 (asI .i64 p7.1).bind fun x8 =>
 cond (x8 != (0 : Int)) (
 (C 29 [p4.1] p7.2).bind fun p9 =>
 (asI .i64 p9.1).bind fun x10 =>
 some (.tuple #[(.slice none 0 0), (.int .i64 x10)], p9.2)) (
 cond (decide (x6 > (10000 : Int))) (
 some (.tuple #[(.slice none 0 0), (.int .i64 (31 : Int))], p7.2)) (
 (ldA 3 p7.2 h.next 0).bind fun v11 =>
 (C 89 [p4.1, v11, (.int .i64 (IntKind.wrap .i64 x6))] p7.2).bind fun p12 =>
 (tup2 p12.1).bind fun p13 =>
 (asI .i64 p13.2).bind fun x14 =>
 cond (x14 != (0 : Int)) (
 some (.tuple #[(.slice none 0 0), (.int .i64 x14)], p12.2)) (
 (C 60 [p4.1] p12.2).bind fun p15 =>
 (asI .u8 p15.1).bind fun x16 =>
 (C 29 [p4.1] p15.2).bind fun p17 =>
 (asI .i64 p17.1).bind fun x18 =>
 cond (x18 != (0 : Int)) (
 (C 29 [p4.1] p17.2).bind fun p19 =>
 (asI .i64 p19.1).bind fun x20 =>
 some (.tuple #[(.slice none 0 0), (.int .i64 x20)], p19.2)) (
 ((cond (decide (x16 < (1 : Int)))
 (some (true, p17.2))
 (some ((decide (x16 > (4 : Int))), p17.2))) : Option (Bool × H)).bind fun p21 =>
 cond p21.1 (
 some (.tuple #[(.slice none 0 0), (.int .i64 (14 : Int))], p21.2)) (
 (C 90 [] p21.2).bind fun p22 =>
 cond (decide (0 ≤ x16) && decide (x16 < ((5 : Nat) : Int))) (
 (partV true ((Int.toNat x16) * 2) 2 p22.1).bind fun v23 =>
 (partV false 1 1 v23).bind fun v24 =>
 (ldI .i64 p22.2 h.next (0 + 1)).bind fun x25 =>
 (((ldI .i64 p21.2 h.next (0 + 1)).bind fun x27 =>
 some (veq (.int .i64 x25) (.int .i64 x27))) : Option Bool).bind fun b26 =>
 cond b26 (
 (C 37 [p4.1] p22.2).bind fun p28 =>
 (asI .i64 p28.1).bind fun x29 =>
 (((ldI .i64 p28.2 h.next (0 + 1)).bind fun x31 =>
 some (veq (.int .i64 x25) (.int .i64 x31))) : Option Bool).bind fun b30 =>
 cond b30 (
 (C 91 [p4.1, (.int .i64 x29)] p28.2).bind fun p32 =>
 (asS p32.1).bind fun s33 =>
 (((ldI .i64 p32.2 h.next (0 + 1)).bind fun x35 =>
 some (veq (.int .i64 x25) (.int .i64 x35))) : Option Bool).bind fun b34 =>
 cond b34 (
 (lenV p13.1).bind fun n36 =>
 (((lenV p13.1).bind fun n38 =>
 some (veq (.int .i64 ((n36 : Nat) : Int)) (.int .i64 ((n38 : Nat) : Int)))) : Option Bool).bind fun b37 =>
 cond b37 (
 (((lenV p13.1).bind fun n40 =>
 some (veq (.int .i64 ((n36 : Nat) : Int)) (.int .i64 ((n40 : Nat) : Int)))) : Option Bool).bind fun b39 =>
 cond b39 (
 (((lenV p13.1).bind fun n42 =>
 some (veq (.int .i64 ((n36 : Nat) : Int)) (.int .i64 ((n42 : Nat) : Int)))) : Option Bool).bind fun b41 =>
 cond b41 (
 (C 92 [p13.1] p32.2).bind fun p43 =>
 (asI .i64 p43.1).bind fun x44 =>
 (((lenV p13.1).bind fun n46 =>
 some (veq (.int .i64 ((n36 : Nat) : Int)) (.int .i64 ((n46 : Nat) : Int)))) : Option Bool).bind fun b45 =>
 cond b45 (
 (((ldI .i64 p43.2 h.next (0 + 1)).bind fun x48 =>
 some (veq (.int .i64 x25) (.int .i64 x48))) : Option Bool).bind fun b47 =>
 cond b47 (
 (callV C L v24 [(.int .i64 x25), (.string s33), (.int .i64 (IntKind.wrap .i64 (((n36 : Nat) : Int) - x44)))] p43.2).bind fun p49 =>
 (tup2 p49.1).bind fun p50 =>
 (asI .i64 p50.2).bind fun x51 =>
 cond (x51 != (0 : Int)) (
 some (.tuple #[(.slice none 0 0), (.int .i64 x51)], p49.2)) (
 (C 93 [p13.1, p50.1] p49.2).bind fun p52 =>
 (tup2 p52.1).bind fun p53 =>
 (asI .i64 p53.2).bind fun x54 =>
 some (.tuple #[p53.1, (.int .i64 x54)], p52.2))) none) none) none) none) none) none) none) none) none)))))

theorem column_cells_eq (C : CF) (L : LF) (a : List Value) (h : H) : fnK E C L 62 Tryz.f62 a h = column_cells C L a h := by kernel_rfl


/-- 41: armarium/plain.Put -/
noncomputable def plain_Put (C : CF) (L : LF) (a : List Value) (h : H) : Option (Value × H) :=
 (asI .i64 (lget a 1)).bind fun x1 =>
 (oneL (lget a 2).cells.toList).bind fun l3 =>
 let h2 := h.new (.cells l3 47 true false)
 cond (x1 == (1 : Int)) (
 let j7 : Value → Int → H → Option (Value × H) := fun (v4 : Value) (x5 : Int) (h6 : H) =>
 (C 39 [v4, (.int .u8 x5)] h6).bind fun p8 =>
 some (junk, p8.2)
 (ldB h2 h.next (0 + 1)).bind fun b9 =>
 cond b9 (
 j7 (lget a 0) (1 : Int) h2) (
 j7 (lget a 0) (0 : Int) h2)) (
 cond (x1 == (2 : Int)) (
 (ldI .i64 h2 h.next (0 + 2)).bind fun x10 =>
 (C 65 [(lget a 0), (.int .u64 (IntKind.wrap .u64 x10))] h2).bind fun p11 =>
 some (junk, p11.2)) (
 cond (x1 == (3 : Int)) (
 (ldI .u64 h2 h.next (0 + 3)).bind fun x12 =>
 (C 65 [(lget a 0), (.int .u64 x12)] h2).bind fun p13 =>
 some (junk, p13.2)) (
 let j20 : Value → Nat → Nat → Int → Bool → H → Option (Value × H) := fun (v14 : Value) (q15 : Nat) (q16 : Nat) (x17 : Int) (b18 : Bool) (h19 : H) =>
 cond b18 (
 (ldS h19 q15 (q16 + 4)).bind fun s21 =>
 (C 15 [v14, (.string s21)] h19).bind fun p22 =>
 some (junk, p22.2)) (
 cond (x17 == (6 : Int)) (
 (ldV h19 q15 (q16 + 5)).bind fun v23 =>
 (C 66 [v14, v23] h19).bind fun p24 =>
 some (junk, p24.2)) (
 some (junk, h19)))
 cond (x1 == (4 : Int)) (
 j20 (lget a 0) h.next 0 x1 (x1 == (4 : Int)) h2) (
 j20 (lget a 0) h.next 0 x1 (x1 == (5 : Int)) h2))))

theorem plain_Put_eq (C : CF) (L : LF) (a : List Value) (h : H) : fnK E C L 41 Tryz.f41 a h = plain_Put C L a h := by kernel_rfl


/-- 65: (*armarium/wire.Writer).U64 -/
noncomputable def __wire_Writer__U64 (C : CF) (L : LF) (a : List Value) (h : H) : Option (Value × H) :=
 (asI .u64 (lget a 1)).bind fun x1 =>
 (C 94 [(lget a 0), (.int .u64 x1), (.int .i64 (8 : Int))] h).bind fun p2 =>
 some (junk, p2.2)

theorem __wire_Writer__U64_eq (C : CF) (L : LF) (a : List Value) (h : H) : fnK E C L 65 Tryz.f65 a h = __wire_Writer__U64 C L a h := by kernel_rfl


/-- 17: (*armarium/wire.Writer).Uvar -/
noncomputable def __wire_Writer__Uvar (C : CF) (L : LF) (a : List Value) (h : H) : Option (Value × H) :=
 (asI .u64 (lget a 1)).bind fun x1 =>
 (L 17 0 [(lget a 0), (.int .u64 x1)] h).bind fun p2 =>
 (asI .u64 (lget p2.2.1 1)).bind fun x3 =>
 (bldS E 59 1 [(0, (.int .u8 (IntKind.wrap .u8 x3)))]).bind fun l4 =>
 let h5 := p2.2.2.new (.cells l4 5 true false)
 (C 40 [(lget p2.2.1 0), (.slice (some ⟨p2.2.2.next, 0, none⟩) 1 1)] h5).bind fun p6 =>
 some (junk, p6.2)

theorem __wire_Writer__Uvar_eq (C : CF) (L : LF) (a : List Value) (h : H) : fnK E C L 17 Tryz.f17 a h = __wire_Writer__Uvar C L a h := by kernel_rfl

noncomputable def __wire_Writer__Uvar_L0 (C : CF) (L : LF) (a : List Value) (h : H) : Option (Nat × List Value × H) :=
 (asI .u64 (lget a 1)).bind fun x1 =>
 cond (decide (x1 ≥ (128 : Int))) (
 (bldS E 59 1 [(0, (.int .u8 (ior .u8 (IntKind.wrap .u8 x1) (128 : Int))))]).bind fun l2 =>
 let h3 := h.new (.cells l2 5 true false)
 (C 40 [(lget a 0), (.slice (some ⟨h.next, 0, none⟩) 1 1)] h3).bind fun p4 =>
 L 17 0 [(lget a 0), (.int .u64 (ishr .u64 x1 (7 : Int)))] p4.2) (
 some (0, [(lget a 0), (.int .u64 x1)], h))

theorem __wire_Writer__Uvar_L0_eq (C : CF) (L : LF) (a : List Value) (h : H) : lpN E C L 17 0 Tryz.f17 a h = __wire_Writer__Uvar_L0 C L a h := by kernel_rfl


/-- 20: (*armarium/wire.Writer).String -/
noncomputable def __wire_Writer__String (C : CF) (L : LF) (a : List Value) (h : H) : Option (Value × H) :=
 (nilT 0 (lget a 0)).bind fun b1 =>
 cond b1 (
 some ((.string (bs [])), h)) (
 (asP (lget a 0)).bind fun p2 =>
 (ldV h p2.1 (p2.2 + 0)).bind fun v3 =>
 (strOf h v3).bind fun s4 =>
 some ((.string s4), h))

theorem __wire_Writer__String_eq (C : CF) (L : LF) (a : List Value) (h : H) : fnK E C L 20 Tryz.f20 a h = __wire_Writer__String C L a h := by kernel_rfl


/-- 112: armarium/runs.each -/
noncomputable def runs_each (C : CF) (L : LF) (a : List Value) (h : H) : Option (Value × H) :=
 (asI .i64 (lget a 0)).bind fun x1 =>
 let h2 := h.new (.cells [(.int .i64 x1)] 3 true false)
 cond (one (lget a 1)) (
 let h3 := h2.new (.cells [(lget a 1)] 41 true false)
 some ((.func (.func 125) #[] #[(ptr h2.next 0), (ptr h.next 0)]), h3)) none

theorem runs_each_eq (C : CF) (L : LF) (a : List Value) (h : H) : fnK E C L 112 Tryz.f112 a h = runs_each C L a h := by kernel_rfl


/-- 125: armarium/runs.each$1 -/
noncomputable def runs_each_1 (C : CF) (L : LF) (a : List Value) (h : H) : Option (Value × H) :=
 (L 125 1 [(lget a 0), (lget a 1), (lget a 2), (.int .i64 (0 : Int))] h).bind fun p1 =>
 cond (p1.1 == 0) (
 some (junk, p1.2.2)) (
 some (junk, p1.2.2))

theorem runs_each_1_eq (C : CF) (L : LF) (a : List Value) (h : H) : fnK E C L 125 Tryz.f125 a h = runs_each_1 C L a h := by kernel_rfl

noncomputable def runs_each_1_L1 (C : CF) (L : LF) (a : List Value) (h : H) : Option (Nat × List Value × H) :=
 (asI .i64 (lget a 3)).bind fun x1 =>
 (asP (lget a 1)).bind fun p2 =>
 (ldV h p2.1 p2.2).bind fun v3 =>
 (lenV v3).bind fun n4 =>
 cond (decide (x1 < ((n4 : Nat) : Int))) (
 (L 125 3 [(lget a 0), (lget a 1), (lget a 2), (.int .i64 x1), (.int .i64 (IntKind.wrap .i64 (x1 + (1 : Int))))] h).bind fun p5 =>
 (asI .i64 (lget p5.2.1 3)).bind fun x6 =>
 (asI .i64 (lget p5.2.1 4)).bind fun x7 =>
 (asP (lget p5.2.1 1)).bind fun p8 =>
 (ldV p5.2.2 p8.1 p8.2).bind fun v9 =>
 (idx 6 v9 x6).bind fun p10 =>
 (ldA 6 p5.2.2 p10.1 p10.2).bind fun v11 =>
 (bldT E 166 [(0, v11), (1, (.int .i64 (IntKind.wrap .i64 (x7 - x6))))]).bind fun v12 =>
 (callV C L (lget p5.2.1 0) [v12] p5.2.2).bind fun p13 =>
 (asB p13.1).bind fun b14 =>
 cond (!b14) (
 some (1, [], p13.2)) (
 L 125 1 [(lget p5.2.1 0), (lget p5.2.1 1), (lget p5.2.1 2), (.int .i64 x7)] p13.2)) (
 some (0, [], h))

theorem runs_each_1_L1_eq (C : CF) (L : LF) (a : List Value) (h : H) : lpN E C L 125 1 Tryz.f125 a h = runs_each_1_L1 C L a h := by kernel_rfl

noncomputable def runs_each_1_L3 (C : CF) (L : LF) (a : List Value) (h : H) : Option (Nat × List Value × H) :=
 (asI .i64 (lget a 3)).bind fun x1 =>
 (asI .i64 (lget a 4)).bind fun x2 =>
 (asP (lget a 1)).bind fun p3 =>
 (ldV h p3.1 p3.2).bind fun v4 =>
 (lenV v4).bind fun n5 =>
 cond (decide (x2 < ((n5 : Nat) : Int))) (
 (asP (lget a 2)).bind fun p6 =>
 (ldI .i64 h p6.1 p6.2).bind fun x7 =>
 (asP (lget a 1)).bind fun p8 =>
 (ldV h p8.1 p8.2).bind fun v9 =>
 (idx 6 v9 (IntKind.wrap .i64 (x2 - (1 : Int)))).bind fun p10 =>
 (ldA 6 h p10.1 p10.2).bind fun v11 =>
 (asP (lget a 1)).bind fun p12 =>
 (ldV h p12.1 p12.2).bind fun v13 =>
 (idx 6 v13 x2).bind fun p14 =>
 (ldA 6 h p14.1 p14.2).bind fun v15 =>
 (C 85 [(.int .i64 x7), v11, v15] h).bind fun p16 =>
 (asB p16.1).bind fun b17 =>
 cond b17 (
 L 125 3 [(lget a 0), (lget a 1), (lget a 2), (.int .i64 x1), (.int .i64 (IntKind.wrap .i64 (x2 + (1 : Int))))] p16.2) (
 some (0, [(lget a 0), (lget a 1), (lget a 2), (.int .i64 x1), (.int .i64 x2)], p16.2))) (
 cond false (
 L 125 3 [(lget a 0), (lget a 1), (lget a 2), (.int .i64 x1), (.int .i64 (IntKind.wrap .i64 (x2 + (1 : Int))))] h) (
 some (0, [(lget a 0), (lget a 1), (lget a 2), (.int .i64 x1), (.int .i64 x2)], h)))

theorem runs_each_1_L3_eq (C : CF) (L : LF) (a : List Value) (h : H) : lpN E C L 125 3 Tryz.f125 a h = runs_each_1_L3 C L a h := by kernel_rfl


/-- 106: armarium/delta.Encode -/
noncomputable def delta_Encode (C : CF) (L : LF) (a : List Value) (h : H) : Option (Value × H) :=
 (asI .i64 (lget a 0)).bind fun x1 =>
 (C 115 [(.int .i64 x1)] h).bind fun p2 =>
 (asB p2.1).bind fun b3 =>
 cond (!b3) (
 some (.tuple #[(.string (bs [])), (.int .i64 (14 : Int))], p2.2)) (
 let h4 := p2.2.new (.cells [(.slice none 0 0)] 61 true false)
 let h5 := h4.new (.cells [(.bool false), (.bool false), (.int .i64 (0)), (.int .u64 (0)), (.string (bs [])), (.complex .f64 0 0)] 47 true false)
 (lenV (lget a 1)).bind fun n6 =>
 (L 106 6 [(.int .i64 x1), (ptr p2.2.next 0), (ptr h4.next 0), (lget a 1), (.int .i64 ((n6 : Nat) : Int)), (.int .i64 (0 : Int))] h5).bind fun p7 =>
 cond (p7.1 == 0) (
 (asP (lget p7.2.1 0)).bind fun p8 =>
 (C 20 [(ptr p8.1 p8.2)] p7.2.2).bind fun p9 =>
 (asS p9.1).bind fun s10 =>
 some (.tuple #[(.string s10), (.int .i64 (0 : Int))], p9.2)) (
 (asS (lget p7.2.1 0)).bind fun s11 =>
 (asI .i64 (lget p7.2.1 1)).bind fun x12 =>
 some (.tuple #[(.string s11), (.int .i64 x12)], p7.2.2)))

theorem delta_Encode_eq (C : CF) (L : LF) (a : List Value) (h : H) : fnK E C L 106 Tryz.f106 a h = delta_Encode C L a h := by kernel_rfl

noncomputable def delta_Encode_L6 (C : CF) (L : LF) (a : List Value) (h : H) : Option (Nat × List Value × H) :=
 (asI .i64 (lget a 0)).bind fun x1 =>
 (asP (lget a 1)).bind fun p2 =>
 (asP (lget a 2)).bind fun p3 =>
 (asI .i64 (lget a 4)).bind fun x4 =>
 (asI .i64 (lget a 5)).bind fun x5 =>
 cond (decide (x5 < x4)) (
 (idx 6 (lget a 3) x5).bind fun p6 =>
 (ldA 6 h p6.1 p6.2).bind fun v7 =>
 let h8 := h.new (.cells [(.bool false), (.bool false), (.int .i64 (0)), (.int .u64 (0)), (.string (bs [])), (.complex .f64 0 0)] 47 true false)
 (stV 6 h8 h.next 0 v7).bind fun h9 =>
 (ldA 6 h9 p3.1 p3.2).bind fun v10 =>
 (ldA 6 h9 h.next 0).bind fun v11 =>
 (C 116 [(.int .i64 x1), v10, v11] h9).bind fun p12 =>
 (tup2 p12.1).bind fun p13 =>
 (asI .i64 p13.2).bind fun x14 =>
 let h15 := p12.2.new (.cells [(.bool false), (.bool false), (.int .i64 (0)), (.int .u64 (0)), (.string (bs [])), (.complex .f64 0 0)] 47 true false)
 (stV 6 h15 p12.2.next 0 p13.1).bind fun h16 =>
 let j28 : Int → Nat → Nat → Nat → Nat → Nat → Nat → Value → Int → Int → H → Option (Nat × List Value × H) := fun (x17 : Int) (q18 : Nat) (q19 : Nat) (q20 : Nat) (q21 : Nat) (q22 : Nat) (q23 : Nat) (v24 : Value) (x25 : Int) (x26 : Int) (h27 : H) =>
 (ldA 6 h27 q22 q23).bind fun v29 =>
 (stV 6 h27 q20 q21 v29).bind fun h30 =>
 L 106 6 [(.int .i64 x17), (ptr q18 q19), (ptr q20 q21), v24, (.int .i64 x25), (.int .i64 (IntKind.wrap .i64 (x26 + (1 : Int))))] h30
 cond (x14 != (0 : Int)) (
 some (1, [(.string (bs [])), (.int .i64 x14)], h16)) (
 cond (x1 != (6 : Int)) (
 (ldI .i64 h16 p12.2.next (0 + 2)).bind fun x31 =>
 (C 96 [(ptr p2.1 p2.2), (.int .i64 x31)] h16).bind fun p32 =>
 j28 x1 p2.1 p2.2 p3.1 p3.2 h.next 0 (lget a 3) x4 x5 p32.2) (
 (ldV h16 h.next (0 + 5)).bind fun v33 =>
 (C 117 [v33] h16).bind fun p34 =>
 (asB p34.1).bind fun b35 =>
 ((cond b35
 ((ldV p34.2 h.next (0 + 5)).bind fun v36 =>
 (ldV p34.2 p3.1 (p3.2 + 5)).bind fun v37 =>
 (fneg v37).bind fun v38 =>
 (C 118 [v36, v38] p34.2).bind fun p39 =>
 (asB p39.1).bind fun b40 =>
 some (b40, p39.2))
 (some (false, p34.2))) : Option (Bool × H)).bind fun p41 =>
 cond p41.1 (
 (ldA 6 p41.2 p12.2.next 0).bind fun v42 =>
 (C 41 [(ptr p2.1 p2.2), (.int .i64 x1), v42] p41.2).bind fun p43 =>
 j28 x1 p2.1 p2.2 p3.1 p3.2 h.next 0 (lget a 3) x4 x5 p43.2) (
 some (1, [(.string (bs [])), (.int .i64 (12 : Int))], p41.2))))) (
 some (0, [(ptr p2.1 p2.2)], h))

theorem delta_Encode_L6_eq (C : CF) (L : LF) (a : List Value) (h : H) : lpN E C L 106 6 Tryz.f106 a h = delta_Encode_L6 C L a h := by kernel_rfl


/-- 121: armarium/dict.Make -/
noncomputable def dict_Make (C : CF) (L : LF) (a : List Value) (h : H) : Option (Value × H) :=
 (asI .i64 (lget a 0)).bind fun x1 =>
 ((cond (decide (x1 < (1 : Int)))
 (some (true, h))
 (some ((decide (x1 > (6 : Int))), h))) : Option (Bool × H)).bind fun p2 =>
 cond p2.1 (
 some (.tuple #[(.pointer none), (.slice none 0 0)], p2.2)) (
 (C 128 [(.int .i64 x1)] p2.2).bind fun p3 =>
 (lenV (lget a 1)).bind fun n4 =>
 (mkS 8 3 [(.int .i64 (0))] p3.2 ((n4 : Nat) : Int) ((n4 : Nat) : Int)).bind fun p5 =>
 (lenV (lget a 1)).bind fun n6 =>
 (L 121 6 [p3.1, p5.1, (lget a 1), (.int .i64 ((n6 : Nat) : Int)), (.int .i64 (0 : Int))] p5.2).bind fun p7 =>
 some (.tuple #[(lget p7.2.1 0), (lget p7.2.1 1)], p7.2.2))

theorem dict_Make_eq (C : CF) (L : LF) (a : List Value) (h : H) : fnK E C L 121 Tryz.f121 a h = dict_Make C L a h := by kernel_rfl

noncomputable def dict_Make_L6 (C : CF) (L : LF) (a : List Value) (h : H) : Option (Nat × List Value × H) :=
 (asI .i64 (lget a 3)).bind fun x1 =>
 (asI .i64 (lget a 4)).bind fun x2 =>
 cond (decide (x2 < x1)) (
 (idx 6 (lget a 2) x2).bind fun p3 =>
 (ldA 6 h p3.1 p3.2).bind fun v4 =>
 let h5 := h.new (.cells [(.bool false), (.bool false), (.int .i64 (0)), (.int .u64 (0)), (.string (bs [])), (.complex .f64 0 0)] 47 true false)
 (stV 6 h5 h.next 0 v4).bind fun h6 =>
 (ldA 6 h6 h.next 0).bind fun v7 =>
 (C 129 [(lget a 0), v7] h6).bind fun p8 =>
 (tup2 p8.1).bind fun p9 =>
 (asI .i64 p9.1).bind fun x10 =>
 (asB p9.2).bind fun b11 =>
 (idx 1 (lget a 1) x2).bind fun p12 =>
 (stV 1 p8.2 p12.1 p12.2 (.int .i64 x10)).bind fun h13 =>
 L 121 6 [(lget a 0), (lget a 1), (lget a 2), (.int .i64 x1), (.int .i64 (IntKind.wrap .i64 (x2 + (1 : Int))))] h13) (
 some (0, [(lget a 0), (lget a 1)], h))

theorem dict_Make_L6_eq (C : CF) (L : LF) (a : List Value) (h : H) : lpN E C L 121 6 Tryz.f121 a h = dict_Make_L6 C L a h := by kernel_rfl


/-- 130: armarium/dict.keyed -/
noncomputable def dict_keyed (C : CF) (L : LF) (a : List Value) (h : H) : Option (Value × H) :=
 (asI .i64 (lget a 0)).bind fun x1 =>
 (oneL (lget a 1).cells.toList).bind fun l3 =>
 let h2 := h.new (.cells l3 47 true false)
 let h4 := h2.new (.cells [(.int .u64 (0)), (.string (bs [])), (.int .i64 (0)), (.int .i64 (0))] 191 true false)
 let j8 : Nat → Nat → H → Option (Value × H) := fun (q5 : Nat) (q6 : Nat) (h7 : H) =>
 (bldT E 191 []).bind fun v9 =>
 (stV 4 h7 q5 q6 v9).bind fun h10 =>
 (ldA 4 h10 q5 q6).bind fun v11 =>
 some (v11, h10)
 cond (x1 == (1 : Int)) (
 (ldB h4 h.next (0 + 1)).bind fun b12 =>
 cond b12 (
 (bldT E 191 [(0, (.int .u64 (1 : Int)))]).bind fun v13 =>
 (stV 4 h4 h2.next 0 v13).bind fun h14 =>
 (ldA 4 h14 h2.next 0).bind fun v15 =>
 some (v15, h14)) (
 j8 h2.next 0 h4)) (
 cond (x1 == (2 : Int)) (
 (ldI .i64 h4 h.next (0 + 2)).bind fun x16 =>
 (bldT E 191 [(0, (.int .u64 (IntKind.wrap .u64 x16)))]).bind fun v17 =>
 (stV 4 h4 h2.next 0 v17).bind fun h18 =>
 (ldA 4 h18 h2.next 0).bind fun v19 =>
 some (v19, h18)) (
 cond (x1 == (3 : Int)) (
 (ldI .u64 h4 h.next (0 + 3)).bind fun x20 =>
 (bldT E 191 [(0, (.int .u64 x20))]).bind fun v21 =>
 (stV 4 h4 h2.next 0 v21).bind fun h22 =>
 (ldA 4 h22 h2.next 0).bind fun v23 =>
 some (v23, h22)) (
 let j31 : Nat → Nat → Nat → Nat → Int → Bool → H → Option (Value × H) := fun (q24 : Nat) (q25 : Nat) (q26 : Nat) (q27 : Nat) (x28 : Int) (b29 : Bool) (h30 : H) =>
 cond b29 (
 (ldS h30 q24 (q25 + 4)).bind fun s32 =>
 (bldT E 191 [(1, (.string s32))]).bind fun v33 =>
 (stV 4 h30 q26 q27 v33).bind fun h34 =>
 (ldA 4 h34 q26 q27).bind fun v35 =>
 some (v35, h34)) (
 cond (x28 == (6 : Int)) (
 (ldV h30 q24 (q25 + 5)).bind fun v36 =>
 (realV v36).bind fun v37 =>
 (f2i .i64 v37).bind fun x38 =>
 (ldV h30 q24 (q25 + 5)).bind fun v39 =>
 (imagV v39).bind fun v40 =>
 (f2i .i64 v40).bind fun x41 =>
 (bldT E 189 [(0, (.int .i64 x38)), (1, (.int .i64 x41))]).bind fun v42 =>
 (bldT E 191 [(2, v42)]).bind fun v43 =>
 (stV 4 h30 q26 q27 v43).bind fun h44 =>
 (ldA 4 h44 q26 q27).bind fun v45 =>
 some (v45, h44)) (
 j8 q26 q27 h30))
 cond (x1 == (4 : Int)) (
 j31 h.next 0 h2.next 0 x1 (x1 == (4 : Int)) h4) (
 j31 h.next 0 h2.next 0 x1 (x1 == (5 : Int)) h4))))

theorem dict_keyed_eq (C : CF) (L : LF) (a : List Value) (h : H) : fnK E C L 130 Tryz.f130 a h = dict_keyed C L a h := by kernel_rfl


/-- 93: armarium/nulls.Spread -/
noncomputable def nulls_Spread (C : CF) (L : LF) (a : List Value) (h : H) : Option (Value × H) :=
 (lenV (lget a 0)).bind fun n1 =>
 (C 92 [(lget a 0)] h).bind fun p2 =>
 (asI .i64 p2.1).bind fun x3 =>
 (lenV (lget a 1)).bind fun n4 =>
 cond (decide ((IntKind.wrap .i64 (((n1 : Nat) : Int) - x3)) > ((n4 : Nat) : Int))) (
 some (.tuple #[(.slice none 0 0), (.int .i64 (10 : Int))], p2.2)) (
 (lenV (lget a 1)).bind fun n5 =>
 cond (decide ((IntKind.wrap .i64 (((n1 : Nat) : Int) - x3)) < ((n5 : Nat) : Int))) (
 some (.tuple #[(.slice none 0 0), (.int .i64 (11 : Int))], p2.2)) (
 (lenV (lget a 0)).bind fun n6 =>
 (mkS 56 47 [(.bool false), (.bool false), (.int .i64 (0)), (.int .u64 (0)), (.string (bs [])), (.complex .f64 0 0)] p2.2 ((n6 : Nat) : Int) ((n6 : Nat) : Int)).bind fun p7 =>
 (lenV (lget a 0)).bind fun n8 =>
 (L 93 8 [(lget a 1), p7.1, (lget a 0), (.int .i64 ((n8 : Nat) : Int)), (.int .i64 (0 : Int))] p7.2).bind fun p9 =>
 some (.tuple #[(lget p9.2.1 0), (.int .i64 (0 : Int))], p9.2.2)))

theorem nulls_Spread_eq (C : CF) (L : LF) (a : List Value) (h : H) : fnK E C L 93 Tryz.f93 a h = nulls_Spread C L a h := by kernel_rfl

noncomputable def nulls_Spread_L8 (C : CF) (L : LF) (a : List Value) (h : H) : Option (Nat × List Value × H) :=
 (asI .i64 (lget a 3)).bind fun x1 =>
 (asI .i64 (lget a 4)).bind fun x2 =>
 cond (decide (x2 < x1)) (
 let j9 : Value → Value → Value → Int → Int → H → Option (Nat × List Value × H) := fun (v3 : Value) (v4 : Value) (v5 : Value) (x6 : Int) (x7 : Int) (h8 : H) =>
 L 93 8 [v3, v4, v5, (.int .i64 x6), (.int .i64 (IntKind.wrap .i64 (x7 + (1 : Int))))] h8
 (idx 1 (lget a 2) x2).bind fun p10 =>
 (ldB h p10.1 p10.2).bind fun b11 =>
 cond b11 (
 (idx 6 (lget a 1) x2).bind fun p12 =>
 (stV 1 h p12.1 (p12.2 + 0) (.bool true)).bind fun h13 =>
 j9 (lget a 0) (lget a 1) (lget a 2) x1 x2 h13) (
 (idx 6 (lget a 0) (0 : Int)).bind fun p14 =>
 (ldA 6 h p14.1 p14.2).bind fun v15 =>
 (slV 47 6 h (lget a 0) (some (1 : Int)) none none).bind fun v16 =>
 (idx 6 (lget a 1) x2).bind fun p17 =>
 (stV 6 h p17.1 p17.2 v15).bind fun h18 =>
 (((slV 47 6 h18 (lget a 0) (some (1 : Int)) none none).bind fun v20 =>
 some (veq v16 v20)) : Option Bool).bind fun b19 =>
 cond b19 (
 j9 v16 (lget a 1) (lget a 2) x1 x2 h18) none)) (
 some (0, [(lget a 1)], h))

theorem nulls_Spread_L8_eq (C : CF) (L : LF) (a : List Value) (h : H) : lpN E C L 93 8 Tryz.f93 a h = nulls_Spread_L8 C L a h := by kernel_rfl


/-- 45: armarium/column.best -/
noncomputable def column_best (C : CF) (L : LF) (a : List Value) (h : H) : Option (Value × H) :=
 (asI .i64 (lget a 0)).bind fun x1 =>
 (C 68 [(.int .i64 x1), (lget a 1)] h).bind fun p2 =>
 (tup2 p2.1).bind fun p3 =>
 let h4 := p2.2.new (.cells [(.string (bs [])), (.string (bs [])), (.string (bs [])), (.string (bs [])), (.string (bs []))] 127 true false)
 let h5 := h4.new (.cells [(.bool false), (.bool false), (.bool false), (.bool false), (.bool false)] 128 true false)
 (stV 5 h5 p2.2.next 0 p3.1).bind fun h6 =>
 (stV 5 h6 h4.next 0 p3.2).bind fun h7 =>
 (L 45 4 [(ptr p2.2.next 0), (ptr h4.next 0), (.int .i64 (0 : Int)), (.int .i64 (0 : Int))] h7).bind fun p8 =>
 (asP (lget p8.2.1 0)).bind fun p9 =>
 (asI .i64 (lget p8.2.1 1)).bind fun x10 =>
 cond (decide (0 ≤ x10) && decide (x10 < ((5 : Nat) : Int))) (
 (ldS p8.2.2 p9.1 (p9.2 + (Int.toNat x10) * 1)).bind fun s11 =>
 some (.tuple #[(.int .i64 x10), (.string s11)], p8.2.2)) none

theorem column_best_eq (C : CF) (L : LF) (a : List Value) (h : H) : fnK E C L 45 Tryz.f45 a h = column_best C L a h := by kernel_rfl

noncomputable def column_best_L4 (C : CF) (L : LF) (a : List Value) (h : H) : Option (Nat × List Value × H) :=
 (asP (lget a 0)).bind fun p1 =>
 (asP (lget a 1)).bind fun p2 =>
 (asI .i64 (lget a 2)).bind fun x3 =>
 (asI .i64 (lget a 3)).bind fun x4 =>
 cond (decide (x4 < (5 : Int))) (
 let j12 : Nat → Nat → Nat → Nat → Int → Int → H → Option (Nat × List Value × H) := fun (q5 : Nat) (q6 : Nat) (q7 : Nat) (q8 : Nat) (x9 : Int) (x10 : Int) (h11 : H) =>
 L 45 4 [(ptr q5 q6), (ptr q7 q8), (.int .i64 x9), (.int .i64 (IntKind.wrap .i64 (x10 + (1 : Int))))] h11
 cond (decide (0 ≤ x4) && decide (x4 < ((5 : Nat) : Int))) (
 (ldB h p2.1 (p2.2 + (Int.toNat x4) * 1)).bind fun b13 =>
 cond b13 (
 cond (x3 == (0 : Int)) (
 cond true (
 j12 p1.1 p1.2 p2.1 p2.2 x4 x4 h) (
 j12 p1.1 p1.2 p2.1 p2.2 x3 x4 h)) (
 cond (decide (0 ≤ x4) && decide (x4 < ((5 : Nat) : Int))) (
 (ldS h p1.1 (p1.2 + (Int.toNat x4) * 1)).bind fun s14 =>
 cond (decide (0 ≤ x3) && decide (x3 < ((5 : Nat) : Int))) (
 (ldS h p1.1 (p1.2 + (Int.toNat x3) * 1)).bind fun s15 =>
 cond (decide (((s14.size : Nat) : Int) < ((s15.size : Nat) : Int))) (
 j12 p1.1 p1.2 p2.1 p2.2 x4 x4 h) (
 j12 p1.1 p1.2 p2.1 p2.2 x3 x4 h)) none) none)) (
 cond false (
 j12 p1.1 p1.2 p2.1 p2.2 x4 x4 h) (
 j12 p1.1 p1.2 p2.1 p2.2 x3 x4 h))) none) (
 some (0, [(ptr p1.1 p1.2), (.int .i64 x3)], h))

theorem column_best_L4_eq (C : CF) (L : LF) (a : List Value) (h : H) : lpN E C L 45 4 Tryz.f45 a h = column_best_L4 C L a h := by kernel_rfl


/-- 64: armarium/diff.may -/
noncomputable def diff_may (C : CF) (L : LF) (a : List Value) (h : H) : Option (Value × H) :=
 (oneL (lget a 0).cells.toList).bind fun l2 =>
 let h1 := h.new (.cells l2 55 true false)
 (ldA 3 h1 h.next 0).bind fun v3 =>
 (bldS E 23 1 [(0, v3)]).bind fun l4 =>
 let h5 := h1.new (.cells l4 55 true false)
 (bldS E 35 1 [(0, (lget a 1))]).bind fun l6 =>
 let h7 := h5.new (.cells l6 41 true false)
 (bldT E 37 [(0, (.slice (some ⟨h1.next, 0, none⟩) 1 1)), (1, (.slice (some ⟨h5.next, 0, none⟩) 1 1))]).bind fun v8 =>
 (C 24 [v8] h7).bind fun p9 =>
 (asI .i64 p9.1).bind fun x10 =>
 some ((.bool (x10 != (30 : Int))), p9.2)

theorem diff_may_eq (C : CF) (L : LF) (a : List Value) (h : H) : fnK E C L 64 Tryz.f64 a h = diff_may C L a h := by kernel_rfl


/-- 6: armarium/diff.Encode -/
noncomputable def diff_Encode (C : CF) (L : LF) (a : List Value) (h : H) : Option (Value × H) :=
 (oneL (lget a 0).cells.toList).bind fun l2 =>
 let h1 := h.new (.cells l2 26 true false)
 (ldA 5 h1 h.next 0).bind fun v3 =>
 (C 13 [v3] h1).bind fun p4 =>
 (asI .i64 p4.1).bind fun x5 =>
 cond (x5 != (0 : Int)) (
 some (.tuple #[(.string (bs [])), (.int .i64 x5)], p4.2)) (
 let h6 := p4.2.new (.cells [(.slice none 0 0)] 61 true false)
 (ldV h6 h.next (0 + 0)).bind fun v7 =>
 (C 16 [v7] h6).bind fun p8 =>
 (asS p8.1).bind fun s9 =>
 (C 15 [(ptr p4.2.next 0), (.string s9)] p8.2).bind fun p10 =>
 (ldI .i64 p10.2 h.next (0 + 1)).bind fun x11 =>
 (C 17 [(ptr p4.2.next 0), (.int .u64 (IntKind.wrap .u64 x11))] p10.2).bind fun p12 =>
 (ldV p12.2 h.next (0 + 2)).bind fun v13 =>
 (C 16 [v13] p12.2).bind fun p14 =>
 (asS p14.1).bind fun s15 =>
 (C 15 [(ptr p4.2.next 0), (.string s15)] p14.2).bind fun p16 =>
 (ldI .i64 p16.2 h.next (0 + 3)).bind fun x17 =>
 (C 17 [(ptr p4.2.next 0), (.int .u64 (IntKind.wrap .u64 x17))] p16.2).bind fun p18 =>
 (ldV p18.2 h.next (0 + 4)).bind fun v19 =>
 (lenV v19).bind fun n20 =>
 (L 6 10 [(ptr h.next 0), (ptr p4.2.next 0), v19, (.int .i64 ((n20 : Nat) : Int)), (.int .i64 (0 : Int))] p18.2).bind fun p21 =>
 cond (p21.1 == 0) (
 (asP (lget p21.2.1 0)).bind fun p22 =>
 (C 20 [(ptr p22.1 p22.2)] p21.2.2).bind fun p23 =>
 (asS p23.1).bind fun s24 =>
 some (.tuple #[(.string s24), (.int .i64 (0 : Int))], p23.2)) (
 (asS (lget p21.2.1 0)).bind fun s25 =>
 (asI .i64 (lget p21.2.1 1)).bind fun x26 =>
 some (.tuple #[(.string s25), (.int .i64 x26)], p21.2.2)))

theorem diff_Encode_eq (C : CF) (L : LF) (a : List Value) (h : H) : fnK E C L 6 Tryz.f6 a h = diff_Encode C L a h := by kernel_rfl

noncomputable def diff_Encode_L10 (C : CF) (L : LF) (a : List Value) (h : H) : Option (Nat × List Value × H) :=
 (asP (lget a 0)).bind fun p1 =>
 (asP (lget a 1)).bind fun p2 =>
 (asI .i64 (lget a 3)).bind fun x3 =>
 (asI .i64 (lget a 4)).bind fun x4 =>
 cond (decide (x4 < x3)) (
 (idx 3 (lget a 2) x4).bind fun p5 =>
 (ldA 3 h p5.1 p5.2).bind fun v6 =>
 let h7 := h.new (.cells [(.bool false), (.slice none 0 0), (.slice none 0 0)] 43 true false)
 (stV 3 h7 h.next 0 v6).bind fun h8 =>
 (ldV h8 p1.1 (p1.2 + 2)).bind fun v9 =>
 (idx 3 v9 x4).bind fun p10 =>
 (ldA 3 h8 p10.1 p10.2).bind fun v11 =>
 let h12 := h8.new (.cells [(.string (bs [])), (.int .i64 (0)), (.bool false)] 55 true false)
 (stV 3 h12 h8.next 0 v11).bind fun h13 =>
 let j26 : Nat → Nat → Nat → Nat → Nat → Nat → Nat → Nat → Value → Int → Int → H → Option (Nat × List Value × H) := fun (q14 : Nat) (q15 : Nat) (q16 : Nat) (q17 : Nat) (q18 : Nat) (q19 : Nat) (q20 : Nat) (q21 : Nat) (v22 : Value) (x23 : Int) (x24 : Int) (h25 : H) =>
 (ldV h25 q18 (q19 + 1)).bind fun v27 =>
 (lenV v27).bind fun n28 =>
 (L 6 17 [(ptr q14 q15), (ptr q16 q17), (ptr q18 q19), (ptr q20 q21), (.int .i64 (0 : Int)), v22, (.int .i64 x23), (.int .i64 x24), v27, (.int .i64 ((n28 : Nat) : Int)), (.int .i64 (0 : Int))] h25).bind fun p29 =>
 (asP (lget p29.2.1 0)).bind fun p30 =>
 (asP (lget p29.2.1 1)).bind fun p31 =>
 (asP (lget p29.2.1 2)).bind fun p32 =>
 (asP (lget p29.2.1 3)).bind fun p33 =>
 (asI .i64 (lget p29.2.1 5)).bind fun x34 =>
 (asI .i64 (lget p29.2.1 6)).bind fun x35 =>
 (ldA 3 p29.2.2 p33.1 p33.2).bind fun v36 =>
 (ldV p29.2.2 p32.1 (p32.2 + 2)).bind fun v37 =>
 (C 19 [v36, v37] p29.2.2).bind fun p38 =>
 (tup2 p38.1).bind fun p39 =>
 (asS p39.1).bind fun s40 =>
 (asI .i64 p39.2).bind fun x41 =>
 cond (x41 != (0 : Int)) (
 some (1, [(.string (bs [])), (.int .i64 x41)], p38.2)) (
 (C 15 [(ptr p31.1 p31.2), (.string s40)] p38.2).bind fun p42 =>
 L 6 10 [(ptr p30.1 p30.2), (ptr p31.1 p31.2), (lget p29.2.1 4), (.int .i64 x34), (.int .i64 (IntKind.wrap .i64 (x35 + (1 : Int))))] p42.2)
 (ldB h13 h.next (0 + 0)).bind fun b43 =>
 cond b43 (
 (ldV h13 h.next (0 + 1)).bind fun v44 =>
 (lenV v44).bind fun n45 =>
 (C 17 [(ptr p2.1 p2.2), (.int .u64 (IntKind.wrap .u64 ((n45 : Nat) : Int)))] h13).bind fun p46 =>
 j26 p1.1 p1.2 p2.1 p2.2 h.next 0 h8.next 0 (lget a 2) x3 x4 p46.2) (
 j26 p1.1 p1.2 p2.1 p2.2 h.next 0 h8.next 0 (lget a 2) x3 x4 h13)) (
 some (0, [(ptr p2.1 p2.2)], h))

theorem diff_Encode_L10_eq (C : CF) (L : LF) (a : List Value) (h : H) : lpN E C L 6 10 Tryz.f6 a h = diff_Encode_L10 C L a h := by kernel_rfl

noncomputable def diff_Encode_L17 (C : CF) (L : LF) (a : List Value) (h : H) : Option (Nat × List Value × H) :=
 (asP (lget a 0)).bind fun p1 =>
 (asP (lget a 1)).bind fun p2 =>
 (asP (lget a 2)).bind fun p3 =>
 (asP (lget a 3)).bind fun p4 =>
 (asI .i64 (lget a 4)).bind fun x5 =>
 (asI .i64 (lget a 6)).bind fun x6 =>
 (asI .i64 (lget a 7)).bind fun x7 =>
 (asI .i64 (lget a 9)).bind fun x8 =>
 (asI .i64 (lget a 10)).bind fun x9 =>
 cond (decide (x9 < x8)) (
 (idx 7 (lget a 8) x9).bind fun p10 =>
 (ldA 7 h p10.1 p10.2).bind fun v11 =>
 let h12 := h.new (.cells [(.int .i64 (0)), (.bool false), (.bool false), (.int .i64 (0)), (.int .u64 (0)), (.string (bs [])), (.complex .f64 0 0)] 49 true false)
 (stV 7 h12 h.next 0 v11).bind fun h13 =>
 (ldI .i64 h13 p4.1 (p4.2 + 1)).bind fun x14 =>
 (ldI .i64 h13 h.next (0 + 0)).bind fun x15 =>
 (ldA 6 h13 h.next (0 + 1)).bind fun v16 =>
 (C 18 [(ptr p2.1 p2.2), (.int .i64 x14), (.int .i64 (IntKind.wrap .i64 (x15 - x5))), v16] h13).bind fun p17 =>
 (ldI .i64 p17.2 h.next (0 + 0)).bind fun x18 =>
 L 6 17 [(ptr p1.1 p1.2), (ptr p2.1 p2.2), (ptr p3.1 p3.2), (ptr p4.1 p4.2), (.int .i64 (IntKind.wrap .i64 (x18 + (1 : Int)))), (lget a 5), (.int .i64 x6), (.int .i64 x7), (lget a 8), (.int .i64 x8), (.int .i64 (IntKind.wrap .i64 (x9 + (1 : Int))))] p17.2) (
 some (0, [(ptr p1.1 p1.2), (ptr p2.1 p2.2), (ptr p3.1 p3.2), (ptr p4.1 p4.2), (lget a 5), (.int .i64 x6), (.int .i64 x7)], h))

theorem diff_Encode_L17_eq (C : CF) (L : LF) (a : List Value) (h : H) : lpN E C L 6 17 Tryz.f6 a h = diff_Encode_L17 C L a h := by kernel_rfl


/-- 49: armarium/armariumref06.Cell -/
noncomputable def armariumref06_Cell (C : CF) (L : LF) (a : List Value) (h : H) : Option (Value × H) :=
 (oneL (lget a 0).cells.toList).bind fun l2 =>
 let h1 := h.new (.cells l2 55 true false)
 (oneL (lget a 1).cells.toList).bind fun l4 =>
 let h3 := h1.new (.cells l4 47 true false)
 (ldB h3 h1.next (0 + 0)).bind fun b5 =>
 ((cond b5
 ((ldB h3 h.next (0 + 2)).bind fun b6 =>
 some ((!b6), h3))
 (some (false, h3))) : Option (Bool × H)).bind fun p7 =>
 cond p7.1 (
 some ((.bool false), p7.2)) (
 (ldI .i64 p7.2 h.next (0 + 1)).bind fun x8 =>
 ((cond (x8 == (5 : Int))
 ((ldS p7.2 h1.next (0 + 4)).bind fun s9 =>
 (C 47 [(.string s9)] p7.2).bind fun p10 =>
 (asB p10.1).bind fun b11 =>
 some ((!b11), p10.2))
 (some (false, p7.2))) : Option (Bool × H)).bind fun p12 =>
 cond p12.1 (
 some ((.bool false), p12.2)) (
 (ldI .i64 p12.2 h.next (0 + 1)).bind fun x13 =>
 ((cond (x13 == (6 : Int))
 ((ldV p12.2 h1.next (0 + 5)).bind fun v14 =>
 (realV v14).bind fun v15 =>
 (C 70 [v15] p12.2).bind fun p16 =>
 (asB p16.1).bind fun b17 =>
 ((cond (!b17)
 (some (true, p16.2))
 ((ldV p16.2 h1.next (0 + 5)).bind fun v18 =>
 (imagV v18).bind fun v19 =>
 (C 70 [v19] p16.2).bind fun p20 =>
 (asB p20.1).bind fun b21 =>
 some ((!b21), p20.2))) : Option (Bool × H)).bind fun p22 =>
 some (p22.1, p22.2))
 (some (false, p12.2))) : Option (Bool × H)).bind fun p23 =>
 cond p23.1 (
 some ((.bool false), p23.2)) (
 (ldB p23.2 h1.next (0 + 0)).bind fun b24 =>
 ((cond b24
 (some (true, p23.2))
 ((ldI .i64 p23.2 h.next (0 + 1)).bind fun x25 =>
 some ((x25 != (1 : Int)), p23.2))) : Option (Bool × H)).bind fun p26 =>
 ((cond p26.1
 ((ldB p26.2 h1.next (0 + 1)).bind fun b27 =>
 some (b27, p26.2))
 (some (false, p26.2))) : Option (Bool × H)).bind fun p28 =>
 cond p28.1 (
 some ((.bool false), p28.2)) (
 (ldB p28.2 h1.next (0 + 0)).bind fun b29 =>
 ((cond b29
 (some (true, p28.2))
 ((ldI .i64 p28.2 h.next (0 + 1)).bind fun x30 =>
 some ((x30 != (2 : Int)), p28.2))) : Option (Bool × H)).bind fun p31 =>
 ((cond p31.1
 ((ldI .i64 p31.2 h1.next (0 + 2)).bind fun x32 =>
 some ((x32 != (0 : Int)), p31.2))
 (some (false, p31.2))) : Option (Bool × H)).bind fun p33 =>
 cond p33.1 (
 some ((.bool false), p33.2)) (
 (ldB p33.2 h1.next (0 + 0)).bind fun b34 =>
 ((cond b34
 (some (true, p33.2))
 ((ldI .i64 p33.2 h.next (0 + 1)).bind fun x35 =>
 some ((x35 != (3 : Int)), p33.2))) : Option (Bool × H)).bind fun p36 =>
 ((cond p36.1
 ((ldI .u64 p36.2 h1.next (0 + 3)).bind fun x37 =>
 some ((x37 != (0 : Int)), p36.2))
 (some (false, p36.2))) : Option (Bool × H)).bind fun p38 =>
 cond p38.1 (
 some ((.bool false), p38.2)) (
 (ldB p38.2 h1.next (0 + 0)).bind fun b39 =>
 ((cond b39
 (some (true, p38.2))
 ((ldI .i64 p38.2 h.next (0 + 1)).bind fun x40 =>
 ((cond (x40 != (4 : Int))
 ((ldI .i64 p38.2 h.next (0 + 1)).bind fun x41 =>
 some ((x41 != (5 : Int)), p38.2))
 (some (false, p38.2))) : Option (Bool × H)).bind fun p42 =>
 some (p42.1, p42.2))) : Option (Bool × H)).bind fun p43 =>
 ((cond p43.1
 ((ldS p43.2 h1.next (0 + 4)).bind fun s44 =>
 some ((!(seq s44 (bs []))), p43.2))
 (some (false, p43.2))) : Option (Bool × H)).bind fun p45 =>
 cond p45.1 (
 some ((.bool false), p45.2)) (
 (ldB p45.2 h1.next (0 + 0)).bind fun b46 =>
 ((cond (!b46)
 ((ldI .i64 p45.2 h.next (0 + 1)).bind fun x47 =>
 some ((x47 == (6 : Int)), p45.2))
 (some (false, p45.2))) : Option (Bool × H)).bind fun p48 =>
 ((cond p48.1
 (some (true, p48.2))
 ((ldV p48.2 h1.next (0 + 5)).bind fun v49 =>
 (fop .eql v49 (.complex .f64 0 0)).bind fun v50 =>
 (asB v50).bind fun b51 =>
 some (b51, p48.2))) : Option (Bool × H)).bind fun p52 =>
 some ((.bool p52.1), p52.2))))))))

theorem armariumref06_Cell_eq (C : CF) (L : LF) (a : List Value) (h : H) : fnK E C L 49 Tryz.f49 a h = armariumref06_Cell C L a h := by kernel_rfl


end Go.Arm
