/- lemmalaw texts, part 28. -/
import Derived.Test.YtdhkmfpfbjcdiaaGreatDoorYba
set_option maxRecDepth 100000
set_option linter.unusedVariables false
set_option linter.unusedSimpArgs false
set_option maxHeartbeats 32000000
namespace Go.Proofs.YtdhkmfpfbjcdiaaGreatDoor
open Go.RowKit
theorem exprGo_at (L : Ld) (ws : List Tk) (e : List Int) (k : Nat) (hk : k < ws.length) : L.exprGo (ws.drop k) e = if e.length = 200 then .error (ws[k], 31) else (L.symbol ws[k]).bind fun n =>
  if L.tbl.isVar n = true then (if e = [] then .error (ws[k], 72) else if (typeS L.scs n).isSome then L.exprGo (ws.drop (k + 1)) (e ++ [n]) else .error (ws[k], 70))
  else L.exprGo (ws.drop (k + 1)) (e ++ [n]) := by
 rw [List.drop_eq_getElem_cons hk, Ld.exprGo]
def ExprI (w : World) (L : Ld) (ws : List Tk) (v u : Value) (W : World) : Prop :=
 ∃ (k : Nat) (e : List Int), k ≤ ws.length ∧ u = .int .i64 k ∧ e.length = k ∧ Row W 3 1 v e.length (intCells e) ∧ FreshB w v ∧ Same [] w W ∧ L.exprGo ws [] = L.exprGo (ws.drop k) e
theorem expr_calls (w : World) (l nb t s : Nat) (TA : TA) (A : SA) (M : List Nat) (L : Ld) (h : LR w l nb t s TA A M L.tbl L.scs) (va : Value) (ws : List Tk) (hw : Row w 54 4 va ws.length (tkCells ws)) (hn : ws.length ≤ 1000000) :
  Calls Tryz.prog 76 #[.pointer (some ⟨l, 0, none⟩), va] w (IntsX (L.exprGo ws []) w) := by
 obtain ⟨Aw, cw, rfl⟩ := hw.shape
 have H := Kd h
 have Hw := Kd hw
 clear h hw
 go_enter Tryz.func76, Tryz.ntmps76
 go_wp2
 have h0 : ExprI w L ws (.slice none 0 0) (.int .i64 0) w := ⟨0, [], Nat.zero_le _, rfl, rfl, World.ownsRow_nil _ _ _ _, by simp [FreshB, Value.ownBlock], Same.refl _ _, rfl⟩
 have H0 := Kd h0
 clear h0
 go_loopw [5, 13] (fun v u wr => ExprI w L ws v u wr) (fun _ u _ => ws.length - (intOf u).toNat)
 case atStart => exact H0.out
 case round =>
  obtain ⟨k, e, hk, rfl, hek, hrow, hfr, hsm, heq⟩ := hrel
  by_cases hlt : k < ws.length
  ·have hstep := exprGo_at L ws e k hlt
   obtain ⟨g, c, hv, t0, t1, t2, t3, hgl⟩ := tk_elem (Hw.out.same hsm (by simp)) hlt
   cases hv
   have hR := H.out.same hsm
   have l0 := hR.lt.l0
   have n2 := hR.lt.n2
   have l1 := hR.l1
   have ll := World.block_lt_of_cell? _ _ l0
   have nl := World.block_lt_of_cell? _ _ n2
   have hsy := fun (W : World) (hW : Same [] wr W) => symbol_calls W l nb t TA L.tbl (hR.lt.same hW) ws[k]
   have hiv := fun (W : World) (hW : Same [] wr W) (y : Int) => isVar_at hR.lt.tbl W hW y
   have hty := fun (W : World) (hW : Same [] wr W) (v : Int) => Type_calls W s t A M L.scs (hR.stk.same hW) hR.small v
   have hst := fun W n => stop_calls W ws[k] n
   unfold tkV at hsy hst
   unfold TypeR at hty
   by_cases h200 : k = 200
   ·rw [if_pos (by omega)] at hstep
    have hkz : ((k : Int) == 200) = true := by rw [beq_iff_eq]; omega
    clear h200 hek
    have Hres := Kd (heq.trans hstep)
    obtain ⟨Av, cv, rfl⟩ := hrow.shape
    have Hsm := Kd hsm
    clear hstep heq hrow hfr hsm hR H0 hiv hty hsy
    go_wp2_with (go_at_call 68; go_must (refine (hst _ 31).mono ?_; rintro e w' ⟨b, rfl, hf, hs⟩))
    refine ⟨rfl, ?_⟩
    rw [Hres.out]
    exact ⟨b, rfl, hf, (Hsm.out.trans (Same.alloc _ _ _)).trans hs⟩
   ·rw [if_neg (by omega)] at hstep
    have hkz : ((k : Int) == 200) = false := by rw [beq_eq_false_iff_ne]; omega
    cases ha : aget ws[k].text L.tbl.active with
    | none =>
     rw [symbol_none ha, bind_error] at hstep
     rw [ha] at hsy
     have Hres := Kd (heq.trans hstep)
     obtain ⟨Av, cv, rfl⟩ := hrow.shape
     have Hsm := Kd hsm
     unfold SymR at hsy
     clear hstep ha heq hrow hfr hsm hR H0 hiv hst hty
     go_wp2_with (go_at_call 130; go_must (refine (hsy _ (Same.alloc _ _ _)).mono ?_; rintro e w' ⟨b, rfl, hf, hs⟩))
     refine ⟨rfl, ?_⟩
     rw [Hres.out]
     exact ⟨b, rfl, hf, (Hsm.out.trans (Same.alloc _ _ _)).trans hs⟩
    | some n =>
     rw [symbol_some ha, bind_okk] at hstep
     rw [ha] at hsy
     unfold SymR at hsy
     dsimp only at hsy
     cases hv : L.tbl.isVar n with
     | false =>
      rw [if_neg (by rw [hv]; decide)] at hstep
      have Hres := Kd (heq.trans hstep)
      obtain ⟨Av, cv, rfl⟩ := hrow.shape
      have hel : e.length ≤ 1000000 := by omega
      have Hrow := Kd hrow
      have Hfr := Kd hfr
      have Hsm := Kd hsm
      have Hv := Kd hv
      have Hek := Kd hek
      clear hstep ha heq hrow hfr hsm hR H0 hst hty hv hek
      go_wp2_with (first
       | (go_at_call 130; go_must (refine (hsy _ (Same.alloc _ _ _)).mono ?_; rintro e1 W1 ⟨rfl, hs1⟩; have hB1 := hs1.get (blk_new wr _) (by simp); obtain ⟨k0, k1, k2, k3, kf⟩ := blk4 hB1; have hs01 := (Same.alloc [] wr (Obj.cells #[.string ws[k].text, .int .i64 ws[k].at_.off, .int .i64 ws[k].at_.line, .int .i64 ws[k].at_.col] 54)).trans hs1; have l01 := hs01.cell l0 (by simp); have n21 := hs01.cell n2 (by simp); have l11 := hs01.cell l1 (by simp); have bl1 := blk_lt hB1; have ll1 := Nat.lt_of_lt_of_le ll hs01.size; have nl1 := Nat.lt_of_lt_of_le nl hs01.size; have Hs01 := Kd hs01; clear hs1 hB1 hs01))
       | (go_at_call 27; go_must (refine (hiv _ Hs01.out _).mono ?_; rintro e' W2 ⟨rfl, hw2⟩; obtain rfl := hw2; rw [Hv.out]))
       | (at_builtin; refine wp_push (W := W1) rfl _ _ 31 rfl 3 1 8 _ Tryz.underlying31 Tryz.infoInt' rfl (by decide) (.slice Av e.length cv) _ _ rfl (Hrow.out.same Hs01.out (by simp)) [.int .i64 n] rfl rfl (by simp [Value.oneCell']) (by omega) (by decide) ?_; go_must (intro v6 W6 hr6 hs6 ho6; obtain ⟨A6, c6, rfl⟩ := hr6.shape; have Hr6 := Kd hr6; have Hs6 := Kd hs6; have Ho6 := Kd ho6; clear hr6 hs6 ho6)))
      go_roundw
      case rel =>
       refine ⟨k + 1, e ++ [(n : Int)], hlt, by go_num, by rw [List.length_append, Hek.out]; rfl, by rw [intCells_snoc, List.length_append]; exact Hr6.out, Hfr.out.next (Nat.le_trans Hsm.out.size Hs01.out.size) Ho6.out, (Hsm.out.trans Hs01.out).then Hs6.out fun c hc => .inr (Hfr.out c (Option.mem_toList.1 hc)), Hres.out⟩
      case measure => simp [intOf]; omega
     | true =>
      rw [if_pos hv] at hstep
      rcases Nat.eq_zero_or_pos k with hk0 | hkp
      ·have he0 : e = [] := List.eq_nil_of_length_eq_zero (by omega)
       rw [if_pos he0] at hstep
       have hk0' : ((k : Int) == 0) = true := by rw [beq_iff_eq]; omega
       clear hk0 hek
       have Hres := Kd (heq.trans hstep)
       obtain ⟨Av, cv, rfl⟩ := hrow.shape
       have Hsm := Kd hsm
       have Hv := Kd hv
       clear hstep ha heq hrow hfr hsm hR H0 hty hv he0
       go_wp2_with (first
        | (go_at_call 130; go_must (refine (hsy _ (Same.alloc _ _ _)).mono ?_; rintro e1 W1 ⟨rfl, hs1⟩; have hB1 := hs1.get (blk_new wr _) (by simp); obtain ⟨k0, k1, k2, k3, kf⟩ := blk4 hB1; have hs01 := (Same.alloc [] wr (Obj.cells #[.string ws[k].text, .int .i64 ws[k].at_.off, .int .i64 ws[k].at_.line, .int .i64 ws[k].at_.col] 54)).trans hs1; have l01 := hs01.cell l0 (by simp); have n21 := hs01.cell n2 (by simp); have l11 := hs01.cell l1 (by simp); have bl1 := blk_lt hB1; have ll1 := Nat.lt_of_lt_of_le ll hs01.size; have nl1 := Nat.lt_of_lt_of_le nl hs01.size; have Hs01 := Kd hs01; clear hs1 hB1 hs01))
        | (go_at_call 27; go_must (refine (hiv _ Hs01.out _).mono ?_; rintro e' W2 ⟨rfl, hw2⟩; obtain rfl := hw2; rw [Hv.out]))
        | (go_at_call 68; go_must (refine (hst _ 72).mono ?_; rintro e w' ⟨b, rfl, hf, hs⟩)))
       refine ⟨rfl, ?_⟩
       rw [Hres.out]
       exact ⟨b, rfl, hf, (Hsm.out.trans Hs01.out).trans hs⟩
      ·have hne : e ≠ [] := by intro he; subst he; simp at hek; omega
       rw [if_neg hne] at hstep
       have hk0' : ((k : Int) == 0) = false := by rw [beq_eq_false_iff_ne]; omega
       cases hts : typeS L.scs (n : Int) with
       | none =>
        rw [hts, Option.isSome_none, if_neg (by decide)] at hstep
        have htn := fun W hW => hty W hW (n : Int)
        simp only [hts, Option.getD, Option.isSome] at htn
        have Hres := Kd (heq.trans hstep)
        obtain ⟨Av, cv, rfl⟩ := hrow.shape
        have Hsm := Kd hsm
        have Hv := Kd hv
        clear hstep ha heq hrow hfr hsm hR H0 hts hty hv hne
        go_wp2_with (first
         | (go_at_call 130; go_must (refine (hsy _ (Same.alloc _ _ _)).mono ?_; rintro e1 W1 ⟨rfl, hs1⟩; have hB1 := hs1.get (blk_new wr _) (by simp); have hs01 := (Same.alloc [] wr (Obj.cells #[.string ws[k].text, .int .i64 ws[k].at_.off, .int .i64 ws[k].at_.line, .int .i64 ws[k].at_.col] 54)).trans hs1; have l01 := hs01.cell l0 (by simp); have n21 := hs01.cell n2 (by simp); have l11 := hs01.cell l1 (by simp); have HB1 := Kd hB1; have ll1 := Nat.lt_of_lt_of_le ll hs01.size; have nl1 := Nat.lt_of_lt_of_le nl hs01.size; have Hs01 := Kd hs01; clear hs1 hB1 hs01))
         | (go_at_call 27; go_must (refine (hiv _ Hs01.out _).mono ?_; rintro e' W2 ⟨rfl, hw2⟩; obtain rfl := hw2; rw [Hv.out]))
         | (go_at_call 131; go_must (refine (htn _ Hs01.out).mono ?_; rintro e' W2 ⟨rfl, hs2⟩; have hB2 := hs2.get HB1.out (by simp); obtain ⟨k0, k1, k2, k3, kf⟩ := blk4 hB2; have bl2 := blk_lt hB2; have Hs2 := Kd (Hs01.out.trans hs2); clear hs2 hB2))
         | (go_at_call 68; go_must (refine (hst _ 70).mono ?_; rintro e w' ⟨b, rfl, hf, hs⟩)))
        refine ⟨rfl, ?_⟩
        rw [Hres.out]
        exact ⟨b, rfl, hf, (Hsm.out.trans Hs2.out).trans hs⟩
       | some x =>
        rw [hts, Option.isSome_some, if_pos rfl] at hstep
        have htn := fun W hW => hty W hW (n : Int)
        simp only [hts, Option.getD, Option.isSome] at htn
        have Hres := Kd (heq.trans hstep)
        obtain ⟨Av, cv, rfl⟩ := hrow.shape
        have hel : e.length ≤ 1000000 := by omega
        have Hrow := Kd hrow
        have Hfr := Kd hfr
        have Hsm := Kd hsm
        have Hv := Kd hv
        have Hek := Kd hek
        clear hstep ha heq hrow hfr hsm hR H0 hst hts hty hv hne hek
        go_wp2_with (first
         | (go_at_call 130; go_must (refine (hsy _ (Same.alloc _ _ _)).mono ?_; rintro e1 W1 ⟨rfl, hs1⟩; have hB1 := hs1.get (blk_new wr _) (by simp); have hs01 := (Same.alloc [] wr (Obj.cells #[.string ws[k].text, .int .i64 ws[k].at_.off, .int .i64 ws[k].at_.line, .int .i64 ws[k].at_.col] 54)).trans hs1; have l01 := hs01.cell l0 (by simp); have n21 := hs01.cell n2 (by simp); have l11 := hs01.cell l1 (by simp); have HB1 := Kd hB1; have ll1 := Nat.lt_of_lt_of_le ll hs01.size; have nl1 := Nat.lt_of_lt_of_le nl hs01.size; have Hs01 := Kd hs01; clear hs1 hB1 hs01))
         | (go_at_call 27; go_must (refine (hiv _ Hs01.out _).mono ?_; rintro e' W2 ⟨rfl, hw2⟩; obtain rfl := hw2; rw [Hv.out]))
         | (go_at_call 131; go_must (refine (htn _ Hs01.out).mono ?_; rintro e' W3 ⟨rfl, hs2⟩; have Hs2 := Kd (Hs01.out.trans hs2); clear hs2))
         | (at_builtin; refine wp_push (W := W3) rfl _ _ 31 rfl 3 1 8 _ Tryz.underlying31 Tryz.infoInt' rfl (by decide) (.slice Av e.length cv) _ _ rfl (Hrow.out.same Hs2.out (by simp)) [.int .i64 n] rfl rfl (by simp [Value.oneCell']) (by omega) (by decide) ?_; go_must (intro v6 W6 hr6 hs6 ho6; obtain ⟨A6, c6, rfl⟩ := hr6.shape; have Hr6 := Kd hr6; have Hs6 := Kd hs6; have Ho6 := Kd ho6; clear hr6 hs6 ho6)))
        go_roundw
        case rel =>
         refine ⟨k + 1, e ++ [(n : Int)], hlt, by go_num, by rw [List.length_append, Hek.out]; rfl, by rw [intCells_snoc, List.length_append]; exact Hr6.out, Hfr.out.next (Nat.le_trans Hsm.out.size Hs2.out.size) Ho6.out, (Hsm.out.trans Hs2.out).then Hs6.out fun c hc => .inr (Hfr.out c (Option.mem_toList.1 hc)), Hres.out⟩
        case measure => simp [intOf]; omega
  ·have hkk : k = ws.length := by omega
   subst hkk
   rw [List.drop_length, Ld.exprGo] at heq
   obtain ⟨Av, cv, rfl⟩ := hrow.shape
   have Heq := Kd heq
   have Hrow := Kd hrow
   have Hfr := Kd hfr
   have Hsm := Kd hsm
   clear heq hrow hfr hsm H0
   go_wp2
   go_ret
   rw [Heq.out]
   exact ⟨.slice Av e.length cv, rfl, Hrow.out, Hsm.out, Hfr.out⟩
theorem KMap.ne_row {α : Type} {enc : α → Value} {w : World} {b : Nat} {l : List (α × Value)} (h : KMap enc w b l) {e k n : Nat} {v : Value} {xs : List Value} (hr : Row w e k v n xs) : v.ownBlock ≠ some b := by
 obtain ⟨es, cl, hb, _⟩ := h
 exact hr.ne_map hb
def trueMap (ps : List Pr) : List (Pr × Value) := ps.map fun p => (p, .bool true)
theorem trueMap_put (p : Pr) : ∀ ps : List Pr, aput p (.bool true) (trueMap ps) = trueMap (addKey ps p)
 | [] => by simp [trueMap, aput, addKey]
 | q :: r => by
  have ih := trueMap_put p r
  unfold trueMap addKey at ih ⊢
  rw [List.map_cons, aput]
  by_cases h : p = q
  ·subst h
   rw [if_pos rfl, if_pos (List.mem_cons_self ..)]
   rfl
  ·rw [if_neg h, ih]
   by_cases hm : p ∈ r
   ·rw [if_pos hm, if_pos (List.mem_cons_of_mem _ hm)]; rfl
   ·rw [if_neg hm, if_neg (fun hc => (List.mem_cons.1 hc).elim h hm)]; rfl
theorem Contains_calls (va : Value) (l : List Int) (w : World) (he : Row w 3 1 va l.length (intCells l)) (hn : l.length ≤ 1000000) (x : Int) : Calls Tryz.prog 122 #[va, .int .i64 x] w fun e w' => e = .returned (.bool (l.contains x)) ∧ w' = w := by
 rcases Nat.eq_zero_or_pos l.length with h0 | hp
 ·obtain ⟨a, c, rfl⟩ := he.shape
  have hl : l = [] := List.eq_nil_of_length_eq_zero h0
  subst hl
  exact Tryz.slices_Contains_int_empty a c x w
 ·obtain ⟨g, c, rfl, -, -⟩ := ints_cell he hp
  have := Tryz.slices_Contains_int g 0 l.length c l x w (Nat.le_refl _) (by omega) (fun j hj => by
   obtain ⟨g', c', hv, h1, -⟩ := ints_cell he hj
   cases hv
   rw [Nat.zero_add, h1]
   simp [List.getD_eq_getElem?_getD, hj])
  rw [List.take_length] at this
  exact this
theorem apartGo_at (L : Ld) (ws : List Tk) (v : List Int) (ps : List Pr) (k : Nat) (hk : k < ws.length) : L.apartGo (ws.drop k) v ps = (varX L.tbl ws[k]).bind fun n => if v.contains n = true then .error (ws[k], 50) else
  if 256 < ((unionP (withP v n) []).foldl addKey ps).length then .error (ws[k], 22) else L.apartGo (ws.drop (k + 1)) (v ++ [n]) ((unionP (withP v n) []).foldl addKey ps) := by
 rw [List.drop_eq_getElem_cons hk, Ld.apartGo, varX_eq]
 rfl
theorem Tryz.scopePairs (A B : Option Addr) (n c m d : Nat) (w : World) : (Instr.field 49 (.agg #[.slice A n c, .slice B m d]) 1).run Tryz.prog w = .ok (.slice B m d) w := by kernel_rfl
def Apart1 (w : World) (b : Nat) (P : List Pr) (u : Value) (W : World) : Prop := ∃ k : Nat, k ≤ P.length ∧ u = .int .i64 k ∧ KMap prV W b (trueMap ((P.take k).foldl addKey [])) ∧ Same [] w W
def Apart2 (w : World) (b : Nat) (L : Ld) (ws : List Tk) (ps0 : List Pr) (v u : Value) (W : World) : Prop :=
 ∃ (k : Nat) (vl : List Int) (ps : List Pr), k ≤ ws.length ∧ u = .int .i64 k ∧ vl.length = k ∧ Row W 3 1 v vl.length (intCells vl) ∧ FreshB w v ∧ KMap prV W b (trueMap ps) ∧ Same [] w W ∧ L.apartGo ws [] ps0 = L.apartGo (ws.drop k) vl ps
def Apart3 (W4 : World) (b : Nat) (N ps : List Pr) (u : Value) (W : World) : Prop := ∃ j : Nat, j ≤ N.length ∧ u = .int .i64 j ∧ KMap prV W b (trueMap ((N.take j).foldl addKey ps)) ∧ Same [b] W4 W
theorem foldA_take (N ps : List Pr) {j : Nat} (hj : j < N.length) : (N.take (j + 1)).foldl addKey ps = addKey ((N.take j).foldl addKey ps) N[j] := by
 rw [List.take_succ_eq_append_getElem hj, List.foldl_append]
 rfl
theorem lapart_calls (w : World) (l nb t s : Nat) (TA : TA) (A : SA) (M : List Nat) (L : Ld) (h : LR w l nb t s TA A M L.tbl L.scs) (va : Value) (ws : List Tk) (hw : Row w 54 4 va ws.length (tkCells ws)) (hn : ws.length ≤ 20000) :
  Calls Tryz.prog 71 #[.pointer (some ⟨l, 0, none⟩), va] w (IntsX (L.apart ws) w) := by
 have hmm := @run_makeMap Tryz.prog
 have hfd := Tryz.scopePairs
 obtain ⟨Aw, cw, rfl⟩ := hw.shape
 have hsc := fun (W : World) (hW : Same [] w W) => Scope_calls W s t A M L.scs (h.stk.same hW) h.small
 have hal : (activeS L.scs).length ≤ 17000 := active_len h.small h.stk.len
 have l0 := h.lt.l0
 have n2 := h.lt.n2
 have l1 := h.l1
 have ll := World.block_lt_of_cell? _ _ l0
 have H := Kd h
 have Hw := Kd hw
 clear h hw
 go_enter Tryz.func71, Tryz.ntmps71
 go_wp2_with (go_at_call 120; go_must (refine (hsc _ (Same.alloc [] _ _)).mono ?_; rintro e1 W1 ⟨hv1, pv1, evs1, rfl, hh1, hf1, hfe1, hr1, hfp1, hs1⟩; obtain ⟨A1, c1, rfl⟩ := hr1.shape; obtain ⟨A1', c1', rfl⟩ := hh1.row.shape; have hm1 := (KMap.new prV w 0).same hs1 (by simp); have Hs1 := Kd ((Same.alloc [] w (.map #[] 0)).trans hs1); have Hr1 := Kd hr1; have Hm1 := Kd hm1; clear hh1 hf1 hfe1 hr1 hfp1 hs1 hm1 hsc))
 have h0 : Apart1 w w.heap.size (activeS L.scs) (.int .i64 0) W1 := ⟨0, Nat.zero_le _, rfl, Hm1.out, Hs1.out⟩
 have H0 := Kd h0
 clear h0
 go_loopw [22] (fun u wr => Apart1 w w.heap.size (activeS L.scs) u wr ∧ Row wr 113 2 (.slice A1 (activeS L.scs).length c1) (activeS L.scs).length (prCells (activeS L.scs))) (fun u _ => (activeS L.scs).length - (intOf u).toNat)
 case atStart => exact ⟨H0.out, Hr1.out⟩
 case round =>
  obtain ⟨⟨k, hk, rfl, hset, hsm⟩, hrow⟩ := hrel
  by_cases hlt : k < (activeS L.scs).length
  ·obtain ⟨g, c, hv, hcell⟩ := hrow.elem (i := k) hlt (ys := encPr (activeS L.scs)[k]) rfl (prCells_at _ k hlt) (by decide)
   have t0 := (hcell 0 (by decide)).1
   have t1 := (hcell 1 (by decide)).1
   simp only [encPr, List.getD_cons_zero, List.getD_cons_succ, Nat.add_zero] at t0 t1
   have Hset := Kd hset
   have Hsm := Kd hsm
   have Hrow := Kd hrow
   cases hv
   have hgl := World.block_lt_of_cell? _ _ t0
   clear hset hsm hcell hrow H0
   go_wp2_with (at_mapUpdate; go_must (refine wp_kput prKey (Hset.out.same (Same.alloc [] wr (.cells #[.int .i64 (activeS L.scs)[k].1, .int .i64 (activeS L.scs)[k].2] 113)) (by simp)) Tryz.underlying205 rfl _ _ _ rfl (activeS L.scs)[k] (.bool true) rfl rfl rfl ?_; intro W2 h2 hs2; have H2 := Kd h2; have Hs2 := Kd hs2; clear h2 hs2))
   go_roundw
   case rel =>
    refine ⟨⟨k + 1, hlt, by go_num, ?_, (Hsm.out.trans (Same.alloc _ _ _)).then Hs2.out fun x hx => .inr (by simp at hx; omega)⟩, (Hrow.out.same (Same.alloc [] _ _) (by simp)).same Hs2.out fun c hc hm => ?_⟩
    ·have := H2.out
     rw [trueMap_put] at this
     rw [foldA_take _ _ hlt]
     exact this
    ·have := List.mem_singleton.1 hm
     subst this
     exact Hset.out.ne_row Hrow.out hc
   case measure => simp [intOf]; omega
  ·have hkk : k = (activeS L.scs).length := by omega
   subst hkk
   rw [List.take_length] at hset
   obtain ⟨ps0, hps0⟩ : ∃ ps0, (activeS L.scs).foldl addKey [] = ps0 := ⟨_, rfl⟩
   rw [hps0] at hset
   have Hps0 := Kd hps0
   have hwz : w.heap.size < wr.heap.size := hset.lt
   have h2 : Apart2 w w.heap.size L ws ps0 (.slice none 0 0) (.int .i64 0) wr := ⟨0, [], ps0, Nat.zero_le _, rfl, rfl, World.ownsRow_nil _ _ _ _, by simp [FreshB, Value.ownBlock], hset, hsm, rfl⟩
   have H2 := Kd h2
   clear h2 hset hsm hrow H0 hps0
   go_wp2
   go_loopw [5, 31] (fun v u wr => Apart2 w w.heap.size L ws ps0 v u wr) (fun _ u _ => ws.length - (intOf u).toNat)
   case atStart => exact H2.out
   case round =>
    obtain ⟨k, vl, ps, hk, rfl, hvk, hrow, hfr, hset, hsm, heq⟩ := hrel
    by_cases hlt : k < ws.length
    ·have hstep := apartGo_at L ws vl ps k hlt
     obtain ⟨g, c, hv, t0, t1, t2, t3, hgl⟩ := tk_elem (Hw.out.same hsm (by simp)) hlt
     cases hv
     have hR := H.out.same hsm
     have hvr := fun (W : World) (hW : Same [] wr W) => variable_calls W l nb t TA L.tbl (hR.lt.same hW) ws[k]
     have hst := fun W n => stop_calls W ws[k] n
     have hcn := fun (W : World) (hW : Same [] wr W) (n : Int) => Contains_calls _ vl W (hrow.same hW (by simp)) (by omega) n
     have hwi := fun (W : World) (hW : Same [] wr W) (n : Int) => with_calls W _ vl (hrow.same hW (by simp)) n (by omega)
     unfold tkV at hvr hst
     have hvln : vl.length ≤ 20000 := by omega
     cases ha : varX L.tbl ws[k] with
     | error p =>
      obtain ⟨tk, en⟩ := p
      rw [ha, bind_error] at hstep
      rw [ha] at hvr
      have Hres := Kd (heq.trans hstep)
      obtain ⟨Av, cv, rfl⟩ := hrow.shape
      have Hsm := Kd hsm
      unfold NumX at hvr
      have Hps := Hps0
      clear hstep ha heq hrow hfr hsm hset hR H2 hst hcn hwi hvk
      go_wp2_with (go_at_call 121; go_must (refine (hvr _ (Same.alloc _ _ _)).mono ?_; rintro e w' ⟨b, rfl, hf, hs⟩))
      refine ⟨rfl, ?_⟩
      rw [Ld.apart, Hps.out, Hres.out]
      exact ⟨b, rfl, hf, (Hsm.out.trans (Same.alloc _ _ _)).trans hs⟩
     | ok n =>
      rw [ha, bind_okk] at hstep
      rw [ha] at hvr
      unfold NumX at hvr
      dsimp only at hvr
      have hcn := fun W hW => hcn W hW n
      have hwi := fun W hW => hwi W hW n
      cases hc : vl.contains n with
      | true =>
       rw [if_pos hc] at hstep
       have Hres := Kd (heq.trans hstep)
       obtain ⟨Av, cv, rfl⟩ := hrow.shape
       have Hsm := Kd hsm
       rw [hc] at hcn
       have Hps := Hps0
       clear hstep ha heq hrow hfr hsm hset hR H2 hc hwi hvk
       go_wp2_with (first
        | (go_at_call 121; go_must (refine (hvr _ (Same.alloc _ _ _)).mono ?_; rintro e1 W3 ⟨rfl, hs3⟩; have hB3 := hs3.get (blk_new wr _) (by simp); obtain ⟨k0, k1, k2, k3, kf⟩ := blk4 hB3; have bl3 := blk_lt hB3; have Hs3 := Kd ((Same.alloc [] wr (Obj.cells #[.string ws[k].text, .int .i64 ws[k].at_.off, .int .i64 ws[k].at_.line, .int .i64 ws[k].at_.col] 54)).trans hs3); clear hs3 hB3))
        | (go_at_call 122; go_must (refine (hcn _ Hs3.out).mono ?_; rintro e' W4 ⟨rfl, hw2⟩; obtain rfl := hw2.symm))
        | (go_at_call 68; go_must (refine (hst _ 50).mono ?_; rintro e w' ⟨b, rfl, hf, hs⟩)))
       refine ⟨rfl, ?_⟩
       rw [Ld.apart, Hps.out, Hres.out]
       exact ⟨b, rfl, hf, (Hsm.out.trans Hs3.out).trans hs⟩
      | false =>
       rw [if_neg (by rw [hc]; decide)] at hstep
       rw [hc] at hcn
       obtain ⟨N, hN⟩ : ∃ N, unionP (withP vl n) [] = N := ⟨_, rfl⟩
       have hNl : N.length ≤ 20000 := by
        rw [← hN]
        have h1 := unionP_len (withP vl n) []
        have h2 : (withP vl n).length = vl.length := by simp [withP]
        rw [List.length_nil] at h1
        omega
       rw [hN] at hstep
       have HN := Kd hN
       have Hstep := Kd (heq.trans hstep)
       obtain ⟨Av, cv, rfl⟩ := hrow.shape
       have Hsm := Kd hsm
       have Hrow := Kd hrow
       have Hfr := Kd hfr
       have Hset := Kd hset
       have Hvk := Kd hvk
       have hwlt : (withP vl n).length ≤ 1000000 := by simp [withP]; omega
       have hwz2 : w.heap.size < wr.heap.size := hset.lt
       obtain ⟨Wo, rfl⟩ : ∃ Wo, Wo = wr := ⟨_, rfl⟩
       clear hstep ha heq hrow hfr hsm hset hR H2 hc hN hvk
       go_wp2_with (first
        | (go_at_call 121; go_must (refine (hvr _ (Same.alloc _ _ _)).mono ?_; rintro e1 W3 ⟨rfl, hs3⟩; have hB3 := hs3.get (blk_new Wo _) (by simp); have HB3 := Kd hB3; have Hs3 := Kd ((Same.alloc [] Wo (Obj.cells #[.string ws[k].text, .int .i64 ws[k].at_.off, .int .i64 ws[k].at_.line, .int .i64 ws[k].at_.col] 54)).trans hs3); clear hs3 hB3))
        | (go_at_call 122; go_must (refine (hcn _ Hs3.out).mono ?_; rintro e' W4 ⟨rfl, hw2⟩; obtain rfl := hw2.symm))
        | (go_at_call 124; go_must (refine (hwi _ Hs3.out).mono ?_; rintro e' W5 ⟨v5, rfl, hr5, hs5, hf5⟩; have hno5 := Norm_calls v5 (withP vl n) W5 hr5 hwlt; obtain ⟨A5, c5, rfl⟩ := hr5.shape; have Hs5 := Kd (Hs3.out.trans hs5); have HB5 := Kd (hs5.get HB3.out (by simp)); clear hr5 hs5 hf5))
        | (go_at_call 123; go_must (refine hno5.mono ?_; rintro e' W6 ⟨v6, rfl, hr6, hs6, hf6⟩; rw [HN.out] at hr6; obtain ⟨A6, c6, rfl⟩ := hr6.shape; have Hs6 := Kd (Hs5.out.trans hs6); have HB6 := Kd (hs6.get HB5.out (by simp)); have Hr6 := Kd hr6; clear hr6 hs6 hf6)))
       have h3 : Apart3 W6 w.heap.size N ps (.int .i64 0) W6 := ⟨0, Nat.zero_le _, rfl, Hset.out.same Hs6.out (by simp), Same.refl _ _⟩
       have H3 := Kd h3
       clear h3
       go_loopw [48] (fun u wr => Apart3 W6 w.heap.size N ps u wr) (fun u _ => N.length - (intOf u).toNat)
       case atStart => exact H3.out
       case round =>
        obtain ⟨j, hj, rfl, hset, hsj⟩ := hrel
        have hw6 : w.heap.size ≤ wr.heap.size := Nat.le_of_lt hset.lt
        by_cases hjl : j < N.length
        ·have hrow := Hr6.out.same hsj (fun c hc hm => by have := List.mem_singleton.1 hm; subst this; exact (Hset.out.same Hs6.out (by simp)).ne_row Hr6.out hc)
         obtain ⟨g, c, hv, hcell⟩ := hrow.elem (i := j) hjl (ys := encPr N[j]) rfl (prCells_at _ j hjl) (by decide)
         have t0 := (hcell 0 (by decide)).1
         have t1 := (hcell 1 (by decide)).1
         simp only [encPr, List.getD_cons_zero, List.getD_cons_succ, Nat.add_zero] at t0 t1
         have Hsetj := Kd hset
         have Hsj := Kd hsj
         cases hv
         have hgl := World.block_lt_of_cell? _ _ t0
         clear hset hsj hcell hrow H3
         go_wp2_with (at_mapUpdate; go_must (refine wp_kput prKey (Hsetj.out.same (Same.alloc [] wr (.cells #[.int .i64 N[j].1, .int .i64 N[j].2] 113)) (by simp)) Tryz.underlying205 rfl _ _ _ rfl N[j] (.bool true) rfl rfl rfl ?_; intro W7 h7 hs7; have H7 := Kd h7; have Hs7 := Kd hs7; clear h7 hs7))
         go_roundw
         case rel =>
          refine ⟨j + 1, hjl, by go_num, ?_, (Hsj.out.trans (Same.alloc _ _ _)).trans Hs7.out⟩
          have := H7.out
          rw [trueMap_put] at this
          rw [foldA_take _ _ hjl]
          exact this
         case measure => simp [intOf]; omega
        ·have hjj : j = N.length := by omega
         subst hjj
         rw [List.take_length] at hset
         obtain ⟨ps', hps'⟩ : ∃ ps', N.foldl addKey ps = ps' := ⟨_, rfl⟩
         rw [hps'] at hset
         have hstep := Hstep.out
         rw [hps'] at hstep
         obtain ⟨es, clock, hes, hsz⟩ := hset.len
         have hsz' : es.size = ps'.length := by rw [hsz]; simp [trueMap]
         have hlm := run_len_kmap (ty := 3) Tryz.underlying205 hes
         rw [hsz'] at hlm
         have hB7 := hsj.get HB6.out (by simp; omega)
         obtain ⟨k0, k1, k2, k3, kf⟩ := blk4 hB7
         have bl7 := blk_lt hB7
         have hs8 : Same [w.heap.size] Wo wr := (Hs6.out.mono (by simp)).trans hsj
         have Hs8 := Kd hs8
         have Hset7 := Kd hset
         clear hset hes hsz hsz' hsj hB7 hps' H3 hs8
         have hsf : ∀ x ∈ [w.heap.size], x ∈ ([] : List Nat) ∨ w.heap.size ≤ x := fun x hx => .inr (by simp at hx; omega)
         by_cases hbig : 256 < ps'.length
         ·rw [if_pos hbig] at hstep
          have Hres := Kd hstep
          have Hps := Hps0
          clear hstep Hstep
          go_wp2_with (go_at_call 68; go_must (refine (hst _ 22).mono ?_; rintro e w' ⟨b, rfl, hf, hs⟩))
          refine ⟨rfl, ?_⟩
          rw [Ld.apart, Hps.out, Hres.out]
          exact ⟨b, rfl, hf, (Hsm.out.then Hs8.out hsf).trans hs⟩
         ·rw [if_neg hbig] at hstep
          have Hres := Kd hstep
          have hrow8 := Hrow.out.same Hs8.out (fun c hc hm => by have := List.mem_singleton.1 hm; subst this; exact Hset.out.ne_row Hrow.out hc)
          have Hrow8 := Kd hrow8
          have Hsf := Kd hsf
          clear hstep Hstep hrow8 hsf
          go_wp2_with (at_builtin; refine wp_push (W := wr) rfl _ _ 31 rfl 3 1 8 _ Tryz.underlying31 Tryz.infoInt' rfl (by decide) (.slice Av vl.length cv) _ _ rfl Hrow8.out [.int .i64 n] rfl rfl (by simp [Value.oneCell']) (by omega) (by decide) ?_; go_must (intro v9 W9 hr9 hs9 ho9; obtain ⟨A9, c9, rfl⟩ := hr9.shape; have Hr9 := Kd hr9; have Hs9 := Kd hs9; have Ho9 := Kd ho9; clear hr9 hs9 ho9))
          go_roundw
          case rel =>
           refine ⟨k + 1, vl ++ [n], ps', hlt, by go_num, by rw [List.length_append, Hvk.out]; rfl, by rw [intCells_snoc, List.length_append]; exact Hr9.out, Hfr.out.next (Nat.le_trans Hsm.out.size Hs8.out.size) Ho9.out, Hset7.out.same Hs9.out (fun hm => Hset7.out.ne_row Hrow8.out (Option.mem_toList.1 hm)), (Hsm.out.then Hs8.out Hsf.out).then Hs9.out fun c hc => .inr (Hfr.out c (Option.mem_toList.1 hc)), Hres.out⟩
          case measure => simp [intOf]; omega
    ·have hkk : k = ws.length := by omega
     subst hkk
     rw [List.drop_length, Ld.apartGo] at heq
     obtain ⟨Av, cv, rfl⟩ := hrow.shape
     have Heq := Kd heq
     have Hrow := Kd hrow
     have Hfr := Kd hfr
     have Hsm := Kd hsm
     have Hps := Hps0
     clear heq hrow hfr hsm hset H2
     go_wp2
     go_ret
     rw [Ld.apart, Hps.out, Heq.out]
     exact ⟨.slice Av vl.length cv, rfl, Hrow.out, Hsm.out, Hfr.out⟩
end Go.Proofs.YtdhkmfpfbjcdiaaGreatDoor
