/- lemmalaw texts, part 24. -/
import Derived.Test.YtdhkmfpfbjcdiaaGreatDoorZac
import Derived.Test.YtdhkmfpfbjcdiaaGreatDoorZaw
set_option maxRecDepth 100000
set_option linter.unusedVariables false
set_option linter.unusedSimpArgs false
namespace Go.Proofs.YtdhkmfpfbjcdiaaGreatDoor
open Go.RowKit
theorem KMap.ne_row {α : Type} {enc : α → Value} {w : World} {b : Nat} {l : List (α × Value)} (h : KMap enc w b l) {e k n : Nat} {v : Value} {xs : List Value} (hr : Row w e k v n xs) : v.ownBlock ≠ some b := by
  obtain ⟨es, cl, hb, _⟩ := h
  exact hr.ne_map hb
def trueMap (ps : List Pr) : List (Pr × Value) := ps.map fun p => (p, .bool true)
theorem trueMap_put (p : Pr) : ∀ ps : List Pr, aput p (.bool true) (trueMap ps) = trueMap (addKey ps p)
  | [] => by simp [trueMap, aput, addKey]
  | q :: r => by
    have ih := trueMap_put p r
    unfold trueMap addKey at ih ⊢
    rw [List.map_cons, aput]
    by_cases h : p = q
    · subst h
      rw [if_pos rfl, if_pos (List.mem_cons_self ..)]
      rfl
    · rw [if_neg h, ih]
      by_cases hm : p ∈ r
      · rw [if_pos hm, if_pos (List.mem_cons_of_mem _ hm)]; rfl
      · rw [if_neg hm, if_neg (fun hc => (List.mem_cons.1 hc).elim h hm)]; rfl
set_option maxHeartbeats 400000 in
theorem Contains_calls (va : Value) (l : List Int) (w : World) (he : Row w 3 1 va l.length (intCells l)) (hn : l.length ≤ 1000000) (x : Int) : Calls Tryz.prog 122 #[va, .int .i64 x] w fun e w' => e = .returned (.bool (l.contains x)) ∧ w' = w := by
  rcases Nat.eq_zero_or_pos l.length with h0 | hp
  · obtain ⟨a, c, rfl⟩ := he.shape
    have hl : l = [] := List.eq_nil_of_length_eq_zero h0
    subst hl
    exact Tryz.slices_Contains_int_empty a c x w
  · obtain ⟨g, c, rfl, -, -⟩ := ints_cell he hp
    have := Tryz.slices_Contains_int g 0 l.length c l x w (Nat.le_refl _) (by omega) (fun j hj => by
      obtain ⟨g', c', hv, h1, -⟩ := ints_cell he hj
      cases hv
      rw [Nat.zero_add, h1]
      simp [List.getD_eq_getElem?_getD, hj])
    rw [List.take_length] at this
    exact this
theorem apartGo_at (L : Ld) (ws : List Tk) (v : List Int) (ps : List Pr) (k : Nat) (hk : k < ws.length) : L.apartGo (ws.drop k) v ps = (varX L.tbl ws[k]).bind fun n => if v.contains n = true then .error (ws[k], 50) else
    if 256 < ((unionP (withP v n) []).foldl addKey ps).length then .error (ws[k], 22) else L.apartGo (ws.drop (k + 1)) (v ++ [n]) ((unionP (withP v n) []).foldl addKey ps) := by
  rw [List.drop_eq_getElem_cons hk, Ld.apartGo, varX_eq]
  rfl
theorem Tryz.scopePairs (A B : Option Addr) (n c m d : Nat) (w : World) : (Instr.field 49 (.agg #[.slice A n c, .slice B m d]) 1).run Tryz.prog w = .ok (.slice B m d) w := by kernel_rfl
def Apart1 (w : World) (b : Nat) (P : List Pr) (u : Value) (W : World) : Prop := ∃ k : Nat, k ≤ P.length ∧ u = .int .i64 k ∧ KMap prV W b (trueMap ((P.take k).foldl addKey [])) ∧ Same [] w W
def Apart2 (w : World) (b : Nat) (L : Ld) (ws : List Tk) (ps0 : List Pr) (v u : Value) (W : World) : Prop :=
  ∃ (k : Nat) (vl : List Int) (ps : List Pr), k ≤ ws.length ∧ u = .int .i64 k ∧ vl.length = k ∧ Row W 3 1 v vl.length (intCells vl) ∧ FreshB w v ∧ KMap prV W b (trueMap ps) ∧ Same [] w W ∧ L.apartGo ws [] ps0 = L.apartGo (ws.drop k) vl ps
def Apart3 (W4 : World) (b : Nat) (N ps : List Pr) (u : Value) (W : World) : Prop := ∃ j : Nat, j ≤ N.length ∧ u = .int .i64 j ∧ KMap prV W b (trueMap ((N.take j).foldl addKey ps)) ∧ Same [b] W4 W
theorem foldA_take (N ps : List Pr) {j : Nat} (hj : j < N.length) : (N.take (j + 1)).foldl addKey ps = addKey ((N.take j).foldl addKey ps) N[j] := by
  rw [List.take_succ_eq_append_getElem hj, List.foldl_append]
  rfl
set_option maxHeartbeats 8000000 in
theorem lapart_calls (w : World) (l nb t s : Nat) (TA : TA) (A : SA) (M : List Nat) (L : Ld) (h : LR w l nb t s TA A M L.tbl L.scs) (va : Value) (ws : List Tk) (hw : Row w 54 4 va ws.length (tkCells ws)) (hn : ws.length ≤ 20000) :
    Calls Tryz.prog 71 #[.pointer (some ⟨l, 0, none⟩), va] w (IntsX (L.apart ws) w) := by
  have hmm := @run_makeMap Tryz.prog
  have hfd := Tryz.scopePairs
  obtain ⟨Aw, cw, rfl⟩ := hw.shape
  have hsc := fun (W : World) (hW : Same [] w W) => Scope_calls W s t A M L.scs (h.stk.same hW) h.small
  have hal : (activeS L.scs).length ≤ 17000 := active_len h.small h.stk.len
  have l0 := h.lt.l0
  have n2 := h.lt.n2
  have l1 := h.l1
  have ll := World.block_lt_of_cell? _ _ l0
  have H := Lib.hid h
  have Hw := Lib.hid hw
  clear h hw
  go_enter Tryz.func71, Tryz.ntmps71
  go_wp2_with (go_at_call 120; go_must (refine (hsc _ (Same.alloc [] _ _)).mono ?_; rintro e1 W1 ⟨hv1, pv1, evs1, rfl, hh1, hf1, hfe1, hr1, hfp1, hs1⟩; obtain ⟨A1, c1, rfl⟩ := hr1.shape; obtain ⟨A1', c1', rfl⟩ := hh1.row.shape; have hm1 := (KMap.new prV w 0).same hs1 (by simp); have Hs1 := Lib.hid ((Same.alloc [] w (.map #[] 0)).trans hs1); have Hr1 := Lib.hid hr1; have Hm1 := Lib.hid hm1; clear hh1 hf1 hfe1 hr1 hfp1 hs1 hm1 hsc))
  have h0 : Apart1 w w.heap.size (activeS L.scs) (.int .i64 0) W1 := ⟨0, Nat.zero_le _, rfl, Hm1.out, Hs1.out⟩
  have H0 := Lib.hid h0
  clear h0
  go_loopw [22] (fun u wr => Apart1 w w.heap.size (activeS L.scs) u wr ∧ Row wr 113 2 (.slice A1 (activeS L.scs).length c1) (activeS L.scs).length (prCells (activeS L.scs))) (fun u _ => (activeS L.scs).length - (intOf u).toNat)
  case atStart => exact ⟨H0.out, Hr1.out⟩
  case round =>
    obtain ⟨⟨k, hk, rfl, hset, hsm⟩, hrow⟩ := hrel
    by_cases hlt : k < (activeS L.scs).length
    · obtain ⟨g, c, hv, hcell⟩ := hrow.elem (i := k) hlt (ys := encPr (activeS L.scs)[k]) rfl (prCells_at _ k hlt) (by decide)
      have t0 := (hcell 0 (by decide)).1
      have t1 := (hcell 1 (by decide)).1
      simp only [encPr, List.getD_cons_zero, List.getD_cons_succ, Nat.add_zero] at t0 t1
      have Hset := Lib.hid hset
      have Hsm := Lib.hid hsm
      have Hrow := Lib.hid hrow
      cases hv
      have hgl := World.block_lt_of_cell? _ _ t0
      clear hset hsm hcell hrow H0
      go_wp2_with (at_mapUpdate; go_must (refine wp_kput prKey (Hset.out.same (Same.alloc [] wr (.cells #[.int .i64 (activeS L.scs)[k].1, .int .i64 (activeS L.scs)[k].2] 113)) (by simp)) Tryz.underlying205 rfl _ _ _ rfl (activeS L.scs)[k] (.bool true) rfl rfl rfl ?_; intro W2 h2 hs2; have H2 := Lib.hid h2; have Hs2 := Lib.hid hs2; clear h2 hs2))
      go_roundw
      case rel =>
        refine ⟨⟨k + 1, hlt, by go_num, ?_, (Hsm.out.trans (Same.alloc _ _ _)).then Hs2.out fun x hx => .inr (by simp at hx; omega)⟩, (Hrow.out.same (Same.alloc [] _ _) (by simp)).same Hs2.out fun c hc hm => ?_⟩
        · have := H2.out
          rw [trueMap_put] at this
          rw [foldA_take _ _ hlt]
          exact this
        · have := List.mem_singleton.1 hm
          subst this
          exact Hset.out.ne_row Hrow.out hc
      case measure => simp [intOf]; omega
    · have hkk : k = (activeS L.scs).length := by omega
      subst hkk
      rw [List.take_length] at hset
      obtain ⟨ps0, hps0⟩ : ∃ ps0, (activeS L.scs).foldl addKey [] = ps0 := ⟨_, rfl⟩
      rw [hps0] at hset
      have Hps0 := Lib.hid hps0
      have hwz : w.heap.size < wr.heap.size := hset.lt
      have h2 : Apart2 w w.heap.size L ws ps0 (.slice none 0 0) (.int .i64 0) wr := ⟨0, [], ps0, Nat.zero_le _, rfl, rfl, World.ownsRow_nil _ _ _ _, by simp [FreshB, Value.ownBlock], hset, hsm, rfl⟩
      have H2 := Lib.hid h2
      clear h2 hset hsm hrow H0 hps0
      go_wp2
      go_loopw [5, 31] (fun v u wr => Apart2 w w.heap.size L ws ps0 v u wr) (fun _ u _ => ws.length - (intOf u).toNat)
      case atStart => exact H2.out
      case round =>
        obtain ⟨k, vl, ps, hk, rfl, hvk, hrow, hfr, hset, hsm, heq⟩ := hrel
        by_cases hlt : k < ws.length
        · have hstep := apartGo_at L ws vl ps k hlt
          obtain ⟨g, c, hv, t0, t1, t2, t3, hgl⟩ := tk_elem (Hw.out.same hsm (by simp)) hlt
          cases hv
          have hR := H.out.same hsm
          have hvr := fun (W : World) (hW : Same [] wr W) => variable_calls W l nb t TA L.tbl (hR.lt.same hW) ws[k]
          have hst := fun W n => stop_calls W ws[k] n
          have hcn := fun (W : World) (hW : Same [] wr W) (n : Int) => Contains_calls _ vl W (hrow.same hW (by simp)) (by omega) n
          have hwi := fun (W : World) (hW : Same [] wr W) (n : Int) => with_calls W _ vl (hrow.same hW (by simp)) n (by omega)
          unfold tkV at hvr hst
          have hvln : vl.length ≤ 20000 := by omega
          cases ha : varX L.tbl ws[k] with
          | error p =>
            obtain ⟨tk, en⟩ := p
            rw [ha, bind_error] at hstep
            rw [ha] at hvr
            have Hres := Lib.hid (heq.trans hstep)
            obtain ⟨Av, cv, rfl⟩ := hrow.shape
            have Hsm := Lib.hid hsm
            unfold NumX at hvr
            have Hps := Hps0
            clear hstep ha heq hrow hfr hsm hset hR H2 hst hcn hwi hvk
            go_wp2_with (go_at_call 121; go_must (refine (hvr _ (Same.alloc _ _ _)).mono ?_; rintro e w' ⟨b, rfl, hf, hs⟩))
            refine ⟨rfl, ?_⟩
            rw [Ld.apart, Hps.out, Hres.out]
            exact ⟨b, rfl, hf, (Hsm.out.trans (Same.alloc _ _ _)).trans hs⟩
          | ok n =>
            rw [ha, bind_okk] at hstep
            rw [ha] at hvr
            unfold NumX at hvr
            dsimp only at hvr
            have hcn := fun W hW => hcn W hW n
            have hwi := fun W hW => hwi W hW n
            cases hc : vl.contains n with
            | true =>
              rw [if_pos hc] at hstep
              have Hres := Lib.hid (heq.trans hstep)
              obtain ⟨Av, cv, rfl⟩ := hrow.shape
              have Hsm := Lib.hid hsm
              rw [hc] at hcn
              have Hps := Hps0
              clear hstep ha heq hrow hfr hsm hset hR H2 hc hwi hvk
              go_wp2_with (first
                | (go_at_call 121; go_must (refine (hvr _ (Same.alloc _ _ _)).mono ?_; rintro e1 W3 ⟨rfl, hs3⟩; have hB3 := hs3.get (blk_new wr _) (by simp); obtain ⟨k0, k1, k2, k3, kf⟩ := blk4 hB3; have bl3 := blk_lt hB3; have Hs3 := Lib.hid ((Same.alloc [] wr (Obj.cells #[.string ws[k].text, .int .i64 ws[k].at_.off, .int .i64 ws[k].at_.line, .int .i64 ws[k].at_.col] 54)).trans hs3); clear hs3 hB3))
                | (go_at_call 122; go_must (refine (hcn _ Hs3.out).mono ?_; rintro e' W4 ⟨rfl, hw2⟩; obtain rfl := hw2.symm))
                | (go_at_call 68; go_must (refine (hst _ 50).mono ?_; rintro e w' ⟨b, rfl, hf, hs⟩)))
              refine ⟨rfl, ?_⟩
              rw [Ld.apart, Hps.out, Hres.out]
              exact ⟨b, rfl, hf, (Hsm.out.trans Hs3.out).trans hs⟩
            | false =>
              rw [if_neg (by rw [hc]; decide)] at hstep
              rw [hc] at hcn
              obtain ⟨N, hN⟩ : ∃ N, unionP (withP vl n) [] = N := ⟨_, rfl⟩
              have hNl : N.length ≤ 20000 := by
                rw [← hN]
                have h1 := unionP_len (withP vl n) []
                have h2 : (withP vl n).length = vl.length := by simp [withP]
                rw [List.length_nil] at h1
                omega
              rw [hN] at hstep
              have HN := Lib.hid hN
              have Hstep := Lib.hid (heq.trans hstep)
              obtain ⟨Av, cv, rfl⟩ := hrow.shape
              have Hsm := Lib.hid hsm
              have Hrow := Lib.hid hrow
              have Hfr := Lib.hid hfr
              have Hset := Lib.hid hset
              have Hvk := Lib.hid hvk
              have hwlt : (withP vl n).length ≤ 1000000 := by simp [withP]; omega
              have hwz2 : w.heap.size < wr.heap.size := hset.lt
              obtain ⟨Wo, rfl⟩ : ∃ Wo, Wo = wr := ⟨_, rfl⟩
              clear hstep ha heq hrow hfr hsm hset hR H2 hc hN hvk
              go_wp2_with (first
                | (go_at_call 121; go_must (refine (hvr _ (Same.alloc _ _ _)).mono ?_; rintro e1 W3 ⟨rfl, hs3⟩; have hB3 := hs3.get (blk_new Wo _) (by simp); have HB3 := Lib.hid hB3; have Hs3 := Lib.hid ((Same.alloc [] Wo (Obj.cells #[.string ws[k].text, .int .i64 ws[k].at_.off, .int .i64 ws[k].at_.line, .int .i64 ws[k].at_.col] 54)).trans hs3); clear hs3 hB3))
                | (go_at_call 122; go_must (refine (hcn _ Hs3.out).mono ?_; rintro e' W4 ⟨rfl, hw2⟩; obtain rfl := hw2.symm))
                | (go_at_call 124; go_must (refine (hwi _ Hs3.out).mono ?_; rintro e' W5 ⟨v5, rfl, hr5, hs5, hf5⟩; have hno5 := Norm_calls v5 (withP vl n) W5 hr5 hwlt; obtain ⟨A5, c5, rfl⟩ := hr5.shape; have Hs5 := Lib.hid (Hs3.out.trans hs5); have HB5 := Lib.hid (hs5.get HB3.out (by simp)); clear hr5 hs5 hf5))
                | (go_at_call 123; go_must (refine hno5.mono ?_; rintro e' W6 ⟨v6, rfl, hr6, hs6, hf6⟩; rw [HN.out] at hr6; obtain ⟨A6, c6, rfl⟩ := hr6.shape; have Hs6 := Lib.hid (Hs5.out.trans hs6); have HB6 := Lib.hid (hs6.get HB5.out (by simp)); have Hr6 := Lib.hid hr6; clear hr6 hs6 hf6)))
              have h3 : Apart3 W6 w.heap.size N ps (.int .i64 0) W6 := ⟨0, Nat.zero_le _, rfl, Hset.out.same Hs6.out (by simp), Same.refl _ _⟩
              have H3 := Lib.hid h3
              clear h3
              go_loopw [48] (fun u wr => Apart3 W6 w.heap.size N ps u wr) (fun u _ => N.length - (intOf u).toNat)
              case atStart => exact H3.out
              case round =>
                obtain ⟨j, hj, rfl, hset, hsj⟩ := hrel
                have hw6 : w.heap.size ≤ wr.heap.size := Nat.le_of_lt hset.lt
                by_cases hjl : j < N.length
                · have hrow := Hr6.out.same hsj (fun c hc hm => by have := List.mem_singleton.1 hm; subst this; exact (Hset.out.same Hs6.out (by simp)).ne_row Hr6.out hc)
                  obtain ⟨g, c, hv, hcell⟩ := hrow.elem (i := j) hjl (ys := encPr N[j]) rfl (prCells_at _ j hjl) (by decide)
                  have t0 := (hcell 0 (by decide)).1
                  have t1 := (hcell 1 (by decide)).1
                  simp only [encPr, List.getD_cons_zero, List.getD_cons_succ, Nat.add_zero] at t0 t1
                  have Hsetj := Lib.hid hset
                  have Hsj := Lib.hid hsj
                  cases hv
                  have hgl := World.block_lt_of_cell? _ _ t0
                  clear hset hsj hcell hrow H3
                  go_wp2_with (at_mapUpdate; go_must (refine wp_kput prKey (Hsetj.out.same (Same.alloc [] wr (.cells #[.int .i64 N[j].1, .int .i64 N[j].2] 113)) (by simp)) Tryz.underlying205 rfl _ _ _ rfl N[j] (.bool true) rfl rfl rfl ?_; intro W7 h7 hs7; have H7 := Lib.hid h7; have Hs7 := Lib.hid hs7; clear h7 hs7))
                  go_roundw
                  case rel =>
                    refine ⟨j + 1, hjl, by go_num, ?_, (Hsj.out.trans (Same.alloc _ _ _)).trans Hs7.out⟩
                    have := H7.out
                    rw [trueMap_put] at this
                    rw [foldA_take _ _ hjl]
                    exact this
                  case measure => simp [intOf]; omega
                · have hjj : j = N.length := by omega
                  subst hjj
                  rw [List.take_length] at hset
                  obtain ⟨ps', hps'⟩ : ∃ ps', N.foldl addKey ps = ps' := ⟨_, rfl⟩
                  rw [hps'] at hset
                  have hstep := Hstep.out
                  rw [hps'] at hstep
                  obtain ⟨es, clock, hes, hsz⟩ := hset.len
                  have hsz' : es.size = ps'.length := by rw [hsz]; simp [trueMap]
                  have hlm := run_len_kmap (ty := 3) Tryz.underlying205 hes
                  rw [hsz'] at hlm
                  have hB7 := hsj.get HB6.out (by simp; omega)
                  obtain ⟨k0, k1, k2, k3, kf⟩ := blk4 hB7
                  have bl7 := blk_lt hB7
                  have hs8 : Same [w.heap.size] Wo wr := (Hs6.out.mono (by simp)).trans hsj
                  have Hs8 := Lib.hid hs8
                  have Hset7 := Lib.hid hset
                  clear hset hes hsz hsz' hsj hB7 hps' H3 hs8
                  have hsf : ∀ x ∈ [w.heap.size], x ∈ ([] : List Nat) ∨ w.heap.size ≤ x := fun x hx => .inr (by simp at hx; omega)
                  by_cases hbig : 256 < ps'.length
                  · rw [if_pos hbig] at hstep
                    have Hres := Lib.hid hstep
                    have Hps := Hps0
                    clear hstep Hstep
                    go_wp2_with (go_at_call 68; go_must (refine (hst _ 22).mono ?_; rintro e w' ⟨b, rfl, hf, hs⟩))
                    refine ⟨rfl, ?_⟩
                    rw [Ld.apart, Hps.out, Hres.out]
                    exact ⟨b, rfl, hf, (Hsm.out.then Hs8.out hsf).trans hs⟩
                  · rw [if_neg hbig] at hstep
                    have Hres := Lib.hid hstep
                    have hrow8 := Hrow.out.same Hs8.out (fun c hc hm => by have := List.mem_singleton.1 hm; subst this; exact Hset.out.ne_row Hrow.out hc)
                    have Hrow8 := Lib.hid hrow8
                    have Hsf := Lib.hid hsf
                    clear hstep Hstep hrow8 hsf
                    go_wp2_with (at_builtin; refine wp_push (W := wr) rfl _ _ 31 rfl 3 1 8 _ Tryz.underlying31 Tryz.infoInt' rfl (by decide) (.slice Av vl.length cv) _ _ rfl Hrow8.out [.int .i64 n] rfl rfl (by simp [Value.oneCell']) (by omega) (by decide) ?_; go_must (intro v9 W9 hr9 hs9 ho9; obtain ⟨A9, c9, rfl⟩ := hr9.shape; have Hr9 := Lib.hid hr9; have Hs9 := Lib.hid hs9; have Ho9 := Lib.hid ho9; clear hr9 hs9 ho9))
                    go_roundw
                    case rel =>
                      refine ⟨k + 1, vl ++ [n], ps', hlt, by go_num, by rw [List.length_append, Hvk.out]; rfl, by rw [intCells_snoc, List.length_append]; exact Hr9.out, Hfr.out.next (Nat.le_trans Hsm.out.size Hs8.out.size) Ho9.out, Hset7.out.same Hs9.out (fun hm => Hset7.out.ne_row Hrow8.out (Option.mem_toList.1 hm)), (Hsm.out.then Hs8.out Hsf.out).then Hs9.out fun c hc => .inr (Hfr.out c (Option.mem_toList.1 hc)), Hres.out⟩
                    case measure => simp [intOf]; omega
        · have hkk : k = ws.length := by omega
          subst hkk
          rw [List.drop_length, Ld.apartGo] at heq
          obtain ⟨Av, cv, rfl⟩ := hrow.shape
          have Heq := Lib.hid heq
          have Hrow := Lib.hid hrow
          have Hfr := Lib.hid hfr
          have Hsm := Lib.hid hsm
          have Hps := Hps0
          clear heq hrow hfr hsm hset H2
          go_wp2
          go_ret
          rw [Ld.apart, Hps.out, Heq.out]
          exact ⟨.slice Av vl.length cv, rfl, Hrow.out, Hsm.out, Hfr.out⟩
end Go.Proofs.YtdhkmfpfbjcdiaaGreatDoor
namespace Go.Proofs.YtdhkmfpfbjcdiaaGreatDoor
open Go.RowKit
theorem hm_at {w : World} {M : List Nat} (k : ByteArray) : ∀ {l : List (ByteArray × Hy)} {m : List (ByteArray × Value)}, All2 (HmIn w M) l m → (aget k l = none ∧ aget k m = none) ∨ ∃ x ev, aget k l = some x ∧ aget k m = some (.agg #[.string x.label, .bool x.floating, .int .i64 x.var, ev]) ∧ Ints w M ev x.expr
  | [], [], _ => .inl ⟨rfl, rfl⟩
  | (a, h) :: l, (b, v) :: m, hp => by
    obtain rfl : a = b := hp.1.1
    obtain ⟨ev, hv, hi⟩ := hp.1.2
    have := hm_at k hp.2
    unfold aget
    split
    · dsimp only at hv
      exact .inr ⟨h, ev, rfl, by rw [hv], hi⟩
    · exact this
  | [], _ :: _, hp => hp.elim
  | _ :: _, [], hp => hp.elim
theorem zeroHyp (w : World) : (zeroValue 150).run Tryz.prog w = .ok (.agg #[.string ByteArray.empty, .bool false, .int .i64 0, .slice none 0 0]) w := by kernel_rfl
set_option maxHeartbeats 1000000 in
theorem Taken_calls (w : World) (nb mf mh : Nat) (fs : List (ByteArray × Nat)) (hm : List (ByteArray × Value)) (hl : List (ByteArray × Hy)) (M : List Nat) (c5 : w.cell? ⟨nb, 5, none⟩ = some (.map (some mf))) (c6 : w.cell? ⟨nb, 6, none⟩ = some (.map (some mh)))
    (h1 : SMap w mf (natMap fs)) (h2 : SMap w mh hm) (h3 : All2 (HmIn w M) hl hm) (s : ByteArray) :
    Calls Tryz.prog 116 #[.pointer (some ⟨nb, 0, none⟩), .string s] w fun e w' => e = .returned (.bool ((aget s fs).isSome || (aget s hl).isSome)) ∧ Same [] w w' := by
  have k1 := h1.run_lookup Tryz.underlying80 Tryz.underlying9 (zero3 w) s true
  have k2 := h2.run_lookup Tryz.underlying81 Tryz.underlying9 (zeroHyp w) s true
  rw [aget_natMap, if_pos rfl] at k1
  rw [if_pos rfl] at k2
  rcases hm_at s h3 with ⟨g1, g2⟩ | ⟨x, ev, g1, g2, hi⟩
  · rw [g2] at k2
    rw [g1]
    dsimp only [Option.getD, Option.isSome] at k2
    clear h1 h2 h3 g1 g2
    cases ha : aget s fs <;> rw [ha] at k1 <;> dsimp only [Option.map, Option.getD, Option.isSome] at k1 <;> clear ha
    all_goals
      go_enter Tryz.func116, Tryz.ntmps116
      go_wp2
      go_ret
      exact ⟨rfl, Same.alloc _ _ _⟩
  · rw [g2] at k2
    rw [g1]
    obtain ⟨Ae, ce, rfl⟩ := hi.row.shape
    dsimp only [Option.getD, Option.isSome] at k2
    clear h1 h2 h3 g1 g2 hi
    cases ha : aget s fs <;> rw [ha] at k1 <;> dsimp only [Option.map, Option.getD, Option.isSome] at k1 <;> clear ha
    all_goals
      go_enter Tryz.func116, Tryz.ntmps116
      go_wp2
      go_ret
      exact ⟨rfl, Same.alloc _ _ _⟩
theorem LdAt.taken {w : World} {F : LF} {V : LV} {L : Ld} (h : LdAt w F V L) (s : ByteArray) (W : World) (hW : Same [] w W) : Calls Tryz.prog 116 #[.pointer (some ⟨F.nb, 0, none⟩), .string s] W fun e w' => e = .returned (.bool (L.taken s)) ∧ Same [] W w' :=
  Taken_calls W F.nb F.mf F.mh L.finds V.hm L.hyps (V.blocks F) (hW.cell (blk_c h.nbb) (by simp)) (hW.cell (blk_c h.nbb) (by simp)) (h.finds.same hW (by simp)) (h.hyps.same hW (by simp)) (h.same hW).hin s
def UnitX (x : Ex Unit) (w : World) (e : Ending) (w' : World) : Prop := match x with
  | .ok _ => e = .returned (.tuple #[]) ∧ Same [] w w'
  | .error (t, n) => StopR t n w e w'
set_option maxHeartbeats 2000000 in
theorem llabel_calls (w : World) (F : LF) (V : LV) (L : Ld) (h : LdAt w F V L) (t : Tk) (hs : t.text.size ≤ maxLen) : Calls Tryz.prog 62 #[.pointer (some ⟨F.l, 0, none⟩), tkV t] w (UnitX (L.label t) w) := by
  have hnm := fun W => Name_calls t.text W hs
  have htk := fun W hW => h.taken t.text W hW
  have hst := fun W n => stop_calls W t n
  have l0 := blk_c (i := 0) (v := .pointer (some ⟨F.nb, 0, none⟩)) h.lb
  have l2 := blk_c (i := 2) (v := .int .i64 L.labels) h.lb
  have ll := blk_lt h.lb
  unfold tkV at hst ⊢
  unfold Ld.label
  clear h
  cases hn : nameOK t.text with
  | false =>
    rw [hn] at hnm
    rw [if_pos rfl]
    clear hn htk
    go_enter Tryz.func62, Tryz.ntmps62
    go_wp2_with (first
      | (go_at_call 115; go_must (refine (hnm _).mono ?_; rintro e' W2 ⟨rfl, hw2⟩; obtain rfl := hw2.symm))
      | (go_at_call 68; go_must (refine (hst _ 21).mono ?_; rintro e w' ⟨b, rfl, hf, hs⟩)))
    exact ⟨rfl, b, rfl, hf, (Same.alloc _ _ _).trans hs⟩
  | true =>
    rw [hn] at hnm
    rw [if_neg (by decide)]
    cases ht : L.taken t.text with
    | true =>
      rw [ht] at htk
      rw [if_pos rfl]
      clear hn ht
      go_enter Tryz.func62, Tryz.ntmps62
      go_wp2_with (go_at_call 115; go_must (refine (hnm _).mono ?_; rintro e' W2 ⟨rfl, hw2⟩; obtain rfl := hw2))
      refine region_canon (.read 0 (.read 1 (.read 2 (.read 3 (.read 4 (.read 5 (.one 6 [] (.read 7 (.done))))))))) (by kernel_rfl) (by kernel_rfl) ?_
      iterate 6 (refine canon_read rfl (fun K hK => ?_); go_simp; (try go_bits); (try (rw [if_pos (by omega)]; go_simp)); refine hK _ ?_; clear hK K)
      refine canon_oneL rfl ?_
      go_wp2_with (go_at_call 116; go_must (refine (htk _ ((Same.alloc [] _ _).trans (Same.drew [] _))).mono ?_; rintro e3 W3 ⟨rfl, hs3⟩; have hB3 := hs3.get (blk_new w (.cells #[.string t.text, .int .i64 t.at_.off, .int .i64 t.at_.line, .int .i64 t.at_.col] 54)) (by simp); obtain ⟨k0, k1, k2, k3, kf⟩ := blk4 hB3; have bl3 := blk_lt hB3; have Hs3 := Lib.hid (((Same.alloc [] w (.cells #[.string t.text, .int .i64 t.at_.off, .int .i64 t.at_.line, .int .i64 t.at_.col] 54)).trans (Same.drew [] _)).trans hs3); have l03 := Hs3.out.cell l0 (by simp); have l23 := Hs3.out.cell l2 (by simp); have ll3 := Nat.lt_of_lt_of_le ll Hs3.out.size; clear hs3 hB3))
      refine EQ.mk rfl ?_ ?_
      · repeat (first | exact rr_nil | (refine rr_skip rfl ?_) | (refine rr_cons rfl (by go_simp; (try go_bits); (try (rw [if_pos (by omega)]; go_simp)); (try trivial)) ?_))
      iterate 1 (refine canon_read rfl (fun K hK => ?_); go_simp; (try go_bits); (try (rw [if_pos (by omega)]; go_simp)); refine hK _ ?_; clear hK K)
      refine canon_done ?_
      go_wp2_with (go_at_call 68; go_must (refine (hst _ 20).mono ?_; rintro e w' ⟨b, rfl, hf, hs⟩))
      exact ⟨rfl, b, rfl, hf, Hs3.out.trans hs⟩
    | false =>
      rw [ht] at htk
      rw [if_neg (by decide)]
      clear hn ht
      by_cases hl : 1024 ≤ L.labels
      · rw [if_pos hl]
        go_enter Tryz.func62, Tryz.ntmps62
        go_wp2_with (go_at_call 115; go_must (refine (hnm _).mono ?_; rintro e' W2 ⟨rfl, hw2⟩; obtain rfl := hw2))
        refine region_canon (.read 0 (.read 1 (.read 2 (.read 3 (.read 4 (.read 5 (.one 6 [] (.read 7 (.done))))))))) (by kernel_rfl) (by kernel_rfl) ?_
        iterate 6 (refine canon_read rfl (fun K hK => ?_); go_simp; (try go_bits); (try (rw [if_pos (by omega)]; go_simp)); refine hK _ ?_; clear hK K)
        refine canon_oneL rfl ?_
        go_wp2_with (go_at_call 116; go_must (refine (htk _ ((Same.alloc [] _ _).trans (Same.drew [] _))).mono ?_; rintro e3 W3 ⟨rfl, hs3⟩; have hB3 := hs3.get (blk_new w (.cells #[.string t.text, .int .i64 t.at_.off, .int .i64 t.at_.line, .int .i64 t.at_.col] 54)) (by simp); obtain ⟨k0, k1, k2, k3, kf⟩ := blk4 hB3; have bl3 := blk_lt hB3; have Hs3 := Lib.hid (((Same.alloc [] w (.cells #[.string t.text, .int .i64 t.at_.off, .int .i64 t.at_.line, .int .i64 t.at_.col] 54)).trans (Same.drew [] _)).trans hs3); have l03 := Hs3.out.cell l0 (by simp); have l23 := Hs3.out.cell l2 (by simp); have ll3 := Nat.lt_of_lt_of_le ll Hs3.out.size; clear hs3 hB3))
        refine EQ.mk rfl ?_ ?_
        · repeat (first | exact rr_nil | (refine rr_skip rfl ?_) | (refine rr_cons rfl (by go_simp; (try go_bits); (try (rw [if_pos (by omega)]; go_simp)); (try trivial)) ?_))
        iterate 1 (refine canon_read rfl (fun K hK => ?_); go_simp; (try go_bits); (try (rw [if_pos (by omega)]; go_simp)); refine hK _ ?_; clear hK K)
        refine canon_done ?_
        go_wp2_with (go_at_call 68; go_must (refine (hst _ 22).mono ?_; rintro e w' ⟨b, rfl, hf, hs⟩))
        exact ⟨rfl, b, rfl, hf, Hs3.out.trans hs⟩
      · rw [if_neg hl]
        go_enter Tryz.func62, Tryz.ntmps62
        go_wp2_with (go_at_call 115; go_must (refine (hnm _).mono ?_; rintro e' W2 ⟨rfl, hw2⟩; obtain rfl := hw2))
        refine region_canon (.read 0 (.read 1 (.read 2 (.read 3 (.read 4 (.read 5 (.one 6 [] (.read 7 (.done))))))))) (by kernel_rfl) (by kernel_rfl) ?_
        iterate 6 (refine canon_read rfl (fun K hK => ?_); go_simp; (try go_bits); (try (rw [if_pos (by omega)]; go_simp)); refine hK _ ?_; clear hK K)
        refine canon_oneL rfl ?_
        go_wp2_with (go_at_call 116; go_must (refine (htk _ ((Same.alloc [] _ _).trans (Same.drew [] _))).mono ?_; rintro e3 W3 ⟨rfl, hs3⟩; have hB3 := hs3.get (blk_new w (.cells #[.string t.text, .int .i64 t.at_.off, .int .i64 t.at_.line, .int .i64 t.at_.col] 54)) (by simp); obtain ⟨k0, k1, k2, k3, kf⟩ := blk4 hB3; have bl3 := blk_lt hB3; have Hs3 := Lib.hid (((Same.alloc [] w (.cells #[.string t.text, .int .i64 t.at_.off, .int .i64 t.at_.line, .int .i64 t.at_.col] 54)).trans (Same.drew [] _)).trans hs3); have l03 := Hs3.out.cell l0 (by simp); have l23 := Hs3.out.cell l2 (by simp); have ll3 := Nat.lt_of_lt_of_le ll Hs3.out.size; clear hs3 hB3))
        refine EQ.mk rfl ?_ ?_
        · repeat (first | exact rr_nil | (refine rr_skip rfl ?_) | (refine rr_cons rfl (by go_simp; (try go_bits); (try (rw [if_pos (by omega)]; go_simp)); (try trivial)) ?_))
        iterate 1 (refine canon_read rfl (fun K hK => ?_); go_simp; (try go_bits); (try (rw [if_pos (by omega)]; go_simp)); refine hK _ ?_; clear hK K)
        refine canon_done ?_
        go_wp2
        refine bodyPost_end (results_none rfl _ _ _) rfl ?_
        exact ⟨rfl, Hs3.out⟩
end Go.Proofs.YtdhkmfpfbjcdiaaGreatDoor
namespace Go.Proofs.YtdhkmfpfbjcdiaaGreatDoor
def QP (Q : Exit → Act → World → Prop) : Exit → Act → World → Prop
  | .normal, a, w => Q .normal a w
  | .panic c, a, w => ∀ a', a'.defers = a.defers → Q (.panic c) a' w
  | _, _, _ => False
theorem steps2_wpP {P : Program} {ops : Array Oper} {Q : Exit → Act → World → Prop} (hs : Region.noSelect ops = true) : Steps2 ops (wpOp P ops (QP Q)) (YR P ops) := {
  y_put i v a w d x h := by
    unfold YR
    constructor
    · rintro ⟨o, ho, h1⟩
      refine ⟨o, ho, ?_⟩
      rw [looks_of ho] at h
      unfold ReadAt at h1 ⊢
      rw [execOp_put o (fun cs b => Region.noSelect_spec hs i o cs b ho) a d x h, wanted_put o a d x h] at h1
      exact h1
    · rintro ⟨o, ho, h1⟩
      refine ⟨o, ho, ?_⟩
      rw [looks_of ho] at h
      unfold ReadAt at h1 ⊢
      rw [execOp_put o (fun cs b => Region.noSelect_spec hs i o cs b ho) a d x h, wanted_put o a d x h]
      exact h1
  read i v a w K hi hy hK := by
    obtain ⟨o, ho, h1⟩ := hy
    rw [dst_of ho] at hK
    unfold wpOp
    simp only [ho]
    unfold ReadAt at h1
    split
    · rename_i hw
      rw [if_pos hw] at h1
      refine .inl ?_
      unfold Oper.wp
      cases hr : (execOp a.eval o).run P w with
      | halt x w' => rw [hr] at h1; exact h1.elim
      | ok n w' =>
        rw [hr] at h1
        cases n with
        | value u => obtain ⟨rfl, rfl⟩ := h1; exact hK
        | _ => exact (show False from h1).elim
    · rename_i hw
      rw [if_neg hw] at h1
      subst h1
      exact hK
  eff i K K' U a w hi hap hS hKK hdef := by
    have ho : ops[i]? = some ops[i] := Array.getElem?_eq_getElem hi
    obtain ⟨o, ho⟩ : ∃ o, ops[i]? = some o := ⟨_, ho⟩
    obtain ⟨he, hw⟩ := exec_puts ho (fun cs b => Region.noSelect_spec hs i o cs b ho) U a hap
    rw [dst_of ho] at hKK
    unfold wpOp at hS ⊢
    simp only [ho] at hS ⊢
    rw [hw] at hS
    split
    · rename_i hww
      rw [if_pos hww] at hS
      have hout : ¬ LetsOut (QP Q) := fun ⟨a, w, h⟩ => h
      rcases hS with hS | ⟨_, hS⟩
      case inr => exact absurd hS hout
      refine .inl ?_
      unfold Oper.wp at hS ⊢
      rw [he] at hS
      have hd0 := puts_defers ops U a
      cases hr : (execOp a.eval o).run P w with
      | halt x w' =>
        rw [hr] at hS
        cases x <;> first | exact (show False from hS).elim | exact fun a' ha' => hS a' (ha'.trans hd0.symm)
      | ok n w' =>
        rw [hr] at hS
        cases n with
        | value u => exact hKK u w' hS
        | skip => exact hKK undef w' hS
        | defer d =>
          have h1 := hdef _ _ hS
          rw [put_defers'] at h1
          have h2 : (d :: (puts ops U a).defers).length = a.defers.length := congrArg List.length h1
          rw [hd0] at h2
          simp at h2
        | enter f args =>
          refine Calls.mono hS (fun e w'' h => ?_)
          cases e with
          | returned v => exact hKK v w'' h
          | panicked c => exact fun a' ha' => h a' (ha'.trans hd0.symm)
          | outgrown => exact absurd h hout
        | row row args => exact Rows.mono hS (fun v w'' h => hKK v w'' h)
        | _ => exact (show False from hS).elim
    · rename_i hww
      rw [if_neg hww] at hS
      exact hKK undef w hS }
def CanonP (P : Program) (ops : Array Oper) (Q : Exit → Act → World → Prop) (t : OTree) (pd : List (Nat × Value)) (a : Act) (w : World) : Prop := Canon ops (wpOp P ops (QP Q)) (YR P ops) (Q .normal) t pd a w
theorem region_canonP {P : Program} {id : Nat} {l : List Oper} {Q : Exit → Act → World → Prop} {a : Act} {w : World} (t : OTree) (hm : P.follows .mixedOrders = true) (hB : (Region.noSelect l.toArray && canonB l.toArray t) = true)
    (h : CanonP P l.toArray Q t [] a w.drew) : (Code.region id l.toArray true).wp P Q a w := by
  rw [Bool.and_eq_true] at hB
  obtain ⟨hs, hB⟩ := hB
  unfold canonB at hB
  rw [Bool.and_eq_true] at hB
  have h1 : AnyS l.toArray (wpOp P l.toArray (QP Q)) (QP Q .normal) l.toArray.size (Array.replicate l.toArray.size false) a w.drew :=
    any_of_canon (QN := Q .normal) (steps2_wpP hs) hB.2 _ t [] [] _ a [] _ (oinv_start _) hB.1 (by
      unfold left
      rw [List.countP_eq_length.2 (fun i _ => by rw [getD_replicate_false]; rfl)]
      simp) (by simp) (by simp) h
  refine Code.wp_mono (fun e a w h => ?_) (wp_region_any hm (anyS_wpAny _ _ _ _ h1))
  cases e <;> first | exact h a rfl | exact (show False from h).elim | exact h
section
variable {P : Program} {ops : Array Oper} {Q : Exit → Act → World → Prop} {a : Act} {w : World} {pd : List (Nat × Value)} {t : OTree} {i : Nat} {o : Oper}
theorem canonP_done (h : Q .normal a w) : CanonP P ops Q .done pd a w := h
theorem canonP_read (ho : ops[i]? = some o) (h : ∀ K : Value → Prop, (∀ v, CanonP P ops Q t ((i, v) :: pd) (a.put o.dst v) w → K v) → ReadAt P ops o a w K) : CanonP P ops Q (.read i t) pd a w := by
  have h1 := h (fun v => CanonP P ops Q t ((i, v) :: pd) (a.put o.dst v) w ∧ ReadAt P ops o a w (fun u => u = v))
  have key : ∃ v, ReadAt P ops o a w (fun u => u = v) ∧ CanonP P ops Q t ((i, v) :: pd) (a.put o.dst v) w := by
    have h2 := h (fun v => CanonP P ops Q t ((i, v) :: pd) (a.put o.dst v) w) (fun _ h => h)
    unfold ReadAt at h2 ⊢
    split
    · rename_i hw
      rw [if_pos hw] at h2
      cases hr : (execOp a.eval o).run P w with
      | halt x w' => rw [hr] at h2; exact (show False from h2).elim
      | ok n w' =>
        rw [hr] at h2
        cases n with
        | value u => obtain ⟨rfl, h3⟩ := h2; exact ⟨u, ⟨rfl, rfl⟩, h3⟩
        | _ => exact (show False from h2).elim
    · rename_i hw
      rw [if_neg hw] at h2
      exact ⟨undef, rfl, h2⟩
  obtain ⟨v, hv, hc⟩ := key
  refine ⟨v, ⟨o, ho, hv⟩, ?_⟩
  rw [dst_of ho]
  exact hc
def EP (P : Program) (ops : Array Oper) (Q : Exit → Act → World → Prop) (L : List Nat) (t : OTree) (pd : List (Nat × Value)) (ds : List Deferred) : Exit → Act → World → Prop
  | .normal, a, w => a.defers = ds ∧ Reruns P ops L pd a w ∧ CanonP P ops Q t pd a w
  | .panic c, a, w => a.defers = ds ∧ ∀ a', a'.defers = ds → Q (.panic c) a' w
  | _, _, _ => False
theorem EP.mk {L : List Nat} {ds : List Deferred} (h1 : a.defers = ds) (h2 : Reruns P ops L pd a w) (h3 : CanonP P ops Q t pd a w) : EP P ops Q L t pd ds .normal a w := ⟨h1, h2, h3⟩
theorem effP_of {L : List Nat} (ho : ops[i]? = some o) (h : wpList P ops (EP P ops Q L t pd a.defers) [o] a w) :
    wpOp P ops (QP Q) i (fun a' w' => a'.defers = a.defers ∧ (∀ p ∈ pd, p.1 ∈ L → YR P ops p.1 p.2 a' w') ∧ CanonP P ops Q t pd a' w') a w := by
  have hout : ¬ LetsOut (EP P ops Q L t pd a.defers) := fun ⟨a, w, h⟩ => h
  unfold wpOp
  simp only [ho]
  unfold wpList at h
  have conv : ∀ a' w', EP P ops Q L t pd a.defers .normal a' w' → a'.defers = a.defers ∧ (∀ p ∈ pd, p.1 ∈ L → YR P ops p.1 p.2 a' w') ∧ CanonP P ops Q t pd a' w' := fun a' w' h => ⟨h.1, reruns_all h.2.1, h.2.2⟩
  split
  · rename_i hw
    rw [if_pos hw] at h
    rcases h with h | ⟨_, h⟩
    case inr => exact absurd h hout
    refine .inl ?_
    unfold Oper.wp at h ⊢
    cases hr : (execOp a.eval o).run P w with
    | halt x w' =>
      rw [hr] at h
      cases x <;> first | exact (show False from h).elim | exact fun a' ha' => h.2 a' ha'
    | ok n w' =>
      rw [hr] at h
      cases n with
      | value u => exact conv _ _ h
      | skip => exact conv _ _ h
      | defer d => exact conv _ _ h
      | enter f args =>
        refine Calls.mono h (fun e w'' h => ?_)
        cases e with
        | returned v => exact conv _ _ h
        | panicked c => exact fun a' ha' => h.2 a' ha'
        | outgrown => exact absurd h hout
      | row row args => exact Rows.mono h (fun v w'' h => conv _ _ h)
      | _ => exact (show False from h).elim
  · rename_i hw
    rw [if_neg hw] at h
    exact conv _ _ h
theorem canonP_one {L : List Nat} (ho : ops[i]? = some o) (h : wpList P ops (EP P ops Q L t pd a.defers) [o] a w) : CanonP P ops Q (.one i L t) pd a w := effP_of ho h
theorem canonP_oneL {l r : List Oper} {L : List Nat} (ho : l.drop i = o :: r) (h : wpList P l.toArray (EP P l.toArray Q L t pd a.defers) [o] a w) : CanonP P l.toArray Q (.one i L t) pd a w :=
  canonP_one (by rw [List.getElem?_toArray, ← List.head?_drop, ho]; rfl) h
end
end Go.Proofs.YtdhkmfpfbjcdiaaGreatDoor
