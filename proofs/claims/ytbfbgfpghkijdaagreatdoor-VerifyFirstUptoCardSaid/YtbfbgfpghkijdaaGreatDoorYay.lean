/- lemmalaw texts, part 25. -/
import Derived.Test.YtbfbgfpghkijdaaGreatDoorYac
import Derived.Test.YtbfbgfpghkijdaaGreatDoorYax
set_option maxRecDepth 100000
set_option linter.unusedVariables false
set_option linter.unusedSimpArgs false
set_option maxHeartbeats 32000000
namespace Go.Proofs.YtbfbgfpghkijdaaGreatDoor
open Go.RowKit
theorem Cn.ne_row {α : Type} {enc : α → Value} {w : World} {b : Nat} {l : List (α × Value)} (h : Cn enc w b l) {e k n : Nat} {v : Value} {xs : List Value} (hr : Row w e k v n xs) : v.ownBlock ≠ some b := by
 obtain ⟨es, cl, hb, _⟩ := h
 exact hr.ne_map hb
def EF (ps : List Pr) : List (Pr × Value) := ps.map fun p => (p, .bool true)
theorem F2 (p : Pr) : ∀ ps : List Pr, Bd p (.bool true) (EF ps) = EF (Dh ps p)
 | [] => by simp [EF, Bd, Dh]
 | q :: r => by
  have ih := F2 p r
  unfold EF Dh at ih ⊢
  rw [List.map_cons, Bd]
  by_cases h : p = q
  ·subst h
   rw [if_pos rfl, if_pos (List.mem_cons_self ..)]
   rfl
  ·rw [if_neg h, ih]
   by_cases hm : p ∈ r
   ·rw [if_pos hm, if_pos (List.mem_cons_of_mem _ hm)]; rfl
   ·rw [if_neg hm, if_neg (fun hc => (List.mem_cons.1 hc).elim h hm)]; rfl
theorem J4 (va : Value) (l : List Int) (w : World) (he : Row w 3 1 va l.length (Ay l)) (hn : l.length ≤ 1000000) (x : Int) : Calls Tryz.prog 53 #[va, .int .i64 x] w fun e w' => e = .returned (.bool (l.contains x)) ∧ w' = w := by
 rcases Nat.eq_zero_or_pos l.length with h0 | hp
 ·obtain ⟨a, c, rfl⟩ := he.shape
  have hl : l = [] := List.eq_nil_of_length_eq_zero h0
  subst hl
  exact Tryz.slices_Contains_int_empty a c x w
 ·obtain ⟨g, c, rfl, -, -⟩ := BS he hp
  have := Tryz.slices_Contains_int g 0 l.length c l x w (Nat.le_refl _) (by omega) (fun j hj => by
   obtain ⟨g', c', hv, h1, -⟩ := BS he hj
   cases hv
   rw [Nat.zero_add, h1]
   simp [List.getD_eq_getElem?_getD, hj])
  rw [List.take_length] at this
  exact this
theorem NL (L : Ld) (ws : List Tk) (v : List Int) (ps : List Pr) (k : Nat) (hk : k < ws.length) : L.apartGo (ws.drop k) v ps = (NF L.tbl ws[k]).bind fun n => if v.contains n = true then .error (ws[k], 50) else
  if 256 < ((Bw (D0 v n) []).foldl Dh ps).length then .error (ws[k], 22) else L.apartGo (ws.drop (k + 1)) (v ++ [n]) ((Bw (D0 v n) []).foldl Dh ps) := by
 rw [List.drop_eq_getElem_cons hk, Ld.apartGo, Oo]
 rfl
theorem Tryz.scopePairs (A B : Option Addr) (n c m d : Nat) (w : World) : (Instr.field 69 (.agg #[.slice A n c, .slice B m d]) 1).run Tryz.prog w = .ok (.slice B m d) w := by kernel_rfl
def PF (w : World) (b : Nat) (P : List Pr) (u : Value) (W : World) : Prop := ∃ k : Nat, k ≤ P.length ∧ u = .int .i64 k ∧ Cn prV W b (EF ((P.take k).foldl Dh [])) ∧ Ad [] w W
def PW (w : World) (b : Nat) (L : Ld) (ws : List Tk) (ps0 : List Pr) (v u : Value) (W : World) : Prop :=
 ∃ (k : Nat) (vl : List Int) (ps : List Pr), k ≤ ws.length ∧ u = .int .i64 k ∧ vl.length = k ∧ Row W 3 1 v vl.length (Ay vl) ∧ AH w v ∧ Cn prV W b (EF ps) ∧ Ad [] w W ∧ L.apartGo ws [] ps0 = L.apartGo (ws.drop k) vl ps
def PX (W4 : World) (b : Nat) (N ps : List Pr) (u : Value) (W : World) : Prop := ∃ j : Nat, j ≤ N.length ∧ u = .int .i64 j ∧ Cn prV W b (EF ((N.take j).foldl Dh ps)) ∧ Ad [b] W4 W
theorem Kf (N ps : List Pr) {j : Nat} (hj : j < N.length) : (N.take (j + 1)).foldl Dh ps = Dh ((N.take j).foldl Dh ps) N[j] := by
 rw [List.take_succ_eq_append_getElem hj, List.foldl_append]
 rfl
theorem E9 (w : World) (l nb t s : Nat) (TA : TA) (A : SA) (M : List Nat) (L : Ld) (h : LR w l nb t s TA A M L.tbl L.scs) (va : Value) (ws : List Tk) (hw : Row w 59 4 va ws.length (AC ws)) (hn : ws.length ≤ 20000) :
  Calls Tryz.prog 68 #[.pointer (some ⟨l, 0, none⟩), va] w (CV (L.apart ws) w) := by
 have hmm := @run_makeMap Tryz.prog
 have hfd := Tryz.scopePairs
 obtain ⟨Aw, cw, rfl⟩ := hw.shape
 have hsc := fun (W : World) (hW : Ad [] w W) => F8 W s t A M L.scs (h.stk.same hW) h.small
 have hal : (AL L.scs).length ≤ 17000 := GN h.small h.stk.len
 have l0 := h.lt.l0
 have n2 := h.lt.n2
 have l1 := h.l1
 have ll := World.block_lt_of_cell? _ _ l0
 have H := Kd h
 have Hw := Kd hw
 clear h hw
 go_enter Tryz.func68, Tryz.ntmps68
 go_wp2_with (go_at_call 113; go_must (refine (hsc _ (Ad.alloc [] _ _)).mono ?_; rintro e1 W1 ⟨hv1, pv1, evs1, rfl, hh1, hf1, hfe1, hr1, hfp1, hs1⟩; obtain ⟨A1, c1, rfl⟩ := hr1.shape; obtain ⟨A1', c1', rfl⟩ := hh1.row.shape; have hm1 := (Cn.new prV w 0).same hs1 (by simp); have Hs1 := Kd ((Ad.alloc [] w (.map #[] 0)).trans hs1); have Hr1 := Kd hr1; have Hm1 := Kd hm1; clear hh1 hf1 hfe1 hr1 hfp1 hs1 hm1 hsc))
 have h0 : PF w w.heap.size (AL L.scs) (.int .i64 0) W1 := ⟨0, Nat.zero_le _, rfl, Hm1.out, Hs1.out⟩
 have H0 := Kd h0
 clear h0
 go_loopw [22] (fun u wr => PF w w.heap.size (AL L.scs) u wr ∧ Row wr 47 2 (.slice A1 (AL L.scs).length c1) (AL L.scs).length (AT (AL L.scs))) (fun u _ => (AL L.scs).length - (intOf u).toNat)
 case atStart => exact ⟨H0.out, Hr1.out⟩
 case round =>
  obtain ⟨⟨k, hk, rfl, hset, hsm⟩, hrow⟩ := hrel
  by_cases hlt : k < (AL L.scs).length
  ·obtain ⟨g, c, hv, hcell⟩ := hrow.elem (i := k) hlt (ys := BT (AL L.scs)[k]) rfl (CG _ k hlt) (by decide)
   have t0 := (hcell 0 (by decide)).1
   have t1 := (hcell 1 (by decide)).1
   simp only [BT, List.getD_cons_zero, List.getD_cons_succ, Nat.add_zero] at t0 t1
   have Hset := Kd hset
   have Hsm := Kd hsm
   have Hrow := Kd hrow
   cases hv
   have hgl := World.block_lt_of_cell? _ _ t0
   clear hset hsm hcell hrow H0
   go_wp2_with (at_mapUpdate; go_must (refine C7 Mc (Hset.out.same (Ad.alloc [] wr (.cells #[.int .i64 (AL L.scs)[k].1, .int .i64 (AL L.scs)[k].2] 47)) (by simp)) Tryz.underlying220 rfl _ _ _ rfl (AL L.scs)[k] (.bool true) rfl rfl rfl ?_; intro W2 h2 hs2; have H2 := Kd h2; have Hs2 := Kd hs2; clear h2 hs2))
   go_roundw
   case rel =>
    refine ⟨⟨k + 1, hlt, by go_num, ?_, (Hsm.out.trans (Ad.alloc _ _ _)).then Hs2.out fun x hx => .inr (by simp at hx; omega)⟩, (Hrow.out.same (Ad.alloc [] _ _) (by simp)).same Hs2.out fun c hc hm => ?_⟩
    ·have := H2.out
     rw [F2] at this
     rw [Kf _ _ hlt]
     exact this
    ·have := List.mem_singleton.1 hm
     subst this
     exact Hset.out.ne_row Hrow.out hc
   case measure => simp [intOf]; omega
  ·have hkk : k = (AL L.scs).length := by omega
   subst hkk
   rw [List.take_length] at hset
   obtain ⟨ps0, hps0⟩ : ∃ ps0, (AL L.scs).foldl Dh [] = ps0 := ⟨_, rfl⟩
   rw [hps0] at hset
   have Hps0 := Kd hps0
   have hwz : w.heap.size < wr.heap.size := hset.lt
   have h2 : PW w w.heap.size L ws ps0 (.slice none 0 0) (.int .i64 0) wr := ⟨0, [], ps0, Nat.zero_le _, rfl, rfl, World.ownsRow_nil _ _ _ _, by simp [AH, Value.ownBlock], hset, hsm, rfl⟩
   have H2 := Kd h2
   clear h2 hset hsm hrow H0 hps0
   go_wp2
   go_loopw [5, 31] (fun v u wr => PW w w.heap.size L ws ps0 v u wr) (fun _ u _ => ws.length - (intOf u).toNat)
   case atStart => exact H2.out
   case round =>
    obtain ⟨k, vl, ps, hk, rfl, hvk, hrow, hfr, hset, hsm, heq⟩ := hrel
    by_cases hlt : k < ws.length
    ·have hstep := NL L ws vl ps k hlt
     obtain ⟨g, c, hv, t0, t1, t2, t3, hgl⟩ := DA (Hw.out.same hsm (by simp)) hlt
     cases hv
     have hR := H.out.same hsm
     have hvr := fun (W : World) (hW : Ad [] wr W) => FZ W l nb t TA L.tbl (hR.lt.same hW) ws[k]
     have hst := fun W n => CE W ws[k] n
     have hcn := fun (W : World) (hW : Ad [] wr W) (n : Int) => J4 _ vl W (hrow.same hW (by simp)) (by omega) n
     have hwi := fun (W : World) (hW : Ad [] wr W) (n : Int) => Nt W _ vl (hrow.same hW (by simp)) n (by omega)
     unfold tkV at hvr hst
     have hvln : vl.length ≤ 20000 := by omega
     cases ha : NF L.tbl ws[k] with
     | error p =>
      obtain ⟨tk, en⟩ := p
      rw [ha, Eg] at hstep
      rw [ha] at hvr
      have Hres := Kd (heq.trans hstep)
      obtain ⟨Av, cv, rfl⟩ := hrow.shape
      have Hsm := Kd hsm
      unfold PQ at hvr
      have Hps := Hps0
      clear hstep ha heq hrow hfr hsm hset hR H2 hst hcn hwi hvk
      go_wp2_with (go_at_call 114; go_must (refine (hvr _ (Ad.alloc _ _ _)).mono ?_; rintro e w' ⟨b, rfl, hf, hs⟩))
      refine ⟨rfl, ?_⟩
      rw [Ld.apart, Hps.out, Hres.out]
      exact ⟨b, rfl, hf, (Hsm.out.trans (Ad.alloc _ _ _)).trans hs⟩
     | ok n =>
      rw [ha, Ei] at hstep
      rw [ha] at hvr
      unfold PQ at hvr
      dsimp only at hvr
      have hcn := fun W hW => hcn W hW n
      have hwi := fun W hW => hwi W hW n
      cases hc : vl.contains n with
      | true =>
       rw [if_pos hc] at hstep
       have Hres := Kd (heq.trans hstep)
       obtain ⟨Av, cv, rfl⟩ := hrow.shape
       have Hsm := Kd hsm
       rw [hc] at hcn
       have Hps := Hps0
       clear hstep ha heq hrow hfr hsm hset hR H2 hc hwi hvk
       go_wp2_with (first
        | (go_at_call 114; go_must (refine (hvr _ (Ad.alloc _ _ _)).mono ?_; rintro e1 W3 ⟨rfl, hs3⟩; have hB3 := hs3.get (Aj wr _) (by simp); obtain ⟨k0, k1, k2, k3, kf⟩ := BV hB3; have bl3 := Af hB3; have Hs3 := Kd ((Ad.alloc [] wr (Obj.cells #[.string ws[k].text, .int .i64 ws[k].at_.off, .int .i64 ws[k].at_.line, .int .i64 ws[k].at_.col] 59)).trans hs3); clear hs3 hB3))
        | (go_at_call 53; go_must (refine (hcn _ Hs3.out).mono ?_; rintro e' W4 ⟨rfl, hw2⟩; obtain rfl := hw2.symm))
        | (go_at_call 65; go_must (refine (hst _ 50).mono ?_; rintro e w' ⟨b, rfl, hf, hs⟩)))
       refine ⟨rfl, ?_⟩
       rw [Ld.apart, Hps.out, Hres.out]
       exact ⟨b, rfl, hf, (Hsm.out.trans Hs3.out).trans hs⟩
      | false =>
       rw [if_neg (by rw [hc]; decide)] at hstep
       rw [hc] at hcn
       obtain ⟨N, hN⟩ : ∃ N, Bw (D0 vl n) [] = N := ⟨_, rfl⟩
       have hNl : N.length ≤ 20000 := by
        rw [← hN]
        have h1 := Ji (D0 vl n) []
        have h2 : (D0 vl n).length = vl.length := by simp [D0]
        rw [List.length_nil] at h1
        omega
       rw [hN] at hstep
       have HN := Kd hN
       have Hstep := Kd (heq.trans hstep)
       obtain ⟨Av, cv, rfl⟩ := hrow.shape
       have Hsm := Kd hsm
       have Hrow := Kd hrow
       have Hfr := Kd hfr
       have Hset := Kd hset
       have Hvk := Kd hvk
       have hwlt : (D0 vl n).length ≤ 1000000 := by simp [D0]; omega
       have hwz2 : w.heap.size < wr.heap.size := hset.lt
       obtain ⟨Wo, rfl⟩ : ∃ Wo, Wo = wr := ⟨_, rfl⟩
       clear hstep ha heq hrow hfr hsm hset hR H2 hc hN hvk
       go_wp2_with (first
        | (go_at_call 114; go_must (refine (hvr _ (Ad.alloc _ _ _)).mono ?_; rintro e1 W3 ⟨rfl, hs3⟩; have hB3 := hs3.get (Aj Wo _) (by simp); have HB3 := Kd hB3; have Hs3 := Kd ((Ad.alloc [] Wo (Obj.cells #[.string ws[k].text, .int .i64 ws[k].at_.off, .int .i64 ws[k].at_.line, .int .i64 ws[k].at_.col] 59)).trans hs3); clear hs3 hB3))
        | (go_at_call 53; go_must (refine (hcn _ Hs3.out).mono ?_; rintro e' W4 ⟨rfl, hw2⟩; obtain rfl := hw2.symm))
        | (go_at_call 116; go_must (refine (hwi _ Hs3.out).mono ?_; rintro e' W5 ⟨v5, rfl, hr5, hs5, hf5⟩; have hno5 := Od v5 (D0 vl n) W5 hr5 hwlt; obtain ⟨A5, c5, rfl⟩ := hr5.shape; have Hs5 := Kd (Hs3.out.trans hs5); have HB5 := Kd (hs5.get HB3.out (by simp)); clear hr5 hs5 hf5))
        | (go_at_call 115; go_must (refine hno5.mono ?_; rintro e' W6 ⟨v6, rfl, hr6, hs6, hf6⟩; rw [HN.out] at hr6; obtain ⟨A6, c6, rfl⟩ := hr6.shape; have Hs6 := Kd (Hs5.out.trans hs6); have HB6 := Kd (hs6.get HB5.out (by simp)); have Hr6 := Kd hr6; clear hr6 hs6 hf6)))
       have h3 : PX W6 w.heap.size N ps (.int .i64 0) W6 := ⟨0, Nat.zero_le _, rfl, Hset.out.same Hs6.out (by simp), Ad.refl _ _⟩
       have H3 := Kd h3
       clear h3
       go_loopw [48] (fun u wr => PX W6 w.heap.size N ps u wr) (fun u _ => N.length - (intOf u).toNat)
       case atStart => exact H3.out
       case round =>
        obtain ⟨j, hj, rfl, hset, hsj⟩ := hrel
        have hw6 : w.heap.size ≤ wr.heap.size := Nat.le_of_lt hset.lt
        by_cases hjl : j < N.length
        ·have hrow := Hr6.out.same hsj (fun c hc hm => by have := List.mem_singleton.1 hm; subst this; exact (Hset.out.same Hs6.out (by simp)).ne_row Hr6.out hc)
         obtain ⟨g, c, hv, hcell⟩ := hrow.elem (i := j) hjl (ys := BT N[j]) rfl (CG _ j hjl) (by decide)
         have t0 := (hcell 0 (by decide)).1
         have t1 := (hcell 1 (by decide)).1
         simp only [BT, List.getD_cons_zero, List.getD_cons_succ, Nat.add_zero] at t0 t1
         have Hsetj := Kd hset
         have Hsj := Kd hsj
         cases hv
         have hgl := World.block_lt_of_cell? _ _ t0
         clear hset hsj hcell hrow H3
         go_wp2_with (at_mapUpdate; go_must (refine C7 Mc (Hsetj.out.same (Ad.alloc [] wr (.cells #[.int .i64 N[j].1, .int .i64 N[j].2] 47)) (by simp)) Tryz.underlying220 rfl _ _ _ rfl N[j] (.bool true) rfl rfl rfl ?_; intro W7 h7 hs7; have H7 := Kd h7; have Hs7 := Kd hs7; clear h7 hs7))
         go_roundw
         case rel =>
          refine ⟨j + 1, hjl, by go_num, ?_, (Hsj.out.trans (Ad.alloc _ _ _)).trans Hs7.out⟩
          have := H7.out
          rw [F2] at this
          rw [Kf _ _ hjl]
          exact this
         case measure => simp [intOf]; omega
        ·have hjj : j = N.length := by omega
         subst hjj
         rw [List.take_length] at hset
         obtain ⟨ps', hps'⟩ : ∃ ps', N.foldl Dh ps = ps' := ⟨_, rfl⟩
         rw [hps'] at hset
         have hstep := Hstep.out
         rw [hps'] at hstep
         obtain ⟨es, clock, hes, hsz⟩ := hset.len
         have hsz' : es.size = ps'.length := by rw [hsz]; simp [EF]
         have hlm := Ic (ty := 3) Tryz.underlying220 hes
         rw [hsz'] at hlm
         have hB7 := hsj.get HB6.out (by simp; omega)
         obtain ⟨k0, k1, k2, k3, kf⟩ := BV hB7
         have bl7 := Af hB7
         have hs8 : Ad [w.heap.size] Wo wr := (Hs6.out.mono (by simp)).trans hsj
         have Hs8 := Kd hs8
         have Hset7 := Kd hset
         clear hset hes hsz hsz' hsj hB7 hps' H3 hs8
         have hsf : ∀ x ∈ [w.heap.size], x ∈ ([] : List Nat) ∨ w.heap.size ≤ x := fun x hx => .inr (by simp at hx; omega)
         by_cases hbig : 256 < ps'.length
         ·rw [if_pos hbig] at hstep
          have Hres := Kd hstep
          have Hps := Hps0
          clear hstep Hstep
          go_wp2_with (go_at_call 65; go_must (refine (hst _ 22).mono ?_; rintro e w' ⟨b, rfl, hf, hs⟩))
          refine ⟨rfl, ?_⟩
          rw [Ld.apart, Hps.out, Hres.out]
          exact ⟨b, rfl, hf, (Hsm.out.then Hs8.out hsf).trans hs⟩
         ·rw [if_neg hbig] at hstep
          have Hres := Kd hstep
          have hrow8 := Hrow.out.same Hs8.out (fun c hc hm => by have := List.mem_singleton.1 hm; subst this; exact Hset.out.ne_row Hrow.out hc)
          have Hrow8 := Kd hrow8
          have Hsf := Kd hsf
          clear hstep Hstep hrow8 hsf
          go_wp2_with (at_builtin; refine Bh (W := wr) rfl _ _ 24 rfl 3 1 8 _ Tryz.underlying24 Tryz.infoInt' rfl (by decide) (.slice Av vl.length cv) _ _ rfl Hrow8.out [.int .i64 n] rfl rfl (by simp [Value.oneCell']) (by omega) (by decide) ?_; go_must (intro v9 W9 hr9 hs9 ho9; obtain ⟨A9, c9, rfl⟩ := hr9.shape; have Hr9 := Kd hr9; have Hs9 := Kd hs9; have Ho9 := Kd ho9; clear hr9 hs9 ho9))
          go_roundw
          case rel =>
           refine ⟨k + 1, vl ++ [n], ps', hlt, by go_num, by rw [List.length_append, Hvk.out]; rfl, by rw [Cq, List.length_append]; exact Hr9.out, Hfr.out.next (Nat.le_trans Hsm.out.size Hs8.out.size) Ho9.out, Hset7.out.same Hs9.out (fun hm => Hset7.out.ne_row Hrow8.out (Option.mem_toList.1 hm)), (Hsm.out.then Hs8.out Hsf.out).then Hs9.out fun c hc => .inr (Hfr.out c (Option.mem_toList.1 hc)), Hres.out⟩
          case measure => simp [intOf]; omega
    ·have hkk : k = ws.length := by omega
     subst hkk
     rw [List.drop_length, Ld.apartGo] at heq
     obtain ⟨Av, cv, rfl⟩ := hrow.shape
     have Heq := Kd heq
     have Hrow := Kd hrow
     have Hfr := Kd hfr
     have Hsm := Kd hsm
     have Hps := Hps0
     clear heq hrow hfr hsm hset H2
     go_wp2
     go_ret
     rw [Ld.apart, Hps.out, Heq.out]
     exact ⟨.slice Av vl.length cv, rfl, Hrow.out, Hsm.out, Hfr.out⟩
theorem P8 {w : World} {M : List Nat} (k : ByteArray) : ∀ {l : List (ByteArray × Hy)} {m : List (ByteArray × Value)}, Bm (E0 w M) l m → (AJ k l = none ∧ AJ k m = none) ∨ ∃ x ev, AJ k l = some x ∧ AJ k m = some (.agg #[.string x.label, .bool x.floating, .int .i64 x.var, ev]) ∧ Ds w M ev x.expr
 | [], [], _ => .inl ⟨rfl, rfl⟩
 | (a, h) :: l, (b, v) :: m, hp => by
  obtain rfl : a = b := hp.1.1
  obtain ⟨ev, hv, hi⟩ := hp.1.2
  have := P8 k hp.2
  unfold AJ
  split
  ·dsimp only at hv
   exact .inr ⟨h, ev, rfl, by rw [hv], hi⟩
  ·exact this
 | [], _ :: _, hp => hp.elim
 | _ :: _, [], hp => hp.elim
theorem Oq (w : World) : (zeroValue 49).run Tryz.prog w = .ok (.agg #[.string ByteArray.empty, .bool false, .int .i64 0, .slice none 0 0]) w := by kernel_rfl
theorem zq74 {P : Prop} (h : P := by
 cases ha : AJ s fs <;> rw [ha] at k1 <;> dsimp only [Option.map, Option.getD, Option.isSome] at k1 <;> clear ha
 all_goals
  go_enter Tryz.func109, Tryz.ntmps109
  go_wp2
  go_ret
  exact ⟨rfl, Ad.alloc _ _ _⟩) : P := h
theorem Me (w : World) (nb mf mh : Nat) (fs : List (ByteArray × Nat)) (hm : List (ByteArray × Value)) (hl : List (ByteArray × Hy)) (M : List Nat) (c5 : w.cell? ⟨nb, 5, none⟩ = some (.map (some mf))) (c6 : w.cell? ⟨nb, 6, none⟩ = some (.map (some mh)))
  (h1 : BN w mf (Cd fs)) (h2 : BN w mh hm) (h3 : Bm (E0 w M) hl hm) (s : ByteArray) :
  Calls Tryz.prog 109 #[.pointer (some ⟨nb, 0, none⟩), .string s] w fun e w' => e = .returned (.bool ((AJ s fs).isSome || (AJ s hl).isSome)) ∧ Ad [] w w' := by
 have k1 := h1.run_lookup Tryz.underlying84 Tryz.underlying9 (Dp w) s true
 have k2 := h2.run_lookup Tryz.underlying85 Tryz.underlying9 (Oq w) s true
 rw [Bu, if_pos rfl] at k1
 rw [if_pos rfl] at k2
 rcases P8 s h3 with ⟨g1, g2⟩ | ⟨x, ev, g1, g2, hi⟩
 ·rw [g2] at k2
  rw [g1]
  dsimp only [Option.getD, Option.isSome] at k2
  clear h1 h2 h3 g1 g2
  exact zq74
 ·rw [g2] at k2
  rw [g1]
  obtain ⟨Ae, ce, rfl⟩ := hi.row.shape
  dsimp only [Option.getD, Option.isSome] at k2
  clear h1 h2 h3 g1 g2 hi
  exact zq74
theorem BR.taken {w : World} {F : LF} {V : LV} {L : Ld} (h : BR w F V L) (s : ByteArray) (W : World) (hW : Ad [] w W) : Calls Tryz.prog 109 #[.pointer (some ⟨F.nb, 0, none⟩), .string s] W fun e w' => e = .returned (.bool (L.taken s)) ∧ Ad [] W w' :=
 Me W F.nb F.mf F.mh L.finds V.hm L.hyps (V.blocks F) (hW.cell (Ai h.nbb) (by simp)) (hW.cell (Ai h.nbb) (by simp)) (h.finds.same hW (by simp)) (h.hyps.same hW (by simp)) (h.same hW).hin s
def Cz (x : Ex Unit) (w : World) (e : Ending) (w' : World) : Prop := match x with
 | .ok _ => e = .returned (.tuple #[]) ∧ Ad [] w w'
 | .error (t, n) => Gu t n w e w'
theorem AX (w : World) (F : LF) (V : LV) (L : Ld) (h : BR w F V L) (t : Tk) (hs : t.text.size ≤ maxLen) : Calls Tryz.prog 59 #[.pointer (some ⟨F.l, 0, none⟩), tkV t] w (Cz (L.label t) w) := by
 have hnm := fun W => JB t.text W hs
 have htk := fun W hW => h.taken t.text W hW
 have hst := fun W n => CE W t n
 have l0 := Ai (i := 0) (v := .pointer (some ⟨F.nb, 0, none⟩)) h.lb
 have l2 := Ai (i := 2) (v := .int .i64 L.labels) h.lb
 have ll := Af h.lb
 unfold tkV at hst ⊢
 unfold Ld.label
 clear h
 cases hn : CA t.text with
 | false =>
  rw [hn] at hnm
  rw [if_pos rfl]
  clear hn htk
  go_enter Tryz.func59, Tryz.ntmps59
  go_wp2_with (first
   | (go_at_call 108; go_must (refine (hnm _).mono ?_; rintro e' W2 ⟨rfl, hw2⟩; obtain rfl := hw2.symm))
   | (go_at_call 65; go_must (refine (hst _ 21).mono ?_; rintro e w' ⟨b, rfl, hf, hs⟩)))
  exact ⟨rfl, b, rfl, hf, (Ad.alloc _ _ _).trans hs⟩
 | true =>
  rw [hn] at hnm
  rw [if_neg (by decide)]
  cases ht : L.taken t.text with
  | true =>
   rw [ht] at htk
   rw [if_pos rfl]
   clear hn ht
   go_enter Tryz.func59, Tryz.ntmps59
   go_wp2_with (go_at_call 108; go_must (refine (hnm _).mono ?_; rintro e' W2 ⟨rfl, hw2⟩; obtain rfl := hw2))
   refine AD (.read 0 (.read 1 (.read 2 (.read 3 (.read 4 (.read 5 (.one 6 [] (.read 7 (.done))))))))) (by kernel_rfl) (by kernel_rfl) ?_
   iterate 6 (refine An rfl (fun K hK => ?_); go_simp; (try go_bits); (try (rw [if_pos (by omega)]; go_simp)); refine hK _ ?_; clear hK K)
   refine Ak rfl ?_
   go_wp2_with (go_at_call 109; go_must (refine (htk _ ((Ad.alloc [] _ _).trans (Ad.drew [] _))).mono ?_; rintro e3 W3 ⟨rfl, hs3⟩; have hB3 := hs3.get (Aj w (.cells #[.string t.text, .int .i64 t.at_.off, .int .i64 t.at_.line, .int .i64 t.at_.col] 59)) (by simp); obtain ⟨k0, k1, k2, k3, kf⟩ := BV hB3; have bl3 := Af hB3; have Hs3 := Kd (((Ad.alloc [] w (.cells #[.string t.text, .int .i64 t.at_.off, .int .i64 t.at_.line, .int .i64 t.at_.col] 59)).trans (Ad.drew [] _)).trans hs3); have l03 := Hs3.out.cell l0 (by simp); have l23 := Hs3.out.cell l2 (by simp); have ll3 := Nat.lt_of_lt_of_le ll Hs3.out.size; clear hs3 hB3))
   refine EQ.A ?_
   iterate 1 (refine An rfl (fun K hK => ?_); go_simp; (try go_bits); (try (rw [if_pos (by omega)]; go_simp)); refine hK _ ?_; clear hK K)
   refine AB ?_
   go_wp2_with (go_at_call 65; go_must (refine (hst _ 20).mono ?_; rintro e w' ⟨b, rfl, hf, hs⟩))
   exact ⟨rfl, b, rfl, hf, Hs3.out.trans hs⟩
  | false =>
   rw [ht] at htk
   rw [if_neg (by decide)]
   clear hn ht
   by_cases hl : 1024 ≤ L.labels
   ·rw [if_pos hl]
    go_enter Tryz.func59, Tryz.ntmps59
    go_wp2_with (go_at_call 108; go_must (refine (hnm _).mono ?_; rintro e' W2 ⟨rfl, hw2⟩; obtain rfl := hw2))
    refine AD (.read 0 (.read 1 (.read 2 (.read 3 (.read 4 (.read 5 (.one 6 [] (.read 7 (.done))))))))) (by kernel_rfl) (by kernel_rfl) ?_
    iterate 6 (refine An rfl (fun K hK => ?_); go_simp; (try go_bits); (try (rw [if_pos (by omega)]; go_simp)); refine hK _ ?_; clear hK K)
    refine Ak rfl ?_
    go_wp2_with (go_at_call 109; go_must (refine (htk _ ((Ad.alloc [] _ _).trans (Ad.drew [] _))).mono ?_; rintro e3 W3 ⟨rfl, hs3⟩; have hB3 := hs3.get (Aj w (.cells #[.string t.text, .int .i64 t.at_.off, .int .i64 t.at_.line, .int .i64 t.at_.col] 59)) (by simp); obtain ⟨k0, k1, k2, k3, kf⟩ := BV hB3; have bl3 := Af hB3; have Hs3 := Kd (((Ad.alloc [] w (.cells #[.string t.text, .int .i64 t.at_.off, .int .i64 t.at_.line, .int .i64 t.at_.col] 59)).trans (Ad.drew [] _)).trans hs3); have l03 := Hs3.out.cell l0 (by simp); have l23 := Hs3.out.cell l2 (by simp); have ll3 := Nat.lt_of_lt_of_le ll Hs3.out.size; clear hs3 hB3))
    refine EQ.A ?_
    iterate 1 (refine An rfl (fun K hK => ?_); go_simp; (try go_bits); (try (rw [if_pos (by omega)]; go_simp)); refine hK _ ?_; clear hK K)
    refine AB ?_
    go_wp2_with (go_at_call 65; go_must (refine (hst _ 22).mono ?_; rintro e w' ⟨b, rfl, hf, hs⟩))
    exact ⟨rfl, b, rfl, hf, Hs3.out.trans hs⟩
   ·rw [if_neg hl]
    go_enter Tryz.func59, Tryz.ntmps59
    go_wp2_with (go_at_call 108; go_must (refine (hnm _).mono ?_; rintro e' W2 ⟨rfl, hw2⟩; obtain rfl := hw2))
    refine AD (.read 0 (.read 1 (.read 2 (.read 3 (.read 4 (.read 5 (.one 6 [] (.read 7 (.done))))))))) (by kernel_rfl) (by kernel_rfl) ?_
    iterate 6 (refine An rfl (fun K hK => ?_); go_simp; (try go_bits); (try (rw [if_pos (by omega)]; go_simp)); refine hK _ ?_; clear hK K)
    refine Ak rfl ?_
    go_wp2_with (go_at_call 109; go_must (refine (htk _ ((Ad.alloc [] _ _).trans (Ad.drew [] _))).mono ?_; rintro e3 W3 ⟨rfl, hs3⟩; have hB3 := hs3.get (Aj w (.cells #[.string t.text, .int .i64 t.at_.off, .int .i64 t.at_.line, .int .i64 t.at_.col] 59)) (by simp); obtain ⟨k0, k1, k2, k3, kf⟩ := BV hB3; have bl3 := Af hB3; have Hs3 := Kd (((Ad.alloc [] w (.cells #[.string t.text, .int .i64 t.at_.off, .int .i64 t.at_.line, .int .i64 t.at_.col] 59)).trans (Ad.drew [] _)).trans hs3); have l03 := Hs3.out.cell l0 (by simp); have l23 := Hs3.out.cell l2 (by simp); have ll3 := Nat.lt_of_lt_of_le ll Hs3.out.size; clear hs3 hB3))
    refine EQ.A ?_
    iterate 1 (refine An rfl (fun K hK => ?_); go_simp; (try go_bits); (try (rw [if_pos (by omega)]; go_simp)); refine hK _ ?_; clear hK K)
    refine AB ?_
    go_wp2
    refine bodyPost_end (results_none rfl _ _ _) rfl ?_
    exact ⟨rfl, Hs3.out⟩
end Go.Proofs.YtbfbgfpghkijdaaGreatDoor
namespace Go.Proofs.YtbfbgfpghkijdaaGreatDoor
def QP (Q : Exit → Act → World → Prop) : Exit → Act → World → Prop
 | .normal, a, w => Q .normal a w
 | .panic c, a, w => ∀ a', a'.defers = a.defers → Q (.panic c) a' w
 | _, _, _ => False
theorem NE {P : Program} {ops : Array Oper} {Q : Exit → Act → World → Prop} (hs : Region.noSelect ops = true) : GB ops (wpOp P ops (QP Q)) (YR P ops) := {
 y_put i v a w d x h := by
  exact zq49
 read i v a w K hi hy hK := by
  exact zq46
 eff i K K' U a w hi hap hS hKK hdef := by
  have ho : ops[i]? = some ops[i] := Array.getElem?_eq_getElem hi
  obtain ⟨o, ho⟩ : ∃ o, ops[i]? = some o := ⟨_, ho⟩
  obtain ⟨he, hw⟩ := Gj ho (fun cs b => Region.noSelect_spec hs i o cs b ho) U a hap
  rw [Fg ho] at hKK
  unfold wpOp at hS ⊢
  simp only [ho] at hS ⊢
  rw [hw] at hS
  split
  ·rename_i hww
   rw [if_pos hww] at hS
   have hout : ¬ LetsOut (QP Q) := fun ⟨a, w, h⟩ => h
   rcases hS with hS | ⟨_, hS⟩
   case inr => exact absurd hS hout
   refine .inl ?_
   unfold Oper.wp at hS ⊢
   rw [he] at hS
   have hd0 := DK ops U a
   cases hr : (execOp a.eval o).run P w with
   | halt x w' =>
    rw [hr] at hS
    cases x <;> first | exact (show False from hS).elim | exact fun a' ha' => hS a' (ha'.trans hd0.symm)
   | ok n w' =>
    rw [hr] at hS
    cases n with
    | value u => exact hKK u w' hS
    | skip => exact hKK undef w' hS
    | defer d =>
     exact zq55
    | enter f args =>
     refine Calls.mono hS (fun e w'' h => ?_)
     cases e with
     | returned v => exact hKK v w'' h
     | panicked c => exact fun a' ha' => h a' (ha'.trans hd0.symm)
     | outgrown => exact absurd h hout
    | row row args => exact Rows.mono hS (fun v w'' h => hKK v w'' h)
    | _ => exact (show False from hS).elim
  ·rename_i hww
   rw [if_neg hww] at hS
   exact hKK undef w hS }
def Dq (P : Program) (ops : Array Oper) (Q : Exit → Act → World → Prop) (t : OTree) (pd : List (Nat × Value)) (a : Act) (w : World) : Prop := FA ops (wpOp P ops (QP Q)) (YR P ops) (Q .normal) t pd a w
theorem Bg {P : Program} {id : Nat} {l : List Oper} {Q : Exit → Act → World → Prop} {a : Act} {w : World} (t : OTree) (hm : P.follows .mixedOrders = true) (hB : (Region.noSelect l.toArray && Iw l.toArray t) = true)
  (h : Dq P l.toArray Q t [] a w.drew) : (Code.region id l.toArray true).wp P Q a w := by
 rw [Bool.and_eq_true] at hB
 obtain ⟨hs, hB⟩ := hB
 unfold Iw at hB
 rw [Bool.and_eq_true] at hB
 have h1 : Jo l.toArray (wpOp P l.toArray (QP Q)) (QP Q .normal) l.toArray.size (Array.replicate l.toArray.size false) a w.drew :=
  Fe (QN := Q .normal) (NE hs) hB.2 _ t [] [] _ a [] _ (GQ _) hB.1 (by
   unfold Is
   rw [List.countP_eq_length.2 (fun i _ => by rw [getD_replicate_false]; rfl)]
   simp) (by simp) (by simp) h
 refine Code.wp_mono (fun e a w h => ?_) (wp_region_any hm (GO _ _ _ _ h1))
 cases e <;> first | exact h a rfl | exact (show False from h).elim | exact h
section
variable {P : Program} {ops : Array Oper} {Q : Exit → Act → World → Prop} {a : Act} {w : World} {pd : List (Nat × Value)} {t : OTree} {i : Nat} {o : Oper}
theorem Bz (h : Q .normal a w) : Dq P ops Q .done pd a w := h
theorem Bv (ho : ops[i]? = some o) (h : ∀ K : Value → Prop, (∀ v, Dq P ops Q t ((i, v) :: pd) (a.put o.dst v) w → K v) → B4 P ops o a w K) : Dq P ops Q (.read i t) pd a w := by
 have h1 := h (fun v => Dq P ops Q t ((i, v) :: pd) (a.put o.dst v) w ∧ B4 P ops o a w (fun u => u = v))
 have key : ∃ v, B4 P ops o a w (fun u => u = v) ∧ Dq P ops Q t ((i, v) :: pd) (a.put o.dst v) w := by
  have h2 := h (fun v => Dq P ops Q t ((i, v) :: pd) (a.put o.dst v) w) (fun _ h => h)
  exact zq37
 exact zq81
def EP (P : Program) (ops : Array Oper) (Q : Exit → Act → World → Prop) (L : List Nat) (t : OTree) (pd : List (Nat × Value)) (ds : List Deferred) : Exit → Act → World → Prop
 | .normal, a, w => a.defers = ds ∧ C0 P ops L pd a w ∧ Dq P ops Q t pd a w
 | .panic c, a, w => a.defers = ds ∧ ∀ a', a'.defers = ds → Q (.panic c) a' w
 | _, _, _ => False
theorem EP.mk {L : List Nat} {ds : List Deferred} (h1 : a.defers = ds) (h2 : C0 P ops L pd a w) (h3 : Dq P ops Q t pd a w) : EP P ops Q L t pd ds .normal a w := ⟨h1, h2, h3⟩
theorem EP.A {L : List Nat} {ds : List Deferred} (h3 : Dq P ops Q t pd a w) (h1 : a.defers = ds := by exact rfl) (h2 : C0 P ops L pd a w := by repeat (first | exact BJ | (refine Br rfl ?_) | (refine DG rfl (by go_simp; (try go_bits); (try (rw [if_pos (by omega)]; go_simp)); (try trivial)) ?_))) : EP P ops Q L t pd ds .normal a w := ⟨h1, h2, h3⟩
theorem QW {L : List Nat} (ho : ops[i]? = some o) (h : wpList P ops (EP P ops Q L t pd a.defers) [o] a w) :
  wpOp P ops (QP Q) i (fun a' w' => a'.defers = a.defers ∧ (∀ p ∈ pd, p.1 ∈ L → YR P ops p.1 p.2 a' w') ∧ Dq P ops Q t pd a' w') a w := by
 have hout : ¬ LetsOut (EP P ops Q L t pd a.defers) := fun ⟨a, w, h⟩ => h
 unfold wpOp
 simp only [ho]
 unfold wpList at h
 have conv : ∀ a' w', EP P ops Q L t pd a.defers .normal a' w' → a'.defers = a.defers ∧ (∀ p ∈ pd, p.1 ∈ L → YR P ops p.1 p.2 a' w') ∧ Dq P ops Q t pd a' w' := fun a' w' h => ⟨h.1, Fo h.2.1, h.2.2⟩
 split
 ·rename_i hw
  rw [if_pos hw] at h
  rcases h with h | ⟨_, h⟩
  case inr => exact absurd h hout
  refine .inl ?_
  unfold Oper.wp at h ⊢
  cases hr : (execOp a.eval o).run P w with
  | halt x w' =>
   rw [hr] at h
   cases x <;> first | exact (show False from h).elim | exact fun a' ha' => h.2 a' ha'
  | ok n w' =>
   rw [hr] at h
   cases n with
   | value u => exact conv _ _ h
   | skip => exact conv _ _ h
   | defer d => exact conv _ _ h
   | enter f args =>
    refine Calls.mono h (fun e w'' h => ?_)
    cases e with
    | returned v => exact conv _ _ h
    | panicked c => exact fun a' ha' => h.2 a' ha'
    | outgrown => exact absurd h hout
   | row row args => exact Rows.mono h (fun v w'' h => conv _ _ h)
   | _ => exact (show False from h).elim
 ·rename_i hw
  rw [if_neg hw] at h
  exact conv _ _ h
theorem NO {L : List Nat} (ho : ops[i]? = some o) (h : wpList P ops (EP P ops Q L t pd a.defers) [o] a w) : Dq P ops Q (.one i L t) pd a w := QW ho h
theorem AY {l r : List Oper} {L : List Nat} (ho : l.drop i = o :: r) (h : wpList P l.toArray (EP P l.toArray Q L t pd a.defers) [o] a w) : Dq P l.toArray Q (.one i L t) pd a w :=
 NO (by rw [List.getElem?_toArray, ← List.head?_drop, ho]; rfl) h
end
end Go.Proofs.YtbfbgfpghkijdaaGreatDoor
