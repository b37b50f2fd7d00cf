/- lemmalaw texts, part 25. -/
import Derived.Test.YtdhkmfpfbjcdiaaGreatDoorYar
import Derived.Test.YtdhkmfpfbjcdiaaGreatDoorYax
set_option maxRecDepth 100000
set_option linter.unusedVariables false
set_option linter.unusedSimpArgs false
set_option maxHeartbeats 32000000
namespace Go.Proofs.YtdhkmfpfbjcdiaaGreatDoor
open Go.RowKit
def Rd.zero : Rd := ⟨[], none, none, 9, false⟩
def ReadR (t : ByteArray) (w : World) (e : Ending) (w' : World) : Prop :=
 ∃ v f, e = .returned (.tuple #[v, f]) ∧ Same [] w w' ∧ StmtsAt w' v (readOf t).1 ∧ FltAt w' f (readOf t).2
theorem readGo_at (ws : List Tk) (k : Nat) (h : k < ws.length) (R : Rd) : readGo (ws.drop k) R = if (R.step ws[k]).1 = 0 then readGo (ws.drop (k + 1)) (R.step ws[k]).2 else ((R.step ws[k]).2, some (ws[k], (R.step ws[k]).1)) := by
 rw [List.drop_eq_getElem_cons h, readGo]
theorem tkCells_at : ∀ (l : List Tk) (k : Nat) (h : k < l.length), ((tkCells l).drop (k * 4)).take 4 = l[k].cells
 | t :: l, 0, _ => by simp [tkCells, Tk.cells, Ps.cells]
 | t :: l, k + 1, h => by
  have := tkCells_at l k (by simpa using h)
  rw [show (k + 1) * 4 = 4 + k * 4 by omega, ← List.drop_drop]
  have e : (tkCells (t :: l)).drop 4 = tkCells l := by simp [tkCells, Tk.cells, Ps.cells]
  rw [e]
  simpa using this
theorem scanGo_len : ∀ (l : List It) (out : List Tk) (op : Option Tk), out.length ≤ 16384 → (scanGo l out op).1.length ≤ 16384
 | [], out, op, h => by unfold scanGo; exact h
 | x :: r, out, op, h => by
  unfold scanGo
  split
  ·exact h
  ·split
   ·split
    ·exact scanGo_len r _ _ h
    ·split
     ·exact h
     ·exact scanGo_len r _ _ h
   ·split
    ·exact scanGo_len r _ _ h
    ·split
     ·exact h
     ·split
      ·exact h
      ·exact scanGo_len r _ _ (by simp; omega)
theorem scan_len (t : ByteArray) : (scanOf t).1.length ≤ 16384 := scanGo_len _ _ _ (by simp)
theorem FltAt.lt {w : World} {v : Value} {o : Option Flt} {b : Nat} (h : FltAt w v o) (hb : v = .pointer (some ⟨b, 0, none⟩)) : b < w.heap.size := by
 cases o with
 | none => have : v = .pointer none := h; rw [this] at hb; cases hb
 | some f => obtain ⟨c, h1, h2⟩ := h; rw [h1] at hb; cases hb; exact blk_lt h2
theorem StmtsAt.same {w w' : World} {v : Value} {l : List St} (h : StmtsAt w v l) (hs : Same [] w w') : StmtsAt w' v l := by
 obtain ⟨sv, h1, h2⟩ := h
 exact ⟨sv, h1.same hs (by simp), h2.imp (fun _ _ => StIn.move (Move.of_same hs))⟩
theorem endOf_flt (t : ByteArray) : fltBlk ⟨⟨t.size, 1 + Lib.countByte t.data.toList 10, (t.size - Lib.lastIndexByte t 10).toNat⟩, ⟨#[]⟩, 63⟩ =
  .cells #[.int .i64 (endOf t).1, .int .i64 (endOf t).2.1, .int .i64 (endOf t).2.2, .string ⟨#[]⟩, .int .i64 63] 76 := by
 have hlb : Lib.lastIndexByte t 10 < t.size ∨ Lib.lastIndexByte t 10 = -1 := by
  rcases Lib.lastIdx_spec t 10 t.size with h | ⟨i, hi, h, _⟩
  ·exact .inr h.1
  ·have : Lib.lastIndexByte t 10 = i := h
   omega
 have h1 : (((t.size : Int) - Lib.lastIndexByte t 10).toNat : Int) = t.size - Lib.lastIndexByte t 10 := by omega
 have h2 : ((1 + Lib.countByte t.data.toList 10 : Nat) : Int) = 1 + (Lib.countByte t.data.toList 10 : Int) := by omega
 unfold fltBlk endOf
 dsimp only
 rw [h1, h2]
def ReadI (w : World) (ws : List Tk) (wv fv : Value) (fo : Option Flt) (r : Nat) (u : Value) (W : World) : Prop :=
 ∃ (k : Nat) (R : Rd) (A : RA), k ≤ ws.length ∧ u = .int .i64 k ∧ RdAt W r A R ∧ R.Ok k ∧ Move [] (A.blocks r) w W ∧ readGo ws Rd.zero = readGo (ws.drop k) R ∧ Fix W (A.blocks r) 54 4 wv ws.length (tkCells ws) ∧
  FltAt W fv fo ∧ (∀ b, fv = .pointer (some ⟨b, 0, none⟩) → b ∉ A.blocks r)
theorem rd_start (W : World) : RdAt (W.alloc (Obj.cells #[Value.slice none 0 0, Value.pointer none, Value.pointer none, Value.nilIface, Value.bool false] 140)) W.heap.size ⟨.slice none 0 0, [], .pointer none, .pointer none, .slice none 0 0, .slice none 0 0⟩ Rd.zero ∧
  Move [] (RA.blocks ⟨.slice none 0 0, [], .pointer none, .pointer none, .slice none 0 0, .slice none 0 0⟩ W.heap.size) W (W.alloc (Obj.cells #[Value.slice none 0 0, Value.pointer none, Value.pointer none, Value.nilIface, Value.bool false] 140)) :=
 ⟨⟨blk_new _ _, World.ownsRow_nil _ _ _ _, trivial, rfl, rfl, rfl, rfl⟩, ⟨fun b hb => by simp [RA.blocks, ptrB, Value.ownBlock] at hb; exact .inr (by omega), Same.alloc _ _ _⟩⟩
theorem Rd.Ok.zero : Rd.zero.Ok 0 := ⟨by simp [Rd.zero], fun s hs => by simp [Rd.zero] at hs⟩
theorem RdAt.nvNone {w : World} {r : Nat} {A : RA} {R : Rd} (h : RdAt w r A R) (hn : R.now = none) : A.nv = .pointer none := by have := h.now; rw [hn] at this; exact this.1
theorem step_none {R : Rd} (h : R.now = none) (t : Tk) : R.step t = R.between t := by unfold Rd.step; rw [h]
theorem step_some {R : Rd} {s : St} (h : R.now = some s) (t : Tk) : R.step t = R.within s t := by unfold Rd.step; rw [h]
theorem Read_calls (t : ByteArray) (w : World) (ht : t.size < 4611686018427387904) (hb : Blanks w) (hl : LibCell w) : Calls Tryz.prog 28 #[.string t] w (ReadR t w) := by
 have hmf : ∀ (fn : Fn) (first cap : Array Value) (w : World), (Instr.makeFunc fn first cap).run Tryz.prog w = .ok (.func fn first cap) w := fun _ _ _ _ => rfl
 have hsc := fun w hb hl => Scan_calls t w (by unfold maxLen; omega) hb hl
 have hlen := scan_len t
 obtain ⟨ws, hws⟩ : ∃ ws, (scanOf t).1 = ws := ⟨_, rfl⟩
 rw [hws] at hlen
 have Hws := Kd hws
 unfold ScanR at hsc
 rw [hws] at hsc
 clear hws
 go_enter Tryz.func28, Tryz.ntmps28
 go_wp2_with (go_at_call 58; go_must (refine (hsc _ hb hl).mono ?_; rintro e W ⟨wv, fv, rfl, hsm, hrow, hfr, hflt, hff⟩; obtain ⟨Aw, cw, hwv⟩ := hrow.shape; subst hwv; have Hrow := Kd hrow; have Hflt := Kd hflt; have Hff := Kd hff; have Hsm := Kd hsm; clear hrow hflt hff hfr hsm))
 have hs0 := rd_start W
 have hal := Same.alloc [] W (Obj.cells #[Value.slice none 0 0, Value.pointer none, Value.pointer none, Value.nilIface, Value.bool false] 140)
 have hat : ReadI w ws (.slice Aw ws.length cw) fv (fltOf (scanOf t).2) W.heap.size (.int .i64 0) (W.alloc (Obj.cells #[Value.slice none 0 0, Value.pointer none, Value.pointer none, Value.nilIface, Value.bool false] 140)) := by
  refine ⟨0, Rd.zero, _, Nat.zero_le _, rfl, hs0.1, Rd.Ok.zero, (Move.of_same Hsm.out).trans hs0.2, rfl, ⟨Hrow.out.same hal (by simp), fun b hb hm => ?_⟩, Hflt.out.same hal (by simp), fun b hb hm => ?_⟩
  ·simp [RA.blocks, ptrB, Value.ownBlock] at hm; have := Hrow.out.lt hb; omega
  ·simp [RA.blocks, ptrB, Value.ownBlock] at hm; have := FltAt.lt Hflt.out hb; omega
 clear hs0 hal Hrow Hflt Hff Hsm
 generalize W.alloc (Obj.cells _ _ _) = W1 at hat ⊢
 generalize W.heap.size = r at hat ⊢
 have Hat := Kd hat
 clear hat
 go_loopw [22] (fun u wr => ReadI w ws (.slice Aw ws.length cw) fv (fltOf (scanOf t).2) r u wr) (fun u _ => ws.length - (intOf u).toNat)
 case atStart => exact Hat.out
 case round =>
  obtain ⟨k, R, A, hk, rfl, hR, hok, hmv, hgo, hfix, hflt, hfn⟩ := hrel
  clear hsc
  by_cases hlt : k < ws.length
  ·obtain ⟨g, c, hv, hcell⟩ := hfix.row.elem (i := k) hlt (ys := ws[k].cells) rfl (tkCells_at ws k hlt) (by decide)
   obtain ⟨rfl, rfl⟩ : Aw = some ⟨g, 0, none⟩ ∧ cw = c := by simpa using hv
   have t0 := (hcell 0 (by decide)).1
   have t1 := (hcell 1 (by decide)).1
   have t2 := (hcell 2 (by decide)).1
   have t3 := (hcell 3 (by decide)).1
   simp only [Tk.cells, Ps.cells, List.getD_cons_zero, List.getD_cons_succ, Nat.add_zero] at t0 t1 t2 t3
   have hgl := hfix.row.lt (b := g) rfl
   have hrl := blk_lt hR.blk
   obtain ⟨c0, c1, c2, c3, c4, cf⟩ := hR.facts
   have hnot : wr.heap.size ∉ A.blocks r := fun hm => by have := hR.lt _ hm; omega
   clear hv hcell
   cases hnow : R.now with
   | none =>
    have hnv := hR.nvNone hnow
    rw [hnv] at c2
    have hst := step_none hnow ws[k]
    obtain ⟨x, hx⟩ : ∃ x, R.between ws[k] = x := ⟨_, rfl⟩
    rw [hx] at hst
    have Hst := Kd hst
    have Hx := Kd hx
    have hbc := fun W (hW : RdAt W r A R) => between_calls W r A R hW ws[k] hnow hok (by omega)
    rw [hx] at hbc
    by_cases hz : x.1 = 0
    ·have hz' : ((x.1 : Int) != 0) = false := by simp [hz]
     have Hz := Kd hz
     clear hst hx hnv hz
     go_wp2_with (go_at_call 59; go_must (refine (hbc _ (hR.same (Same.alloc [] wr (tokBlk ws[k])))).mono ?_; rintro e W3 ⟨rfl, A3, hR3, hm3⟩; have Hm3 := Kd ((Move.of_same (Same.alloc [] wr (tokBlk ws[k]))).trans hm3)))
     ·go_roundw
      case rel =>
       exact ⟨k + 1, _, A3, by omega, by go_num, hR3, by rw [← Hst.out]; exact hok.step _, hmv.trans Hm3.out, by rw [hgo, readGo_at ws k hlt, if_pos (by rw [Hst.out]; exact Hz.out), Hst.out], hfix.move Hm3.out, hflt.same Hm3.out.same hfn, fun b hb => (Still.move ⟨FltAt.lt hflt hb, hfn b hb⟩ Hm3.out).2⟩
      case measure => simp [intOf]; omega
    ·have hz' : ((x.1 : Int) != 0) = true := by simp [hz]
     have Hz := Kd hz
     clear hst hx hnv hz
     go_wp2_with (go_at_call 59; go_must (refine (hbc _ (hR.same (Same.alloc [] wr (tokBlk ws[k])))).mono ?_; rintro e W3 ⟨rfl, A3, hR3, hm3⟩; have Hm3 := Kd ((Move.of_same (Same.alloc [] wr (tokBlk ws[k]))).trans hm3); have hb3 := hm3.same.get (blk_new wr (tokBlk ws[k])) hnot))
     obtain ⟨k0, k1, k2, k3, kf⟩ := tokBlk_cells hb3
     have hw3 := blk_lt hb3
     have hout3 : (R.step ws[k]).2.out.length < 1000000 := by have := (hok.step ws[k]).out; omega
     rw [Hst.out] at hout3
     have H3 := Kd hR3
     have Hfin : Hid (readOf t = ((R.step ws[k]).2.all, some ⟨ws[k].at_, ws[k].text, (R.step ws[k]).1⟩)) := Kd (by
      unfold readOf
      rw [show (⟨[], none, none, 9, false⟩ : Rd) = Rd.zero from rfl, Hws.out, hgo, readGo_at ws k hlt, if_neg (by rw [Hst.out]; exact Hz.out)])
     rw [Hst.out] at Hfin
     have Hmv := Kd (hmv.trans Hm3.out)
     have hnot3 := (Still.move (w := wr.alloc (tokBlk ws[k])) ⟨blk_lt (blk_new wr _), hnot⟩ hm3).2
     clear hR3 hR hgo hfix hflt hfn hmv hok hm3
     refine region_canon (.read 0 (.read 2 (.read 3 (.read 4 (.read 5 (.read 6 (.read 7 (.two 1 [2, 3, 4, 5, 6, 7] (.read 9 (.one 8 [0, 1, 9] (.read 10 (.done)))) 8 [0] (.one 1 [2, 3, 4, 5, 6, 7, 8] (.read 9 (.read 10 (.done)))))))))))) (by kernel_rfl) (by kernel_rfl) ?_
     iterate 7 (refine canon_read rfl (fun K hK => ?_); go_simp; (try go_bits); (try (rw [if_pos (by omega)]; go_simp)); refine hK _ ?_; clear hK K)
     refine canon_twoL rfl rfl ?_ ?_
     ·go_wp2_with (go_at_call 61; go_must (refine (all_calls _ _ A3 _ (H3.out.same (Same.drew [] W3)) hout3).mono ?_; rintro e W4 ⟨v4, M4, rfl, hst4, hm4⟩))
      have hs4 := ((Move.of_same (Same.drew [] W3)).trans hm4).same
      have hb4 := hs4.get hb3 hnot3
      clear k0 k1 k2 k3 kf
      obtain ⟨k0, k1, k2, k3, kf⟩ := tokBlk_cells hb4
      have hw4 := blk_lt hb4
      refine EQ.A ?_
      iterate 1 (refine canon_read rfl (fun K hK => ?_); go_simp; (try go_bits); (try (rw [if_pos (by omega)]; go_simp)); refine hK _ ?_; clear hK K)
      refine canon_oneL rfl ?_
      go_wp2
      refine EQ.A ?_
      iterate 1 (refine canon_read rfl (fun K hK => ?_); go_simp; (try go_bits); (try (rw [if_pos (by omega)]; go_simp)); refine hK _ ?_; clear hK K)
      refine canon_done ?_
      go_wp2
      go_ret2
      refine ⟨v4, .pointer (some ⟨W4.heap.size, 0, none⟩), rfl, ((Hmv.out.trans ((Move.of_same (Same.drew [] W3)).trans hm4)).trans (Move.of_same (Same.alloc _ _ _))).same, ?_, ?_⟩
      ·rw [Hfin.out]; exact hst4.same (Same.alloc _ _ _)
      ·rw [Hfin.out]; exact ⟨_, rfl, blk_new _ _⟩
     ·go_wp2
      refine EQ.A ?_
      refine canon_oneL rfl ?_
      go_wp2_with (go_at_call 61; go_must (refine (all_calls _ _ A3 _ (H3.out.same (Same.trans (Same.drew [] W3) (Same.alloc [] _ (fltBlk ⟨ws[k].at_, ws[k].text, x.1⟩)))) hout3).mono ?_; rintro e W4 ⟨v4, M4, rfl, hst4, hm4⟩))
      have hs4 := (((Move.of_same (M := A3.blocks r) (Same.drew [] W3)).trans (Move.of_same (Same.alloc [] _ (fltBlk ⟨ws[k].at_, ws[k].text, x.1⟩)))).trans hm4).same
      have hb4 := hs4.get hb3 hnot3
      have hf4 := hm4.same.get (blk_new W3.drew (fltBlk ⟨ws[k].at_, ws[k].text, x.1⟩)) (fun hm => by have := H3.out.lt _ hm; exact absurd this (by simp))
      clear k0 k1 k2 k3 kf
      obtain ⟨k0, k1, k2, k3, kf⟩ := tokBlk_cells hb4
      have hw4 := blk_lt hb4
      refine EQ.A ?_
      iterate 2 (refine canon_read rfl (fun K hK => ?_); go_simp; (try go_bits); (try (rw [if_pos (by omega)]; go_simp)); refine hK _ ?_; clear hK K)
      refine canon_done ?_
      go_wp2
      go_ret2
      refine ⟨v4, .pointer (some ⟨W3.heap.size, 0, none⟩), rfl, (Hmv.out.trans ⟨fun b hb => .inl hb, hs4⟩).same, ?_, ?_⟩
      ·rw [Hfin.out]; exact hst4
      ·rw [Hfin.out]; exact ⟨_, rfl, hf4⟩
   | some s =>
    obtain ⟨B, Aw', cw', Ap, cp, hnv, -⟩ := hR.nowFacts hnow
    rw [hnv] at c2
    have hst := step_some hnow ws[k]
    obtain ⟨x, hx⟩ : ∃ x, R.within s ws[k] = x := ⟨_, rfl⟩
    rw [hx] at hst
    have Hst := Kd hst
    have Hx := Kd hx
    have hbc := fun W (hW : RdAt W r A R) => within_calls W r A R hW ws[k] s hnow hok (by omega)
    rw [hx] at hbc
    by_cases hz : x.1 = 0
    ·have hz' : ((x.1 : Int) != 0) = false := by simp [hz]
     have Hz := Kd hz
     clear hst hx hnv hz
     go_wp2_with (go_at_call 60; go_must (refine (hbc _ (hR.same (Same.alloc [] wr (tokBlk ws[k])))).mono ?_; rintro e W3 ⟨rfl, A3, hR3, hm3⟩; have Hm3 := Kd ((Move.of_same (Same.alloc [] wr (tokBlk ws[k]))).trans hm3)))
     ·go_roundw
      case rel =>
       exact ⟨k + 1, _, A3, by omega, by go_num, hR3, by rw [← Hst.out]; exact hok.step _, hmv.trans Hm3.out, by rw [hgo, readGo_at ws k hlt, if_pos (by rw [Hst.out]; exact Hz.out), Hst.out], hfix.move Hm3.out, hflt.same Hm3.out.same hfn, fun b hb => (Still.move ⟨FltAt.lt hflt hb, hfn b hb⟩ Hm3.out).2⟩
      case measure => simp [intOf]; omega
    ·have hz' : ((x.1 : Int) != 0) = true := by simp [hz]
     have Hz := Kd hz
     clear hst hx hnv hz
     go_wp2_with (go_at_call 60; go_must (refine (hbc _ (hR.same (Same.alloc [] wr (tokBlk ws[k])))).mono ?_; rintro e W3 ⟨rfl, A3, hR3, hm3⟩; have Hm3 := Kd ((Move.of_same (Same.alloc [] wr (tokBlk ws[k]))).trans hm3); have hb3 := hm3.same.get (blk_new wr (tokBlk ws[k])) hnot))
     obtain ⟨k0, k1, k2, k3, kf⟩ := tokBlk_cells hb3
     have hw3 := blk_lt hb3
     have hout3 : (R.step ws[k]).2.out.length < 1000000 := by have := (hok.step ws[k]).out; omega
     rw [Hst.out] at hout3
     have H3 := Kd hR3
     have Hfin : Hid (readOf t = ((R.step ws[k]).2.all, some ⟨ws[k].at_, ws[k].text, (R.step ws[k]).1⟩)) := Kd (by
      unfold readOf
      rw [show (⟨[], none, none, 9, false⟩ : Rd) = Rd.zero from rfl, Hws.out, hgo, readGo_at ws k hlt, if_neg (by rw [Hst.out]; exact Hz.out)])
     rw [Hst.out] at Hfin
     have Hmv := Kd (hmv.trans Hm3.out)
     have hnot3 := (Still.move (w := wr.alloc (tokBlk ws[k])) ⟨blk_lt (blk_new wr _), hnot⟩ hm3).2
     clear hR3 hR hgo hfix hflt hfn hmv hok hm3
     refine region_canon (.read 0 (.read 2 (.read 3 (.read 4 (.read 5 (.read 6 (.read 7 (.two 1 [2, 3, 4, 5, 6, 7] (.read 9 (.one 8 [0, 1, 9] (.read 10 (.done)))) 8 [0] (.one 1 [2, 3, 4, 5, 6, 7, 8] (.read 9 (.read 10 (.done)))))))))))) (by kernel_rfl) (by kernel_rfl) ?_
     iterate 7 (refine canon_read rfl (fun K hK => ?_); go_simp; (try go_bits); (try (rw [if_pos (by omega)]; go_simp)); refine hK _ ?_; clear hK K)
     refine canon_twoL rfl rfl ?_ ?_
     ·go_wp2_with (go_at_call 61; go_must (refine (all_calls _ _ A3 _ (H3.out.same (Same.drew [] W3)) hout3).mono ?_; rintro e W4 ⟨v4, M4, rfl, hst4, hm4⟩))
      have hs4 := ((Move.of_same (Same.drew [] W3)).trans hm4).same
      have hb4 := hs4.get hb3 hnot3
      clear k0 k1 k2 k3 kf
      obtain ⟨k0, k1, k2, k3, kf⟩ := tokBlk_cells hb4
      have hw4 := blk_lt hb4
      refine EQ.A ?_
      iterate 1 (refine canon_read rfl (fun K hK => ?_); go_simp; (try go_bits); (try (rw [if_pos (by omega)]; go_simp)); refine hK _ ?_; clear hK K)
      refine canon_oneL rfl ?_
      go_wp2
      refine EQ.A ?_
      iterate 1 (refine canon_read rfl (fun K hK => ?_); go_simp; (try go_bits); (try (rw [if_pos (by omega)]; go_simp)); refine hK _ ?_; clear hK K)
      refine canon_done ?_
      go_wp2
      go_ret2
      refine ⟨v4, .pointer (some ⟨W4.heap.size, 0, none⟩), rfl, ((Hmv.out.trans ((Move.of_same (Same.drew [] W3)).trans hm4)).trans (Move.of_same (Same.alloc _ _ _))).same, ?_, ?_⟩
      ·rw [Hfin.out]; exact hst4.same (Same.alloc _ _ _)
      ·rw [Hfin.out]; exact ⟨_, rfl, blk_new _ _⟩
     ·go_wp2
      refine EQ.A ?_
      refine canon_oneL rfl ?_
      go_wp2_with (go_at_call 61; go_must (refine (all_calls _ _ A3 _ (H3.out.same (Same.trans (Same.drew [] W3) (Same.alloc [] _ (fltBlk ⟨ws[k].at_, ws[k].text, x.1⟩)))) hout3).mono ?_; rintro e W4 ⟨v4, M4, rfl, hst4, hm4⟩))
      have hs4 := (((Move.of_same (M := A3.blocks r) (Same.drew [] W3)).trans (Move.of_same (Same.alloc [] _ (fltBlk ⟨ws[k].at_, ws[k].text, x.1⟩)))).trans hm4).same
      have hb4 := hs4.get hb3 hnot3
      have hf4 := hm4.same.get (blk_new W3.drew (fltBlk ⟨ws[k].at_, ws[k].text, x.1⟩)) (fun hm => by have := H3.out.lt _ hm; exact absurd this (by simp))
      clear k0 k1 k2 k3 kf
      obtain ⟨k0, k1, k2, k3, kf⟩ := tokBlk_cells hb4
      have hw4 := blk_lt hb4
      refine EQ.A ?_
      iterate 2 (refine canon_read rfl (fun K hK => ?_); go_simp; (try go_bits); (try (rw [if_pos (by omega)]; go_simp)); refine hK _ ?_; clear hK K)
      refine canon_done ?_
      go_wp2
      go_ret2
      refine ⟨v4, .pointer (some ⟨W3.heap.size, 0, none⟩), rfl, (Hmv.out.trans ⟨fun b hb => .inl hb, hs4⟩).same, ?_, ?_⟩
      ·rw [Hfin.out]; exact hst4
      ·rw [Hfin.out]; exact ⟨_, rfl, hf4⟩
  ·have hkk : k = ws.length := by omega
   subst hkk
   rw [List.drop_length, show readGo [] R = (R, none) from rfl] at hgo
   have hout : R.out.length < 1000000 := by have := hok.out; omega
   obtain ⟨c0, c1, c2, c3, c4, cf⟩ := hR.facts
   have hrl := blk_lt hR.blk
   have hlab := hR.label
   have H := Kd hR
   have Hmv := Kd hmv
   have Hgo := Kd hgo
   have Hflt := Kd hflt
   have Hfn := Kd hfn
   have hpl := fun w => Place_calls t w ht
   cases hfo : fltOf (scanOf t).2 with
   | some f =>
    rw [hfo] at hflt
    obtain ⟨fb, hfv, hfb⟩ := hflt
    subst hfv
    have hRd : readOf t = (R.all, fltOf (scanOf t).2) := by
     unfold readOf
     rw [show (⟨[], none, none, 9, false⟩ : Rd) = Rd.zero from rfl, Hws.out, hgo]
     dsimp only
     have : (scanOf t).2.isNone = false := by
      cases h2 : (scanOf t).2 with
      | none => rw [h2] at hfo; cases hfo
      | some q => rfl
     simp [this]
    have HRd := Kd hRd
    clear hgo hfix hfb hfo hRd hok hR hmv hfn hlab
    go_wp2_with (go_at_call 61; go_must (refine (all_calls _ _ A R H.out hout).mono ?_; rintro e W4 ⟨v4, M4, rfl, hst4, hm4⟩))
    go_ret2
    refine ⟨v4, _, rfl, (Hmv.out.trans hm4).same, ?_, ?_⟩
    ·rw [HRd.out]; exact hst4
    ·rw [HRd.out]; exact Hflt.out.same hm4.same Hfn.out
   | none =>
    rw [hfo] at hflt
    have hfv : fv = .pointer none := hflt
    subst hfv
    have hsn : (scanOf t).2 = none := by
     cases h2 : (scanOf t).2 with
     | none => rfl
     | some q => rw [h2] at hfo; cases hfo
    have hRd : readOf t = (R.all, if R.now.isSome = true ∨ R.label.isSome = true then some ⟨⟨t.size, 1 + Lib.countByte t.data.toList 10, (t.size - Lib.lastIndexByte t 10).toNat⟩, ⟨#[]⟩, 63⟩ else none) := by
     unfold readOf
     rw [show (⟨[], none, none, 9, false⟩ : Rd) = Rd.zero from rfl, Hws.out, hgo]
     simp [hsn, fltOf]
    cases hnow : R.now with
    | some s =>
     obtain ⟨B, Aw', cw', Ap, cp, hnv, -⟩ := hR.nowFacts hnow
     rw [hnv] at c2
     rw [if_pos (.inl (by rw [hnow]; rfl))] at hRd
     have HRd := Kd hRd
     clear hgo hfix hfo hRd hok hR hmv hfn hlab hflt hsn hnow hnv
     go_wp2_with (first
      | (go_at_call 31; go_must (refine (hpl _).mono ?_; rintro e W2 ⟨rfl, hs2⟩; have Hs2 := Kd hs2; clear hs2))
      | (go_at_call 61; go_must (refine (all_calls _ _ A R ((H.out.same Hs2.out).same (Same.trans (Same.alloc [] _ _) (Same.alloc [] _ _))) hout).mono ?_; rintro e W4 ⟨v4, M4, rfl, hst4, hm4⟩)))
     go_ret2
     have hmm := ((Hmv.out.trans (Move.of_same Hs2.out)).trans (Move.of_same (Same.trans (Same.alloc [] W2 _) (Same.alloc [] _ _)))).trans hm4
     refine ⟨v4, .pointer (some ⟨W2.heap.size + 1, 0, none⟩), rfl, hmm.same, ?_, ?_⟩
     ·rw [HRd.out]; exact hst4
     ·rw [HRd.out]
      refine ⟨_, rfl, ?_⟩
      rw [endOf_flt]
      have h1 := blk_new (W2.alloc (Obj.cells #[Value.int IntKind.i64 (endOf t).fst, Value.int IntKind.i64 (endOf t).snd.fst, Value.int IntKind.i64 (endOf t).snd.snd] 52)) (.cells #[.int .i64 (endOf t).1, .int .i64 (endOf t).2.1, .int .i64 (endOf t).2.2, .string ⟨#[]⟩, .int .i64 63] 76)
      rw [World.size_alloc] at h1
      exact hm4.same.get h1 (fun hm => by have h2 := H.out.lt _ hm; have h3 := Hs2.out.size; omega)
    | none =>
     have hnv := hR.nvNone hnow
     rw [hnv] at c2
     cases hlb : R.label with
     | some lt =>
      rw [hlb] at hlab
      obtain ⟨lb, hlv, -⟩ := hlab
      rw [hlv] at c1
      rw [if_pos (.inr (by rw [hlb]; rfl))] at hRd
      have HRd := Kd hRd
      clear hgo hfix hfo hRd hok hR hmv hfn hflt hsn hnow hnv hlb hlv
      go_wp2_with (first
       | (go_at_call 31; go_must (refine (hpl _).mono ?_; rintro e W2 ⟨rfl, hs2⟩; have Hs2 := Kd hs2; clear hs2))
       | (go_at_call 61; go_must (refine (all_calls _ _ A R ((H.out.same Hs2.out).same (Same.trans (Same.alloc [] _ _) (Same.alloc [] _ _))) hout).mono ?_; rintro e W4 ⟨v4, M4, rfl, hst4, hm4⟩)))
      go_ret2
      have hmm := ((Hmv.out.trans (Move.of_same Hs2.out)).trans (Move.of_same (Same.trans (Same.alloc [] W2 _) (Same.alloc [] _ _)))).trans hm4
      refine ⟨v4, .pointer (some ⟨W2.heap.size + 1, 0, none⟩), rfl, hmm.same, ?_, ?_⟩
      ·rw [HRd.out]; exact hst4
      ·rw [HRd.out]
       refine ⟨_, rfl, ?_⟩
       rw [endOf_flt]
       have h1 := blk_new (W2.alloc (Obj.cells #[Value.int IntKind.i64 (endOf t).fst, Value.int IntKind.i64 (endOf t).snd.fst, Value.int IntKind.i64 (endOf t).snd.snd] 52)) (.cells #[.int .i64 (endOf t).1, .int .i64 (endOf t).2.1, .int .i64 (endOf t).2.2, .string ⟨#[]⟩, .int .i64 63] 76)
       rw [World.size_alloc] at h1
       exact hm4.same.get h1 (fun hm => by have h2 := H.out.lt _ hm; have h3 := Hs2.out.size; omega)
     | none =>
      rw [hlb] at hlab
      have hlv : A.lv = .pointer none := hlab
      rw [hlv] at c1
      rw [if_neg (by rw [hlb, hnow]; simp)] at hRd
      have HRd := Kd hRd
      clear hgo hfix hfo hRd hok hR hmv hfn hflt hsn hnow hnv hlb hlv hlab
      go_wp2_with (go_at_call 61; go_must (refine (all_calls _ _ A R H.out hout).mono ?_; rintro e W4 ⟨v4, M4, rfl, hst4, hm4⟩))
      go_ret2
      refine ⟨v4, _, rfl, (Hmv.out.trans hm4).same, ?_, ?_⟩
      ·rw [HRd.out]; exact hst4
      ·rw [HRd.out]; rfl
def StopR (t : Tk) (n : Nat) (w : World) (e : Ending) (w' : World) : Prop := ∃ b, e = .panicked [{ v := .iface 24 (.pointer (some ⟨b, 0, none⟩)), recovered := false }] ∧ FltAt w' (.pointer (some ⟨b, 0, none⟩)) (some ⟨t.at_, t.text, n⟩) ∧ Same [] w w'
def tkV (t : Tk) : Value := .agg #[.string t.text, .int .i64 t.at_.off, .int .i64 t.at_.line, .int .i64 t.at_.col]
theorem stop_calls (w : World) (t : Tk) (n : Nat) : Calls Tryz.prog 68 #[tkV t, .int .i64 n] w (StopR t n w) := by
 unfold tkV
 go_enter Tryz.func68, Tryz.ntmps68
 go_wp2
 refine ⟨rfl, w.heap.size + 1, rfl, ⟨_, rfl, ?_⟩, (Same.alloc _ _ _).trans (Same.alloc _ _ _)⟩
 rw [← size_alloc' w (.cells #[.string t.text, .int .i64 t.at_.off, .int .i64 t.at_.line, .int .i64 t.at_.col] 54)]
 exact blk_new _ _
def NeedR (t : Tk) (n : Nat) (w : World) (e : Ending) (w' : World) : Prop := if n = 0 then e = .returned (.tuple #[]) ∧ Same [] w w' else StopR t n w e w'
theorem StopR.after {t : Tk} {n : Nat} {w w1 w' : World} {e : Ending} (h : StopR t n w1 e w') (hs : Same [] w w1) : StopR t n w e w' := by
 obtain ⟨b, h1, h2, h3⟩ := h
 exact ⟨b, h1, h2, hs.trans h3⟩
theorem need_calls (w : World) (t : Tk) (n : Nat) : Calls Tryz.prog 63 #[tkV t, .int .i64 n] w (NeedR t n w) := by
 have hst := fun W => stop_calls W t n
 unfold tkV at hst ⊢
 by_cases h0 : n = 0
 ·subst h0
  clear hst
  go_enter Tryz.func63, Tryz.ntmps63
  go_wp2
  refine bodyPost_end (results_none rfl _ _ _) rfl ?_
  rw [NeedR, if_pos rfl]
  exact ⟨rfl, Same.alloc _ _ _⟩
 ·have hne : ((n : Int) == 0) = false := by rw [beq_eq_false_iff_ne]; omega
  go_enter Tryz.func63, Tryz.ntmps63
  go_wp2_with (go_at_call 68; go_must (refine (hst _).mono ?_; rintro e w' ⟨b, rfl, hf, hs⟩))
  refine ⟨rfl, ?_⟩
  rw [NeedR, if_neg h0]
  exact ⟨b, rfl, hf, (Same.alloc _ _ _).trans hs⟩
structure LT (w : World) (l nb t : Nat) (TA : TA) (T : Tbl) : Prop where
 l0 : w.cell? ⟨l, 0, none⟩ = some (.pointer (some ⟨nb, 0, none⟩))
 n2 : w.cell? ⟨nb, 2, none⟩ = some (.pointer (some ⟨t, 0, none⟩))
 tbl : TblAt w t TA T
theorem LT.same {w w' : World} {l nb t : Nat} {TA : TA} {T : Tbl} (h : LT w l nb t TA T) (hs : Same [] w w') : LT w' l nb t TA T := ⟨hs.cell h.l0 (by simp), hs.cell h.n2 (by simp), h.tbl.same hs (by simp)⟩
def SymR (x : Tk) (o : Option Nat) (w : World) (e : Ending) (w' : World) : Prop := match o with
 | some n => e = .returned (.int .i64 n) ∧ Same [] w w'
 | none => StopR x 30 w e w'
theorem symbol_calls (w : World) (l nb t : Nat) (TA : TA) (T : Tbl) (h : LT w l nb t TA T) (x : Tk) : Calls Tryz.prog 130 #[.pointer (some ⟨l, 0, none⟩), tkV x] w (SymR x (aget x.text T.active) w) := by
 have hfd := fun (W : World) (hW : Same [] w W) => SymFind_calls W t TA T (h.tbl.same hW (by simp)) x.text
 have hst := fun W => stop_calls W x 30
 obtain ⟨l0, n2, -⟩ := h
 have ll := World.block_lt_of_cell? _ _ l0
 have nl := World.block_lt_of_cell? _ _ n2
 unfold tkV at hst ⊢
 cases ha : aget x.text T.active with
 | some n =>
  rw [ha] at hfd
  dsimp only [Option.map, Option.getD, Option.isSome] at hfd
  clear ha hst
  go_enter Tryz.func130, Tryz.ntmps130
  go_wp2
  go_quiet ((go_at_call 160; go_must (exact Calls.quiet_of_same (Calls.turn (hfd _ ((Same.alloc _ _ _).trans (Same.drewN _ _ _)))))))
  go_wp2
  go_ret
  exact ⟨rfl, (Same.alloc _ _ _).trans (Same.drewN _ _ _)⟩
 | none =>
  rw [ha] at hfd
  dsimp only [Option.map, Option.getD, Option.isSome] at hfd
  clear ha
  go_enter Tryz.func130, Tryz.ntmps130
  go_wp2
  go_quiet ((go_at_call 160; go_must (exact Calls.quiet_of_same (Calls.turn (hfd _ ((Same.alloc _ _ _).trans (Same.drewN _ _ _)))))))
  go_wp2_with (go_at_call 68; go_must (refine (hst _).mono ?_; rintro e w' ⟨b, rfl, hf, hs⟩))
  exact ⟨rfl, b, rfl, hf, ((Same.alloc _ _ _).trans (Same.drewN _ _ _)).trans hs⟩
def NumX (x : Ex Int) (w : World) (e : Ending) (w' : World) : Prop := match x with
 | .ok n => e = .returned (.int .i64 n) ∧ Same [] w w'
 | .error (t, n) => StopR t n w e w'
def varX (T : Tbl) (x : Tk) : Ex Int := match aget x.text T.active with
 | some n => if T.isVar n = true then .ok n else .error (x, 71)
 | none => .error (x, 30)
theorem varX_eq (L : Ld) (x : Tk) : L.variable_ x = varX L.tbl x := by
 unfold Ld.variable_ Ld.symbol varX
 cases aget x.text L.tbl.active <;> rfl
theorem variable_calls (w : World) (l nb t : Nat) (TA : TA) (T : Tbl) (h : LT w l nb t TA T) (x : Tk) : Calls Tryz.prog 121 #[.pointer (some ⟨l, 0, none⟩), tkV x] w (NumX (varX T x) w) := by
 have hsy := fun (W : World) (hW : Same [] w W) => symbol_calls W l nb t TA T (h.same hW) x
 have hst := fun W => stop_calls W x 71
 have hiv := fun (W : World) (hW : Same [] w W) (y : Int) => isVar_at h.tbl W hW y
 obtain ⟨l0, n2, -⟩ := h
 have ll := World.block_lt_of_cell? _ _ l0
 have nl := World.block_lt_of_cell? _ _ n2
 unfold tkV at hst hsy ⊢
 unfold varX
 cases ha : aget x.text T.active with
 | none =>
  rw [ha] at hsy
  unfold SymR at hsy
  clear ha hst
  go_enter Tryz.func121, Tryz.ntmps121
  go_wp2_with (go_at_call 130; go_must (refine (hsy _ (Same.alloc _ _ _)).mono ?_; rintro e w' ⟨b, rfl, hf, hs⟩))
  exact ⟨rfl, b, rfl, hf, (Same.alloc _ _ _).trans hs⟩
 | some n =>
  rw [ha] at hsy
  unfold SymR at hsy
  dsimp only
  clear ha
  cases hv : T.isVar n with
  | true =>
   rw [if_pos rfl]
   go_enter Tryz.func121, Tryz.ntmps121
   go_wp2_with (first
    | (go_at_call 130; go_must (refine (hsy _ (Same.alloc _ _ _)).mono ?_; rintro e w' ⟨rfl, hs⟩; have hs1 := (Same.alloc [] w (Obj.cells #[.string x.text, .int .i64 x.at_.off, .int .i64 x.at_.line, .int .i64 x.at_.col] 54)).trans hs; have l1 := hs1.cell l0 (by simp); have n1 := hs1.cell n2 (by simp); have Hs1 := Kd hs1; clear hs hs1))
    | (go_at_call 27; go_must (refine (hiv _ Hs1.out _).mono ?_; rintro e' W2 ⟨rfl, hw2⟩; obtain rfl := hw2.symm)))
   go_ret
   exact ⟨rfl, Hs1.out⟩
  | false =>
   rw [if_neg (by decide)]
   go_enter Tryz.func121, Tryz.ntmps121
   go_wp2_with (first
    | (go_at_call 130; go_must (refine (hsy _ (Same.alloc _ _ _)).mono ?_; rintro e w' ⟨rfl, hs⟩; have hB := hs.get (blk_new w _) (by simp); obtain ⟨k0, k1, k2, k3, kf⟩ := blk4 hB; have hs1 := (Same.alloc [] w (Obj.cells #[.string x.text, .int .i64 x.at_.off, .int .i64 x.at_.line, .int .i64 x.at_.col] 54)).trans hs; have l1 := hs1.cell l0 (by simp); have n1 := hs1.cell n2 (by simp); have Hs1 := Kd hs1; clear hs hs1 hB))
    | (go_at_call 27; go_must (refine (hiv _ Hs1.out _).mono ?_; rintro e' W2 ⟨rfl, hw2⟩; obtain rfl := hw2.symm))
    | (go_at_call 68; go_must (refine (hst _).mono ?_; rintro e w' ⟨b, rfl, hf, hs⟩)))
   exact ⟨rfl, b, rfl, hf, Hs1.out.trans hs⟩
def withP (l : List Int) (n : Int) : List Pr := l.map fun x => (x, n)
def WithI (w : World) (l : List Int) (n : Int) (v u : Value) (W : World) : Prop := ∃ k : Nat, k ≤ l.length ∧ u = .int .i64 k ∧ Row W 113 2 v k (prCells (withP (l.take k) n)) ∧ FreshB w v ∧ Same [] w W
theorem with_calls (w : World) (va : Value) (l : List Int) (he : Row w 3 1 va l.length (intCells l)) (n : Int) (hn : l.length ≤ 1000000) : Calls Tryz.prog 124 #[va, .int .i64 n] w (PairsR (withP l n) w) := by
 obtain ⟨Ae, ce, rfl⟩ := he.shape
 have He := Kd he
 clear he
 go_enter Tryz.func124, Tryz.ntmps124
 go_wp2
 have h0 : WithI w l n (.slice none 0 0) (.int .i64 0) w := ⟨0, Nat.zero_le _, rfl, World.ownsRow_nil _ _ _ _, by simp [FreshB, Value.ownBlock], Same.refl _ _⟩
 have H0 := Kd h0
 clear h0
 go_loopw [5, 10] (fun v u wr => WithI w l n v u wr) (fun _ u _ => l.length - (intOf u).toNat)
 case atStart => exact H0.out
 case round =>
  obtain ⟨k, hk, rfl, hrow, hfr, hsm⟩ := hrel
  by_cases hlt : k < l.length
  ·obtain ⟨ge, c, hve, t0, hgl⟩ := ints_cell (He.out.same hsm (by simp)) hlt
   cases hve
   obtain ⟨Av, cv, rfl⟩ := hrow.shape
   have Hrow := Kd hrow
   have Hfr := Kd hfr
   have Hsm := Kd hsm
   clear hrow hfr hsm H0
   go_wp2_with (at_builtin; refine wp_push (W := wr) rfl _ _ 45 rfl 113 2 16 _ Tryz.underlying45 Tryz.infoPair rfl (by decide) (.slice Av k cv) _ _ rfl Hrow.out [.int .i64 l[k], .int .i64 n] rfl rfl (by simp [Value.oneCell']) (by omega) (by decide) ?_; go_must (intro v6 W6 hr6 hs6 ho6; obtain ⟨A6, c6, rfl⟩ := hr6.shape; have Hr6 := Kd hr6; have Hs6 := Kd hs6; have Ho6 := Kd ho6; clear hr6 hs6 ho6))
   go_roundw
   case rel =>
    refine ⟨k + 1, hlt, by go_num, ?_, Hfr.out.next Hsm.out.size Ho6.out, Hsm.out.then Hs6.out fun c hc => .inr (Hfr.out c (Option.mem_toList.1 hc))⟩
    have e1 : withP (l.take (k + 1)) n = withP (l.take k) n ++ [(l[k], n)] := by
     unfold withP
     rw [List.take_succ_eq_append_getElem hlt, List.map_append]
     rfl
    rw [e1, prCells_snoc]
    exact Hr6.out
   case measure => simp [intOf]; omega
  ·have hkk : k = l.length := by omega
   subst hkk
   rw [List.take_length] at hrow
   obtain ⟨Av, cv, rfl⟩ := hrow.shape
   have Hrow := Kd hrow
   have Hfr := Kd hfr
   have Hsm := Kd hsm
   clear hrow hfr hsm H0
   go_wp2
   go_ret
   exact ⟨.slice Av l.length cv, rfl, by rw [show (withP l n).length = l.length by simp [withP]]; exact Hrow.out, Hsm.out, Hfr.out⟩
structure LR (w : World) (l nb t s : Nat) (TA : TA) (A : SA) (M : List Nat) (T : Tbl) (scs : List Sc) : Prop where
 lt : LT w l nb t TA T
 l1 : w.cell? ⟨l, 1, none⟩ = some (.pointer (some ⟨s, 0, none⟩))
 stk : StkAt w s t A M scs
 small : Small scs
theorem LR.same {w w' : World} {l nb t s : Nat} {TA : TA} {A : SA} {M : List Nat} {T : Tbl} {scs : List Sc} (h : LR w l nb t s TA A M T scs) (hs : Same [] w w') : LR w' l nb t s TA A M T scs :=
 ⟨h.lt.same hs, hs.cell h.l1 (by simp), h.stk.same hs, h.small⟩
def IntsX (x : Ex (List Int)) (w : World) (e : Ending) (w' : World) : Prop := match x with
 | .ok r => ∃ v, e = .returned v ∧ Row w' 3 1 v r.length (intCells r) ∧ Same [] w w' ∧ FreshB w v
 | .error (t, n) => StopR t n w e w'
def FloatI (w : World) (L : Ld) (ws : List Tk) (v u : Value) (W : World) : Prop :=
 ∃ (k : Nat) (e : List Int), k ≤ ws.length ∧ u = .int .i64 k ∧ e.length = k ∧ Row W 3 1 v e.length (intCells e) ∧ FreshB w v ∧ Same [] w W ∧ L.floatGo ws [] = L.floatGo (ws.drop k) e
theorem floatGo_at (L : Ld) (ws : List Tk) (e : List Int) (k : Nat) (hk : k < ws.length) : L.floatGo (ws.drop k) e = if e = [] then (L.symbol ws[k]).bind fun n => if L.tbl.isVar n = true then .error (ws[k], 72) else L.floatGo (ws.drop (k + 1)) [n]
  else (L.variable_ ws[k]).bind fun n => if (typeS L.scs n).isSome then .error (ws[k], 70) else L.floatGo (ws.drop (k + 1)) (e ++ [n]) := by
 rw [List.drop_eq_getElem_cons hk, Ld.floatGo]
theorem tk_elem {w : World} {v : Value} {ws : List Tk} (h : Row w 54 4 v ws.length (tkCells ws)) {k : Nat} (hk : k < ws.length) : ∃ g c, v = .slice (some ⟨g, 0, none⟩) ws.length c ∧ w.cell? ⟨g, k * 4, none⟩ = some (.string ws[k].text) ∧ w.cell? ⟨g, k * 4 + 1, none⟩ = some (.int .i64 ws[k].at_.off) ∧ w.cell? ⟨g, k * 4 + 2, none⟩ = some (.int .i64 ws[k].at_.line) ∧ w.cell? ⟨g, k * 4 + 3, none⟩ = some (.int .i64 ws[k].at_.col) ∧ g < w.heap.size := by
 obtain ⟨g, c, hv, hcell⟩ := h.elem (i := k) hk (ys := ws[k].cells) rfl (tkCells_at ws k hk) (by decide)
 exact ⟨g, c, hv, (hcell 0 (by decide)).1, (hcell 1 (by decide)).1, (hcell 2 (by decide)).1, (hcell 3 (by decide)).1, World.block_lt_of_cell? _ _ (hcell 0 (by decide)).1⟩
end Go.Proofs.YtdhkmfpfbjcdiaaGreatDoor
