/- lemmalaw texts, part 22. -/
import Derived.Test.YtbfbgfpghkijdaaGreatDoorYap
import Derived.Test.YtbfbgfpghkijdaaGreatDoorYau
set_option maxRecDepth 100000
set_option linter.unusedVariables false
set_option linter.unusedSimpArgs false
set_option maxHeartbeats 32000000
namespace Go.Proofs.YtbfbgfpghkijdaaGreatDoor
open Go.RowKit
def Rd.zero : Rd := ⟨[], none, none, 9, false⟩
def RZ (t : ByteArray) (w : World) (e : Ending) (w' : World) : Prop :=
 ∃ v f, e = .returned (.tuple #[v, f]) ∧ Ad [] w w' ∧ Es w' v (Bo t).1 ∧ CR w' f (Bo t).2
theorem Gl (ws : List Tk) (k : Nat) (h : k < ws.length) (R : Rd) : DY (ws.drop k) R = if (R.step ws[k]).1 = 0 then DY (ws.drop (k + 1)) (R.step ws[k]).2 else ((R.step ws[k]).2, some (ws[k], (R.step ws[k]).1)) := by
 rw [List.drop_eq_getElem_cons h, DY]
theorem GA : ∀ (l : List Tk) (k : Nat) (h : k < l.length), ((AC l).drop (k * 4)).take 4 = l[k].cells
 | t :: l, 0, _ => by simp [AC, Tk.cells, Ps.cells]
 | t :: l, k + 1, h => by
  have := GA l k (by simpa using h)
  rw [show (k + 1) * 4 = 4 + k * 4 by omega, ← List.drop_drop]
  have e : (AC (t :: l)).drop 4 = AC l := by simp [AC, Tk.cells, Ps.cells]
  rw [e]
  simpa using this
theorem Ef : ∀ (l : List It) (out : List Tk) (op : Option Tk), out.length ≤ 16384 → (BX l out op).1.length ≤ 16384
 | [], out, op, h => by unfold BX; exact h
 | x :: r, out, op, h => by
  unfold BX
  split
  ·exact h
  ·split
   ·split
    ·exact Ef r _ _ h
    ·split
     ·exact h
     ·exact Ef r _ _ h
   ·split
    ·exact Ef r _ _ h
    ·split
     ·exact h
     ·split
      ·exact h
      ·exact Ef r _ _ (by simp; omega)
theorem Mn (t : ByteArray) : (BM t).1.length ≤ 16384 := Ef _ _ _ (by simp)
theorem CR.lt {w : World} {v : Value} {o : Option Flt} {b : Nat} (h : CR w v o) (hb : v = .pointer (some ⟨b, 0, none⟩)) : b < w.heap.size := by
 cases o with
 | none => have : v = .pointer none := h; rw [this] at hb; cases hb
 | some f => obtain ⟨c, h1, h2⟩ := h; rw [h1] at hb; cases hb; exact Af h2
theorem Es.same {w w' : World} {v : Value} {l : List St} (h : Es w v l) (hs : Ad [] w w') : Es w' v l := by
 obtain ⟨sv, h1, h2⟩ := h
 exact ⟨sv, h1.same hs (by simp), h2.imp (fun _ _ => F3.move (AN.of_same hs))⟩
theorem zq43 {P : Prop} (h : P := by
 have hlb : Lib.lastIndexByte t 10 < t.size ∨ Lib.lastIndexByte t 10 = -1 := by
  rcases Lib.lastIdx_spec t 10 t.size with h | ⟨i, hi, h, _⟩
  ·exact .inr h.1
  ·have : Lib.lastIndexByte t 10 = i := h
   omega
 have h1 : (((t.size : Int) - Lib.lastIndexByte t 10).toNat : Int) = t.size - Lib.lastIndexByte t 10 := by omega
 have h2 : ((1 + Lib.countByte t.data.toList 10 : Nat) : Int) = 1 + (Lib.countByte t.data.toList 10 : Int) := by omega
 unfold CZ BK
 dsimp only
 rw [h1, h2]) : P := h
theorem KO (t : ByteArray) : CZ ⟨⟨t.size, 1 + Lib.countByte t.data.toList 10, (t.size - Lib.lastIndexByte t 10).toNat⟩, ⟨#[]⟩, 63⟩ =
  .cells #[.int .i64 (BK t).1, .int .i64 (BK t).2.1, .int .i64 (BK t).2.2, .string ⟨#[]⟩, .int .i64 63] 103 := by
 exact zq43
def Rm (w : World) (ws : List Tk) (wv fv : Value) (fo : Option Flt) (r : Nat) (u : Value) (W : World) : Prop :=
 ∃ (k : Nat) (R : Rd) (A : RA), k ≤ ws.length ∧ u = .int .i64 k ∧ BD W r A R ∧ R.Ok k ∧ AN [] (A.blocks r) w W ∧ DY ws Rd.zero = DY (ws.drop k) R ∧ Fix W (A.blocks r) 59 4 wv ws.length (AC ws) ∧
  CR W fv fo ∧ (∀ b, fv = .pointer (some ⟨b, 0, none⟩) → b ∉ A.blocks r)
theorem Qq (W : World) : BD (W.alloc (Obj.cells #[Value.slice none 0 0, Value.pointer none, Value.pointer none, Value.nilIface, Value.bool false] 145)) W.heap.size ⟨.slice none 0 0, [], .pointer none, .pointer none, .slice none 0 0, .slice none 0 0⟩ Rd.zero ∧
  AN [] (RA.blocks ⟨.slice none 0 0, [], .pointer none, .pointer none, .slice none 0 0, .slice none 0 0⟩ W.heap.size) W (W.alloc (Obj.cells #[Value.slice none 0 0, Value.pointer none, Value.pointer none, Value.nilIface, Value.bool false] 145)) :=
 ⟨⟨Aj _ _, World.ownsRow_nil _ _ _ _, trivial, rfl, rfl, rfl, rfl⟩, ⟨fun b hb => by simp [RA.blocks, Jw, Value.ownBlock] at hb; exact .inr (by omega), Ad.alloc _ _ _⟩⟩
theorem Rd.Ok.zero : Rd.zero.Ok 0 := ⟨by simp [Rd.zero], fun s hs => by simp [Rd.zero] at hs⟩
theorem BD.nvNone {w : World} {r : Nat} {A : RA} {R : Rd} (h : BD w r A R) (hn : R.now = none) : A.nv = .pointer none := by have := h.now; rw [hn] at this; exact this.1
theorem O0 {R : Rd} (h : R.now = none) (t : Tk) : R.step t = R.between t := by unfold Rd.step; rw [h]
theorem OX {R : Rd} {s : St} (h : R.now = some s) (t : Tk) : R.step t = R.within s t := by unfold Rd.step; rw [h]
theorem zq12 {P : Prop} (h : P := by
 obtain ⟨k0, k1, k2, k3, kf⟩ := At hb3
 have hw3 := Af hb3
 have hout3 : (R.step ws[k]).2.out.length < 1000000 := by have := (hok.step ws[k]).out; omega
 rw [Hst.out] at hout3
 have H3 := Kd hR3
 have Hfin : Hid (Bo t = ((R.step ws[k]).2.all, some ⟨ws[k].at_, ws[k].text, (R.step ws[k]).1⟩)) := Kd (by
  unfold Bo
  rw [show (⟨[], none, none, 9, false⟩ : Rd) = Rd.zero from rfl, Hws.out, hgo, Gl ws k hlt, if_neg (by rw [Hst.out]; exact Hz.out)])
 rw [Hst.out] at Hfin
 have Hmv := Kd (hmv.trans Hm3.out)
 have hnot3 := (G5.move (w := wr.alloc (AP ws[k])) ⟨Af (Aj wr _), hnot⟩ hm3).2
 clear hR3 hR hgo hfix hflt hfn hmv hok hm3
 refine AD (.read 0 (.read 2 (.read 3 (.read 4 (.read 5 (.read 6 (.read 7 (.two 1 [2, 3, 4, 5, 6, 7] (.read 9 (.one 8 [0, 1, 9] (.read 10 (.done)))) 8 [0] (.one 1 [2, 3, 4, 5, 6, 7, 8] (.read 9 (.read 10 (.done)))))))))))) (by kernel_rfl) (by kernel_rfl) ?_
 iterate 7 (refine An rfl (fun K hK => ?_); go_simp; (try go_bits); (try (rw [if_pos (by omega)]; go_simp)); refine hK _ ?_; clear hK K)
 refine By rfl rfl ?_ ?_
 ·go_wp2_with (go_at_call 58; go_must (refine (Da _ _ A3 _ (H3.out.same (Ad.drew [] W3)) hout3).mono ?_; rintro e W4 ⟨v4, M4, rfl, hst4, hm4⟩))
  have hs4 := ((AN.of_same (Ad.drew [] W3)).trans hm4).same
  have hb4 := hs4.get hb3 hnot3
  clear k0 k1 k2 k3 kf
  obtain ⟨k0, k1, k2, k3, kf⟩ := At hb4
  have hw4 := Af hb4
  refine EQ.A ?_
  iterate 1 (refine An rfl (fun K hK => ?_); go_simp; (try go_bits); (try (rw [if_pos (by omega)]; go_simp)); refine hK _ ?_; clear hK K)
  refine Ak rfl ?_
  go_wp2
  refine EQ.A ?_
  iterate 1 (refine An rfl (fun K hK => ?_); go_simp; (try go_bits); (try (rw [if_pos (by omega)]; go_simp)); refine hK _ ?_; clear hK K)
  refine AB ?_
  go_wp2
  go_ret2
  refine ⟨v4, .pointer (some ⟨W4.heap.size, 0, none⟩), rfl, ((Hmv.out.trans ((AN.of_same (Ad.drew [] W3)).trans hm4)).trans (AN.of_same (Ad.alloc _ _ _))).same, ?_, ?_⟩
  ·rw [Hfin.out]; exact hst4.same (Ad.alloc _ _ _)
  ·rw [Hfin.out]; exact ⟨_, rfl, Aj _ _⟩
 ·go_wp2
  refine EQ.A ?_
  refine Ak rfl ?_
  go_wp2_with (go_at_call 58; go_must (refine (Da _ _ A3 _ (H3.out.same (Ad.trans (Ad.drew [] W3) (Ad.alloc [] _ (CZ ⟨ws[k].at_, ws[k].text, x.1⟩)))) hout3).mono ?_; rintro e W4 ⟨v4, M4, rfl, hst4, hm4⟩))
  have hs4 := (((AN.of_same (M := A3.blocks r) (Ad.drew [] W3)).trans (AN.of_same (Ad.alloc [] _ (CZ ⟨ws[k].at_, ws[k].text, x.1⟩)))).trans hm4).same
  have hb4 := hs4.get hb3 hnot3
  have hf4 := hm4.same.get (Aj W3.drew (CZ ⟨ws[k].at_, ws[k].text, x.1⟩)) (fun hm => by have := H3.out.lt _ hm; exact absurd this (by simp))
  clear k0 k1 k2 k3 kf
  obtain ⟨k0, k1, k2, k3, kf⟩ := At hb4
  have hw4 := Af hb4
  refine EQ.A ?_
  iterate 2 (refine An rfl (fun K hK => ?_); go_simp; (try go_bits); (try (rw [if_pos (by omega)]; go_simp)); refine hK _ ?_; clear hK K)
  refine AB ?_
  go_wp2
  go_ret2
  refine ⟨v4, .pointer (some ⟨W3.heap.size, 0, none⟩), rfl, (Hmv.out.trans ⟨fun b hb => .inl hb, hs4⟩).same, ?_, ?_⟩
  ·rw [Hfin.out]; exact hst4
  ·rw [Hfin.out]; exact ⟨_, rfl, hf4⟩) : P := h
theorem zq32 {P : Prop} (h : P := by
 go_wp2_with (first
  | (go_at_call 34; go_must (refine (hpl _).mono ?_; rintro e W2 ⟨rfl, hs2⟩; have Hs2 := Kd hs2; clear hs2))
  | (go_at_call 58; go_must (refine (Da _ _ A R ((H.out.same Hs2.out).same (Ad.trans (Ad.alloc [] _ _) (Ad.alloc [] _ _))) hout).mono ?_; rintro e W4 ⟨v4, M4, rfl, hst4, hm4⟩)))
 go_ret2
 have hmm := ((Hmv.out.trans (AN.of_same Hs2.out)).trans (AN.of_same (Ad.trans (Ad.alloc [] W2 _) (Ad.alloc [] _ _)))).trans hm4
 refine ⟨v4, .pointer (some ⟨W2.heap.size + 1, 0, none⟩), rfl, hmm.same, ?_, ?_⟩
 ·rw [HRd.out]; exact hst4
 ·rw [HRd.out]
  refine ⟨_, rfl, ?_⟩
  rw [KO]
  have h1 := Aj (W2.alloc (Obj.cells #[Value.int IntKind.i64 (BK t).fst, Value.int IntKind.i64 (BK t).snd.fst, Value.int IntKind.i64 (BK t).snd.snd] 57)) (.cells #[.int .i64 (BK t).1, .int .i64 (BK t).2.1, .int .i64 (BK t).2.2, .string ⟨#[]⟩, .int .i64 63] 103)
  rw [World.size_alloc] at h1
  exact hm4.same.get h1 (fun hm => by have h2 := H.out.lt _ hm; have h3 := Hs2.out.size; omega)) : P := h
theorem zq52 {P : Prop} (h : P := by
 go_roundw
 case rel =>
  exact ⟨k + 1, _, A3, by omega, by go_num, hR3, by rw [← Hst.out]; exact hok.step _, hmv.trans Hm3.out, by rw [hgo, Gl ws k hlt, if_pos (by rw [Hst.out]; exact Hz.out), Hst.out], hfix.move Hm3.out, hflt.same Hm3.out.same hfn, fun b hb => (G5.move ⟨CR.lt hflt hb, hfn b hb⟩ Hm3.out).2⟩
 case measure => simp [intOf]; omega) : P := h
theorem N1 (t : ByteArray) (w : World) (ht : t.size < 4611686018427387904) (hb : BF w) (hl : Dj w) : Calls Tryz.prog 31 #[.string t] w (RZ t w) := by
 have hmf : ∀ (fn : Fn) (first cap : Array Value) (w : World), (Instr.makeFunc fn first cap).run Tryz.prog w = .ok (.func fn first cap) w := fun _ _ _ _ => rfl
 have hsc := fun w hb hl => NP t w (by unfold maxLen; omega) hb hl
 have hlen := Mn t
 obtain ⟨ws, hws⟩ : ∃ ws, (BM t).1 = ws := ⟨_, rfl⟩
 rw [hws] at hlen
 have Hws := Kd hws
 unfold P6 at hsc
 rw [hws] at hsc
 clear hws
 go_enter Tryz.func31, Tryz.ntmps31
 go_wp2_with (go_at_call 55; go_must (refine (hsc _ hb hl).mono ?_; rintro e W ⟨wv, fv, rfl, hsm, hrow, hfr, hflt, hff⟩; obtain ⟨Aw, cw, hwv⟩ := hrow.shape; subst hwv; have Hrow := Kd hrow; have Hflt := Kd hflt; have Hff := Kd hff; have Hsm := Kd hsm; clear hrow hflt hff hfr hsm))
 have hs0 := Qq W
 have hal := Ad.alloc [] W (Obj.cells #[Value.slice none 0 0, Value.pointer none, Value.pointer none, Value.nilIface, Value.bool false] 145)
 have hat : Rm w ws (.slice Aw ws.length cw) fv (IK (BM t).2) W.heap.size (.int .i64 0) (W.alloc (Obj.cells #[Value.slice none 0 0, Value.pointer none, Value.pointer none, Value.nilIface, Value.bool false] 145)) := by
  refine ⟨0, Rd.zero, _, Nat.zero_le _, rfl, hs0.1, Rd.Ok.zero, (AN.of_same Hsm.out).trans hs0.2, rfl, ⟨Hrow.out.same hal (by simp), fun b hb hm => ?_⟩, Hflt.out.same hal (by simp), fun b hb hm => ?_⟩
  ·simp [RA.blocks, Jw, Value.ownBlock] at hm; have := Hrow.out.lt hb; omega
  ·simp [RA.blocks, Jw, Value.ownBlock] at hm; have := CR.lt Hflt.out hb; omega
 clear hs0 hal Hrow Hflt Hff Hsm
 generalize W.alloc (Obj.cells _ _ _) = W1 at hat ⊢
 generalize W.heap.size = r at hat ⊢
 have Hat := Kd hat
 clear hat
 go_loopw [22] (fun u wr => Rm w ws (.slice Aw ws.length cw) fv (IK (BM t).2) r u wr) (fun u _ => ws.length - (intOf u).toNat)
 case atStart => exact Hat.out
 case round =>
  obtain ⟨k, R, A, hk, rfl, hR, hok, hmv, hgo, hfix, hflt, hfn⟩ := hrel
  clear hsc
  by_cases hlt : k < ws.length
  ·obtain ⟨g, c, hv, hcell⟩ := hfix.row.elem (i := k) hlt (ys := ws[k].cells) rfl (GA ws k hlt) (by decide)
   obtain ⟨rfl, rfl⟩ : Aw = some ⟨g, 0, none⟩ ∧ cw = c := by simpa using hv
   have t0 := (hcell 0 (by decide)).1
   have t1 := (hcell 1 (by decide)).1
   have t2 := (hcell 2 (by decide)).1
   have t3 := (hcell 3 (by decide)).1
   simp only [Tk.cells, Ps.cells, List.getD_cons_zero, List.getD_cons_succ, Nat.add_zero] at t0 t1 t2 t3
   have hgl := hfix.row.lt (b := g) rfl
   have hrl := Af hR.blk
   obtain ⟨c0, c1, c2, c3, c4, cf⟩ := hR.facts
   have hnot : wr.heap.size ∉ A.blocks r := fun hm => by have := hR.lt _ hm; omega
   clear hv hcell
   cases hnow : R.now with
   | none =>
    have hnv := hR.nvNone hnow
    rw [hnv] at c2
    have hst := O0 hnow ws[k]
    obtain ⟨x, hx⟩ : ∃ x, R.between ws[k] = x := ⟨_, rfl⟩
    rw [hx] at hst
    have Hst := Kd hst
    have Hx := Kd hx
    have hbc := fun W (hW : BD W r A R) => Kz W r A R hW ws[k] hnow hok (by omega)
    rw [hx] at hbc
    by_cases hz : x.1 = 0
    ·have hz' : ((x.1 : Int) != 0) = false := by simp [hz]
     have Hz := Kd hz
     clear hst hx hnv hz
     go_wp2_with (go_at_call 56; go_must (refine (hbc _ (hR.same (Ad.alloc [] wr (AP ws[k])))).mono ?_; rintro e W3 ⟨rfl, A3, hR3, hm3⟩; have Hm3 := Kd ((AN.of_same (Ad.alloc [] wr (AP ws[k]))).trans hm3)))
     ·exact zq52
    ·have hz' : ((x.1 : Int) != 0) = true := by simp [hz]
     have Hz := Kd hz
     clear hst hx hnv hz
     go_wp2_with (go_at_call 56; go_must (refine (hbc _ (hR.same (Ad.alloc [] wr (AP ws[k])))).mono ?_; rintro e W3 ⟨rfl, A3, hR3, hm3⟩; have Hm3 := Kd ((AN.of_same (Ad.alloc [] wr (AP ws[k]))).trans hm3); have hb3 := hm3.same.get (Aj wr (AP ws[k])) hnot))
     exact zq12
   | some s =>
    obtain ⟨B, Aw', cw', Ap, cp, hnv, -⟩ := hR.nowFacts hnow
    rw [hnv] at c2
    have hst := OX hnow ws[k]
    obtain ⟨x, hx⟩ : ∃ x, R.within s ws[k] = x := ⟨_, rfl⟩
    rw [hx] at hst
    have Hst := Kd hst
    have Hx := Kd hx
    have hbc := fun W (hW : BD W r A R) => L3 W r A R hW ws[k] s hnow hok (by omega)
    rw [hx] at hbc
    by_cases hz : x.1 = 0
    ·have hz' : ((x.1 : Int) != 0) = false := by simp [hz]
     have Hz := Kd hz
     clear hst hx hnv hz
     go_wp2_with (go_at_call 57; go_must (refine (hbc _ (hR.same (Ad.alloc [] wr (AP ws[k])))).mono ?_; rintro e W3 ⟨rfl, A3, hR3, hm3⟩; have Hm3 := Kd ((AN.of_same (Ad.alloc [] wr (AP ws[k]))).trans hm3)))
     ·exact zq52
    ·have hz' : ((x.1 : Int) != 0) = true := by simp [hz]
     have Hz := Kd hz
     clear hst hx hnv hz
     go_wp2_with (go_at_call 57; go_must (refine (hbc _ (hR.same (Ad.alloc [] wr (AP ws[k])))).mono ?_; rintro e W3 ⟨rfl, A3, hR3, hm3⟩; have Hm3 := Kd ((AN.of_same (Ad.alloc [] wr (AP ws[k]))).trans hm3); have hb3 := hm3.same.get (Aj wr (AP ws[k])) hnot))
     exact zq12
  ·have hkk : k = ws.length := by omega
   subst hkk
   rw [List.drop_length, show DY [] R = (R, none) from rfl] at hgo
   have hout : R.out.length < 1000000 := by have := hok.out; omega
   obtain ⟨c0, c1, c2, c3, c4, cf⟩ := hR.facts
   have hrl := Af hR.blk
   have hlab := hR.label
   have H := Kd hR
   have Hmv := Kd hmv
   have Hgo := Kd hgo
   have Hflt := Kd hflt
   have Hfn := Kd hfn
   have hpl := fun w => ID t w ht
   cases hfo : IK (BM t).2 with
   | some f =>
    rw [hfo] at hflt
    obtain ⟨fb, hfv, hfb⟩ := hflt
    subst hfv
    have hRd : Bo t = (R.all, IK (BM t).2) := by
     unfold Bo
     rw [show (⟨[], none, none, 9, false⟩ : Rd) = Rd.zero from rfl, Hws.out, hgo]
     dsimp only
     have : (BM t).2.isNone = false := by
      cases h2 : (BM t).2 with
      | none => rw [h2] at hfo; cases hfo
      | some q => rfl
     simp [this]
    have HRd := Kd hRd
    clear hgo hfix hfb hfo hRd hok hR hmv hfn hlab
    go_wp2_with (go_at_call 58; go_must (refine (Da _ _ A R H.out hout).mono ?_; rintro e W4 ⟨v4, M4, rfl, hst4, hm4⟩))
    go_ret2
    refine ⟨v4, _, rfl, (Hmv.out.trans hm4).same, ?_, ?_⟩
    ·rw [HRd.out]; exact hst4
    ·rw [HRd.out]; exact Hflt.out.same hm4.same Hfn.out
   | none =>
    rw [hfo] at hflt
    have hfv : fv = .pointer none := hflt
    subst hfv
    have hsn : (BM t).2 = none := by
     cases h2 : (BM t).2 with
     | none => rfl
     | some q => rw [h2] at hfo; cases hfo
    have hRd : Bo t = (R.all, if R.now.isSome = true ∨ R.label.isSome = true then some ⟨⟨t.size, 1 + Lib.countByte t.data.toList 10, (t.size - Lib.lastIndexByte t 10).toNat⟩, ⟨#[]⟩, 63⟩ else none) := by
     unfold Bo
     rw [show (⟨[], none, none, 9, false⟩ : Rd) = Rd.zero from rfl, Hws.out, hgo]
     simp [hsn, IK]
    cases hnow : R.now with
    | some s =>
     obtain ⟨B, Aw', cw', Ap, cp, hnv, -⟩ := hR.nowFacts hnow
     rw [hnv] at c2
     rw [if_pos (.inl (by rw [hnow]; rfl))] at hRd
     have HRd := Kd hRd
     clear hgo hfix hfo hRd hok hR hmv hfn hlab hflt hsn hnow hnv
     exact zq32
    | none =>
     have hnv := hR.nvNone hnow
     rw [hnv] at c2
     cases hlb : R.label with
     | some lt =>
      rw [hlb] at hlab
      obtain ⟨lb, hlv, -⟩ := hlab
      rw [hlv] at c1
      rw [if_pos (.inr (by rw [hlb]; rfl))] at hRd
      have HRd := Kd hRd
      clear hgo hfix hfo hRd hok hR hmv hfn hflt hsn hnow hnv hlb hlv
      exact zq32
     | none =>
      rw [hlb] at hlab
      have hlv : A.lv = .pointer none := hlab
      rw [hlv] at c1
      rw [if_neg (by rw [hlb, hnow]; simp)] at hRd
      have HRd := Kd hRd
      clear hgo hfix hfo hRd hok hR hmv hfn hflt hsn hnow hnv hlb hlv hlab
      go_wp2_with (go_at_call 58; go_must (refine (Da _ _ A R H.out hout).mono ?_; rintro e W4 ⟨v4, M4, rfl, hst4, hm4⟩))
      go_ret2
      refine ⟨v4, _, rfl, (Hmv.out.trans hm4).same, ?_, ?_⟩
      ·rw [HRd.out]; exact hst4
      ·rw [HRd.out]; rfl
def Gu (t : Tk) (n : Nat) (w : World) (e : Ending) (w' : World) : Prop := ∃ b, e = .panicked [{ v := .iface 29 (.pointer (some ⟨b, 0, none⟩)), recovered := false }] ∧ CR w' (.pointer (some ⟨b, 0, none⟩)) (some ⟨t.at_, t.text, n⟩) ∧ Ad [] w w'
def tkV (t : Tk) : Value := .agg #[.string t.text, .int .i64 t.at_.off, .int .i64 t.at_.line, .int .i64 t.at_.col]
theorem CE (w : World) (t : Tk) (n : Nat) : Calls Tryz.prog 65 #[tkV t, .int .i64 n] w (Gu t n w) := by
 unfold tkV
 go_enter Tryz.func65, Tryz.ntmps65
 go_wp2
 refine ⟨rfl, w.heap.size + 1, rfl, ⟨_, rfl, ?_⟩, (Ad.alloc _ _ _).trans (Ad.alloc _ _ _)⟩
 rw [← AA w (.cells #[.string t.text, .int .i64 t.at_.off, .int .i64 t.at_.line, .int .i64 t.at_.col] 59)]
 exact Aj _ _
def M2 (t : Tk) (n : Nat) (w : World) (e : Ending) (w' : World) : Prop := if n = 0 then e = .returned (.tuple #[]) ∧ Ad [] w w' else Gu t n w e w'
theorem Gu.after {t : Tk} {n : Nat} {w w1 w' : World} {e : Ending} (h : Gu t n w1 e w') (hs : Ad [] w w1) : Gu t n w e w' := by
 obtain ⟨b, h1, h2, h3⟩ := h
 exact ⟨b, h1, h2, hs.trans h3⟩
theorem J5 (w : World) (t : Tk) (n : Nat) : Calls Tryz.prog 60 #[tkV t, .int .i64 n] w (M2 t n w) := by
 have hst := fun W => CE W t n
 unfold tkV at hst ⊢
 by_cases h0 : n = 0
 ·subst h0
  clear hst
  go_enter Tryz.func60, Tryz.ntmps60
  go_wp2
  refine bodyPost_end (results_none rfl _ _ _) rfl ?_
  rw [M2, if_pos rfl]
  exact ⟨rfl, Ad.alloc _ _ _⟩
 ·have hne : ((n : Int) == 0) = false := by rw [beq_eq_false_iff_ne]; omega
  go_enter Tryz.func60, Tryz.ntmps60
  go_wp2_with (go_at_call 65; go_must (refine (hst _).mono ?_; rintro e w' ⟨b, rfl, hf, hs⟩))
  refine ⟨rfl, ?_⟩
  rw [M2, if_neg h0]
  exact ⟨b, rfl, hf, (Ad.alloc _ _ _).trans hs⟩
structure LT (w : World) (l nb t : Nat) (TA : TA) (T : Tbl) : Prop where
 l0 : w.cell? ⟨l, 0, none⟩ = some (.pointer (some ⟨nb, 0, none⟩))
 n2 : w.cell? ⟨nb, 2, none⟩ = some (.pointer (some ⟨t, 0, none⟩))
 tbl : AW w t TA T
theorem LT.same {w w' : World} {l nb t : Nat} {TA : TA} {T : Tbl} (h : LT w l nb t TA T) (hs : Ad [] w w') : LT w' l nb t TA T := ⟨hs.cell h.l0 (by simp), hs.cell h.n2 (by simp), h.tbl.same hs (by simp)⟩
def Oc (x : Tk) (o : Option Nat) (w : World) (e : Ending) (w' : World) : Prop := match o with
 | some n => e = .returned (.int .i64 n) ∧ Ad [] w w'
 | none => Gu x 30 w e w'
theorem Fu (w : World) (l nb t : Nat) (TA : TA) (T : Tbl) (h : LT w l nb t TA T) (x : Tk) : Calls Tryz.prog 122 #[.pointer (some ⟨l, 0, none⟩), tkV x] w (Oc x (AJ x.text T.active) w) := by
 have hfd := fun (W : World) (hW : Ad [] w W) => Kk W t TA T (h.tbl.same hW (by simp)) x.text
 have hst := fun W => CE W x 30
 obtain ⟨l0, n2, -⟩ := h
 have ll := World.block_lt_of_cell? _ _ l0
 have nl := World.block_lt_of_cell? _ _ n2
 unfold tkV at hst ⊢
 cases ha : AJ x.text T.active with
 | some n =>
  rw [ha] at hfd
  dsimp only [Option.map, Option.getD, Option.isSome] at hfd
  clear ha hst
  go_enter Tryz.func122, Tryz.ntmps122
  go_wp2
  go_quiet ((go_at_call 152; go_must (exact Calls.quiet_of_same (Calls.turn (hfd _ ((Ad.alloc _ _ _).trans (Ad.drewN _ _ _)))))))
  go_wp2
  go_ret
  exact ⟨rfl, (Ad.alloc _ _ _).trans (Ad.drewN _ _ _)⟩
 | none =>
  rw [ha] at hfd
  dsimp only [Option.map, Option.getD, Option.isSome] at hfd
  clear ha
  go_enter Tryz.func122, Tryz.ntmps122
  go_wp2
  go_quiet ((go_at_call 152; go_must (exact Calls.quiet_of_same (Calls.turn (hfd _ ((Ad.alloc _ _ _).trans (Ad.drewN _ _ _)))))))
  go_wp2_with (go_at_call 65; go_must (refine (hst _).mono ?_; rintro e w' ⟨b, rfl, hf, hs⟩))
  exact ⟨rfl, b, rfl, hf, ((Ad.alloc _ _ _).trans (Ad.drewN _ _ _)).trans hs⟩
def PQ (x : Ex Int) (w : World) (e : Ending) (w' : World) : Prop := match x with
 | .ok n => e = .returned (.int .i64 n) ∧ Ad [] w w'
 | .error (t, n) => Gu t n w e w'
def NF (T : Tbl) (x : Tk) : Ex Int := match AJ x.text T.active with
 | some n => if T.isVar n = true then .ok n else .error (x, 71)
 | none => .error (x, 30)
theorem Oo (L : Ld) (x : Tk) : L.variable_ x = NF L.tbl x := by
 unfold Ld.variable_ Ld.symbol NF
 cases AJ x.text L.tbl.active <;> rfl
theorem FZ (w : World) (l nb t : Nat) (TA : TA) (T : Tbl) (h : LT w l nb t TA T) (x : Tk) : Calls Tryz.prog 114 #[.pointer (some ⟨l, 0, none⟩), tkV x] w (PQ (NF T x) w) := by
 have hsy := fun (W : World) (hW : Ad [] w W) => Fu W l nb t TA T (h.same hW) x
 have hst := fun W => CE W x 71
 have hiv := fun (W : World) (hW : Ad [] w W) (y : Int) => E1 h.tbl W hW y
 obtain ⟨l0, n2, -⟩ := h
 have ll := World.block_lt_of_cell? _ _ l0
 have nl := World.block_lt_of_cell? _ _ n2
 unfold tkV at hst hsy ⊢
 unfold NF
 cases ha : AJ x.text T.active with
 | none =>
  rw [ha] at hsy
  unfold Oc at hsy
  clear ha hst
  go_enter Tryz.func114, Tryz.ntmps114
  go_wp2_with (go_at_call 122; go_must (refine (hsy _ (Ad.alloc _ _ _)).mono ?_; rintro e w' ⟨b, rfl, hf, hs⟩))
  exact ⟨rfl, b, rfl, hf, (Ad.alloc _ _ _).trans hs⟩
 | some n =>
  rw [ha] at hsy
  unfold Oc at hsy
  dsimp only
  clear ha
  cases hv : T.isVar n with
  | true =>
   rw [if_pos rfl]
   go_enter Tryz.func114, Tryz.ntmps114
   go_wp2_with (first
    | (go_at_call 122; go_must (refine (hsy _ (Ad.alloc _ _ _)).mono ?_; rintro e w' ⟨rfl, hs⟩; have hs1 := (Ad.alloc [] w (Obj.cells #[.string x.text, .int .i64 x.at_.off, .int .i64 x.at_.line, .int .i64 x.at_.col] 59)).trans hs; have l1 := hs1.cell l0 (by simp); have n1 := hs1.cell n2 (by simp); have Hs1 := Kd hs1; clear hs hs1))
    | (go_at_call 30; go_must (refine (hiv _ Hs1.out _).mono ?_; rintro e' W2 ⟨rfl, hw2⟩; obtain rfl := hw2.symm)))
   go_ret
   exact ⟨rfl, Hs1.out⟩
  | false =>
   rw [if_neg (by decide)]
   go_enter Tryz.func114, Tryz.ntmps114
   go_wp2_with (first
    | (go_at_call 122; go_must (refine (hsy _ (Ad.alloc _ _ _)).mono ?_; rintro e w' ⟨rfl, hs⟩; have hB := hs.get (Aj w _) (by simp); obtain ⟨k0, k1, k2, k3, kf⟩ := BV hB; have hs1 := (Ad.alloc [] w (Obj.cells #[.string x.text, .int .i64 x.at_.off, .int .i64 x.at_.line, .int .i64 x.at_.col] 59)).trans hs; have l1 := hs1.cell l0 (by simp); have n1 := hs1.cell n2 (by simp); have Hs1 := Kd hs1; clear hs hs1 hB))
    | (go_at_call 30; go_must (refine (hiv _ Hs1.out _).mono ?_; rintro e' W2 ⟨rfl, hw2⟩; obtain rfl := hw2.symm))
    | (go_at_call 65; go_must (refine (hst _).mono ?_; rintro e w' ⟨b, rfl, hf, hs⟩)))
   exact ⟨rfl, b, rfl, hf, Hs1.out.trans hs⟩
def D0 (l : List Int) (n : Int) : List Pr := l.map fun x => (x, n)
def Q4 (w : World) (l : List Int) (n : Int) (v u : Value) (W : World) : Prop := ∃ k : Nat, k ≤ l.length ∧ u = .int .i64 k ∧ Row W 47 2 v k (AT (D0 (l.take k) n)) ∧ AH w v ∧ Ad [] w W
theorem Nt (w : World) (va : Value) (l : List Int) (he : Row w 3 1 va l.length (Ay l)) (n : Int) (hn : l.length ≤ 1000000) : Calls Tryz.prog 116 #[va, .int .i64 n] w (GP (D0 l n) w) := by
 obtain ⟨Ae, ce, rfl⟩ := he.shape
 have He := Kd he
 clear he
 go_enter Tryz.func116, Tryz.ntmps116
 go_wp2
 have h0 : Q4 w l n (.slice none 0 0) (.int .i64 0) w := ⟨0, Nat.zero_le _, rfl, World.ownsRow_nil _ _ _ _, by simp [AH, Value.ownBlock], Ad.refl _ _⟩
 have H0 := Kd h0
 clear h0
 go_loopw [5, 10] (fun v u wr => Q4 w l n v u wr) (fun _ u _ => l.length - (intOf u).toNat)
 case atStart => exact H0.out
 case round =>
  obtain ⟨k, hk, rfl, hrow, hfr, hsm⟩ := hrel
  by_cases hlt : k < l.length
  ·obtain ⟨ge, c, hve, t0, hgl⟩ := BS (He.out.same hsm (by simp)) hlt
   cases hve
   obtain ⟨Av, cv, rfl⟩ := hrow.shape
   have Hrow := Kd hrow
   have Hfr := Kd hfr
   have Hsm := Kd hsm
   clear hrow hfr hsm H0
   go_wp2_with (at_builtin; refine Bh (W := wr) rfl _ _ 33 rfl 47 2 16 _ Tryz.underlying33 Tryz.infoPair rfl (by decide) (.slice Av k cv) _ _ rfl Hrow.out [.int .i64 l[k], .int .i64 n] rfl rfl (by simp [Value.oneCell']) (by omega) (by decide) ?_; go_must (intro v6 W6 hr6 hs6 ho6; obtain ⟨A6, c6, rfl⟩ := hr6.shape; have Hr6 := Kd hr6; have Hs6 := Kd hs6; have Ho6 := Kd ho6; clear hr6 hs6 ho6))
   go_roundw
   case rel =>
    refine ⟨k + 1, hlt, by go_num, ?_, Hfr.out.next Hsm.out.size Ho6.out, Hsm.out.then Hs6.out fun c hc => .inr (Hfr.out c (Option.mem_toList.1 hc))⟩
    have e1 : D0 (l.take (k + 1)) n = D0 (l.take k) n ++ [(l[k], n)] := by
     unfold D0
     rw [List.take_succ_eq_append_getElem hlt, List.map_append]
     rfl
    rw [e1, D8]
    exact Hr6.out
   case measure => simp [intOf]; omega
  ·have hkk : k = l.length := by omega
   subst hkk
   rw [List.take_length] at hrow
   obtain ⟨Av, cv, rfl⟩ := hrow.shape
   have Hrow := Kd hrow
   have Hfr := Kd hfr
   have Hsm := Kd hsm
   clear hrow hfr hsm H0
   go_wp2
   go_ret
   exact ⟨.slice Av l.length cv, rfl, by rw [show (D0 l n).length = l.length by simp [D0]]; exact Hrow.out, Hsm.out, Hfr.out⟩
structure LR (w : World) (l nb t s : Nat) (TA : TA) (A : SA) (M : List Nat) (T : Tbl) (scs : List Sc) : Prop where
 lt : LT w l nb t TA T
 l1 : w.cell? ⟨l, 1, none⟩ = some (.pointer (some ⟨s, 0, none⟩))
 stk : Bq w s t A M scs
 small : DO scs
theorem LR.same {w w' : World} {l nb t s : Nat} {TA : TA} {A : SA} {M : List Nat} {T : Tbl} {scs : List Sc} (h : LR w l nb t s TA A M T scs) (hs : Ad [] w w') : LR w' l nb t s TA A M T scs :=
 ⟨h.lt.same hs, hs.cell h.l1 (by simp), h.stk.same hs, h.small⟩
def CV (x : Ex (List Int)) (w : World) (e : Ending) (w' : World) : Prop := match x with
 | .ok r => ∃ v, e = .returned v ∧ Row w' 3 1 v r.length (Ay r) ∧ Ad [] w w' ∧ AH w v
 | .error (t, n) => Gu t n w e w'
def P0 (w : World) (L : Ld) (ws : List Tk) (v u : Value) (W : World) : Prop :=
 ∃ (k : Nat) (e : List Int), k ≤ ws.length ∧ u = .int .i64 k ∧ e.length = k ∧ Row W 3 1 v e.length (Ay e) ∧ AH w v ∧ Ad [] w W ∧ L.floatGo ws [] = L.floatGo (ws.drop k) e
theorem NQ (L : Ld) (ws : List Tk) (e : List Int) (k : Nat) (hk : k < ws.length) : L.floatGo (ws.drop k) e = if e = [] then (L.symbol ws[k]).bind fun n => if L.tbl.isVar n = true then .error (ws[k], 72) else L.floatGo (ws.drop (k + 1)) [n]
  else (L.variable_ ws[k]).bind fun n => if (CW L.scs n).isSome then .error (ws[k], 70) else L.floatGo (ws.drop (k + 1)) (e ++ [n]) := by
 rw [List.drop_eq_getElem_cons hk, Ld.floatGo]
theorem DA {w : World} {v : Value} {ws : List Tk} (h : Row w 59 4 v ws.length (AC ws)) {k : Nat} (hk : k < ws.length) : ∃ g c, v = .slice (some ⟨g, 0, none⟩) ws.length c ∧ w.cell? ⟨g, k * 4, none⟩ = some (.string ws[k].text) ∧ w.cell? ⟨g, k * 4 + 1, none⟩ = some (.int .i64 ws[k].at_.off) ∧ w.cell? ⟨g, k * 4 + 2, none⟩ = some (.int .i64 ws[k].at_.line) ∧ w.cell? ⟨g, k * 4 + 3, none⟩ = some (.int .i64 ws[k].at_.col) ∧ g < w.heap.size := by
 obtain ⟨g, c, hv, hcell⟩ := h.elem (i := k) hk (ys := ws[k].cells) rfl (GA ws k hk) (by decide)
 exact ⟨g, c, hv, (hcell 0 (by decide)).1, (hcell 1 (by decide)).1, (hcell 2 (by decide)).1, (hcell 3 (by decide)).1, World.block_lt_of_cell? _ _ (hcell 0 (by decide)).1⟩
end Go.Proofs.YtbfbgfpghkijdaaGreatDoor
