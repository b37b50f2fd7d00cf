/- lemmalaw texts, part 49. -/
import Derived.Test.YtbfbgfpghkijdaaGreatDoorYag
import Derived.Test.YtbfbgfpghkijdaaGreatDoorYbv
import Derived.Deep.Upon
import Derived.Test.YtbfbgfpghkijdaaGreatDoorRows
import Derived.WalkKit
import Derived.ProofKit
import Derived.OpenShut
import Derived.Deep.DeepHandedRow
import Derived.Lib.LaidU8
import Derived.Lay
import Derived.Shelf.Vars
set_option maxRecDepth 100000
set_option linter.unusedVariables false
set_option linter.unusedSimpArgs false
set_option maxHeartbeats 32000000
namespace Go.Proofs.YtbfbgfpghkijdaaGreatDoor
open Go.RowKit
def Qi : List ByteArray → Bool
 | [] => false
 | x :: _ => x.toList == [40]
theorem GR {l : List ByteArray} (h : Qi l = false) (k : Nat) : B7 l k = [] ∨ ∃ x r, B7 l k = x :: r ∧ (x.text.toList == [40]) = false := by
 cases l with
 | nil => exact .inl rfl
 | cons x r =>
  have e := Jb (x :: r) k 0 (by simp [B7])
  have hl : B7 (x :: r) k ≠ [] := fun h => by have := congrArg List.length h; simp [B7] at this
  obtain ⟨y, m, hm⟩ := List.exists_cons_of_ne_nil hl
  refine .inr ⟨y, m, hm, ?_⟩
  have : y = (B7 (x :: r) k)[0]'(by simp [B7]) := by simp only [hm, List.getElem_cons_zero]
  rw [this, e]
  exact h
theorem Ol {l : List Tk} {k : Nat} (h : l = [] ∨ ∃ x r, l = x :: r ∧ (x.text.toList == [40]) = false) (hk : k < l.length) (m : List Tk) : l.take (k + 1) ++ m = [] ∨ ∃ x r, l.take (k + 1) ++ m = x :: r ∧ (x.text.toList == [40]) = false := by
 rcases h with rfl | ⟨x, r, rfl, hx⟩
 ·simp at hk
 ·exact .inr ⟨x, r.take k ++ m, by simp, hx⟩
theorem IQ : ∀ (l : List Tk) (k : Nat) (h : k < l.length) (n : Nat), (AC l).set (k * 4 + 1) (.int .i64 n) = AC (l.set k ⟨l[k].text, ⟨n, l[k].at_.line, l[k].at_.col⟩⟩)
 | x :: l, 0, _, n => by simp [AC, Tk.cells, Ps.cells]
 | x :: l, k + 1, h, n => by
  have ih := IQ l k (by simpa using h) n
  have e : (k + 1) * 4 + 1 = (k * 4 + 1) + 4 := by omega
  have e2 : AC (x :: l) = .string x.text :: .int .i64 x.at_.off :: .int .i64 x.at_.line :: .int .i64 x.at_.col :: AC l := rfl
  rw [e2, e]
  simp only [List.set_cons_succ, List.getElem_cons_succ]
  rw [ih]
  rfl
theorem Row.offNext {w : World} {l : List ByteArray} {k g c : Nat} (hk : k < l.length) (h : Row w 59 4 (.slice (some ⟨g, 0, none⟩) l.length c) l.length (AC (B7 l k))) :
  Row (w.setCell ⟨g, k * 4 + 1, none⟩ (.int .i64 ((k : Int) + 1))) 59 4 (.slice (some ⟨g, 0, none⟩) l.length c) l.length (AC (B7 l (k + 1))) := by
 have h1 := h.set1 (j := k * 4 + 1) (by omega) (.int .i64 ((k + 1 : Nat) : Int))
 rw [IQ (B7 l k) k (by rw [Ck]; exact hk)] at h1
 rw [Qj l k hk]
 have e := Jb l k k (by rw [Ck]; exact hk)
 rw [e] at h1
 simp only [Nat.lt_irrefl, if_false] at h1
 exact h1
theorem Ns {P : Program} {w : World} {t e : TypeId} {i : TypeInfo} (ty : TypeId) (ht : P.underlying t = some (.slice e)) (hi : P.info? e = some i) (A : Option Addr) (n c : Nat) (hle : n ≤ c) : (Builtin.append_ #[t, t] ty #[.slice A n c, .slice none 0 0]).run P w = .ok (.slice A n c) w :=
 run_append_nothing w t t ty e i ht hi A n c hle _ (Src.ofNil _ ht 0)
theorem OQ {P : Program} {ops : Array Oper} {rest : List Oper} {o : Oper} {a : Act} {Q : Exit → Act → World → Prop} {W : World} (hgd : o.guard = none) (s x : Operand) (t : TypeId) (ho : o.op = .call { callee := .builtin .append, args := #[s, x], argTypes := #[t, t] })
  (e : TypeId) (i : TypeInfo) (ht : P.underlying t = some (.slice e)) (hi : P.info? e = some i) (A : Option Addr) (n c : Nat) (hs : a.eval s = .slice A n c) (hle : n ≤ c) (hx : a.eval x = .slice none 0 0) (h : wpList P ops Q rest (a.put o.dst (.slice A n c)) W) : wpList P ops Q (o :: rest) a W := by
 refine wpList_plain hgd fun K hK => ?_
 unfold Oper.wp execOp
 simp only [ho, resolve, invoke, builtin, Sem.run_bind, Sem.run_pure, Result.andThen_ok, List.map_toArray, List.map_cons, List.map_nil, hs, hx, Ns _ ht hi A n c hle]
 exact hK _ _ h
def OfT (w : World) (S : List Nat) (T : TypeId) : Prop := ∀ b ∈ S, ∃ cs f, w.heap[b]? = some (.cells cs T f)
theorem OfT.row {w : World} {e k n : Nat} {v : Value} {xs : List Value} (h : Row w e k v n xs) : OfT w v.ownBlock.toList e := fun b hb => by
 rcases h.2 with ⟨rfl, _⟩ | ⟨g, cap, cur, rfl, _, h3, _⟩
 ·simp [Value.ownBlock] at hb
 ·simp [Value.ownBlock] at hb
  subst hb
  exact ⟨_, _, h3⟩
theorem OfT.one {w : World} {b : Nat} {cs : Array Value} {T : TypeId} {f : Nat × Nat} (h : w.heap[b]? = some (.cells cs T f)) : OfT w [b] T := fun x hx => by
 rw [List.mem_singleton] at hx; subst hx; exact ⟨_, _, h⟩
theorem Row.off {w w' : World} {S : List Nat} {T : TypeId} (hs : Ad S w w') (hT : OfT w S T) {e k n : Nat} {v : Value} {xs : List Value} (h : Row w e k v n xs) (hne : e ≠ T) : Row w' e k v n xs :=
 h.same hs fun b hb hm => by
  obtain ⟨cs, f, hc⟩ := hT b hm
  exact h.ne hc hne hb
theorem Ad.off {w w' : World} {S : List Nat} {T : TypeId} (hs : Ad S w w') (hT : OfT w S T) {b : Nat} {cs : Array Value} {T' : TypeId} {f : Nat × Nat} (h : w.heap[b]? = some (.cells cs T' f)) (hne : T' ≠ T) : w'.heap[b]? = some (.cells cs T' f) :=
 hs.get h fun hm => by
  obtain ⟨cs', f', hc⟩ := hT b hm
  rw [h] at hc
  cases hc
  exact hne rfl
theorem Bi.off {w w' : World} {S : List Nat} {T : TypeId} (hs : Ad S w w') (hT : OfT w S T) {v : Value} {evs : List Value} {l : List Hy} (h : Bi w [] v evs l) (h1 : 49 ≠ T) (h2 : 3 ≠ T) : Bi w' [] v evs l :=
 ⟨h.row.off hs hT h1, h.exprs.imp fun _ _ hi => ⟨hi.row.off hs hT h2, by simp⟩, h.flo⟩
theorem Bi.plus {w w' : World} {v v' : Value} {evs : List Value} {l : List Hy} (h : Bi w [] v evs l) (hs : Ad v.ownBlock.toList w w') (hr : Row w' 49 4 v' (l.length + 1) (BE l evs ++ [.string Gk, .bool false, .int .i64 (-1), .slice none 0 0])) :
  Bi w' [] v' (evs ++ [.slice none 0 0]) (l ++ [⟨Gk, false, -1, []⟩]) := by
 refine ⟨?_, ?_, fun x hx hf => ?_⟩
 ·rw [List.length_append, D9 ⟨Gk, false, -1, []⟩ _ l evs h.exprs.len]
  exact hr
 ·exact (h.exprs.imp fun _ _ hi => (⟨hi.row.off hs (OfT.row h.row) (by decide), by simp⟩ : Ds w' [] _ _)).snoc (Fix.nil _ _ _ _)
 ·rcases List.mem_append.1 hx with hx | hx
  ·exact h.flo x hx hf
  ·rw [List.mem_singleton] at hx; subst hx; cases hf
theorem Qc {w : World} {e k n : Nat} {v : Value} {xs : List Value} (h : Row w e k v n xs) (hn : n ≠ 0) : ∃ g c, v = .slice (some ⟨g, 0, none⟩) n c := by
 rcases h.2 with ⟨h1, h2⟩ | ⟨g2, cap, cur, h1, h2, _⟩
 ·exact absurd h2 hn
 ·exact ⟨g2, cap, h1⟩
theorem Nm {X : World} {v : Value} {l lm : List ByteArray} {k : Nat} (hk : k < l.length) (h : Row X 59 4 v (k + 1 + lm.length) (AC ((B7 l l.length).take (k + 1)) ++ AC (lm.map CQ))) :
  Row X 59 4 v ((B7 l l.length).take (k + 1) ++ lm.map CQ).length (AC ((B7 l l.length).take (k + 1) ++ lm.map CQ)) := by
 have e1 : ((B7 l l.length).take (k + 1) ++ lm.map CQ).length = k + 1 + lm.length := by simp [Ck]; omega
 have e2 : AC ((B7 l l.length).take (k + 1) ++ lm.map CQ) = AC ((B7 l l.length).take (k + 1)) ++ AC (lm.map CQ) := by simp [AC]
 rw [e1, e2]
 exact h
theorem zq129 {P : Prop} (h : P := by
 go_wp2
 go_meet
 exact ⟨by show _ = Value.bool (x.toList == [40]); rw [hx], rfl⟩) : P := h
theorem LC (w : World) (t : ByteArray) (n : Int) (bh : Bool) (wv mv : Value) (l lm : List ByteArray) (hl : FD w wv l) (hm : FD w mv lm) (hll : l.length ≤ 2000000) (hlm : lm.length ≤ 2000000) (ht : t.size < 4611686018427387904) (hb : BF w) (hlib : Dj w) :
  Calls Tryz.prog 5 #[.string t, .agg #[.int .i64 n, .bool bh, wv], mv] w fun e w' => e = .returned (.bool true) ∧ Ad [] w w' := by
 obtain ⟨Aw, cw, rfl⟩ := hl.shape
 obtain ⟨Am, cm, rfl⟩ := hm.shape
 have hld := fun (W : World) (hW : Ad [] w W) => JI t W ht (hb.same hW) (hlib.same hW)
 have hal := fun (W : World) (hW : Ad [] w W) => Kw W (hb.same hW) (hlib.same hW)
 have hrw := fun (W : World) (hW : Ad [] w W) => Ia W _ l (hl.same hW) (by omega)
 have hrm := fun (W : World) (hW : Ad [] w W) => Ia W _ lm (hm.same hW) (by omega)
 unfold Py at hld
 unfold Lt at hrw hrm
 have Hal := Kd hal
 have Hrw := Kd hrw
 have Hrm := Kd hrm
 have Hl := Kd hl
 have Hw0 : Hid (Ad [] w (w.alloc (.cells #[.int .i64 n, .bool bh, .slice Aw l.length cw] 51))) := Kd (Ad.alloc [] w _)
 have HQ := Kd (Aj w (.cells #[.int .i64 n, .bool bh, .slice Aw l.length cw] 51))
 clear hal hrw hrm hl hm hb hlib
 cases hlo : CB t with
 | error f =>
  simp only [hlo] at hld
  have Hld := Kd hld
  clear hld hlo
  go_enter Tryz.func5, Tryz.ntmps5
  go_wp2_with (first
   | (go_at_call 8; go_must (refine (Hld.out _ Hw0.out).mono ?_; rintro e1 W1 ⟨hs1, v, rfl, hfl⟩; have Hs1 := Kd hs1; clear hs1 hfl))
   | (go_at_call 17; go_must (refine (Hal.out _ (Hw0.out.trans Hs1.out)).mono ?_; rintro e2 W2 ⟨rfl, hs2⟩; have Hs2 := Kd hs2; clear hs2)))
  go_ret
  exact ⟨rfl, (Hw0.out.trans Hs1.out).trans Hs2.out⟩
 | ok B =>
  simp only [hlo] at hld
  have Hld := Kd hld
  have hN := (K7 hlo).1
  have hHs := OC hlo
  have hLb := QK hlo
  have HN := Kd hN
  have HHs := Kd hHs
  have HLb := Kd hLb
  clear hld hlo hN hHs hLb
  go_enter Tryz.func5, Tryz.ntmps5
  go_upto_region 4 with (first
   | (go_at_call 8; go_must (refine (Hld.out _ Hw0.out).mono ?_; rintro e1 W1 ⟨hs1, nb, P, rfl, hA⟩; have HA := Kd (CF.mk hA HN.out HHs.out); have Hs1 := Kd hs1; clear hs1 hA))
   | (go_at_call 17; go_must (refine (Hal.out _ (Hw0.out.trans Hs1.out)).mono ?_; rintro e2 W2 ⟨rfl, hs2⟩; have Hs2 := Kd hs2; clear hs2)))
  have HQ2 := Kd ((Hs1.out.trans Hs2.out).get HQ.out (by simp))
  have HA2 := Kd (HA.out.same Hs2.out)
  have Hw2 := Kd ((Hw0.out.trans Hs1.out).trans Hs2.out)
  obtain ⟨q0, q1, q2, qf⟩ := Er HQ2.out
  have ql := Af HQ2.out
  clear HA HQ Hs1 Hs2 Hld
  go_cut [38] (fun v wx => v = .bool (Qi l) ∧ wx = W2)
  case first =>
   cases l with
   | nil =>
    go_wp2
    go_meet
    exact ⟨rfl, rfl⟩
   | cons x r =>
    obtain ⟨g, off, hA, t0, hgl⟩ := (Hl.out.same Hw2.out).cell (k := 0) (by simp)
    cases hA
    have hz : (0 : Int) < ((x :: r).length : Int) := by simp only [List.length_cons]; omega
    rw [Nat.add_zero] at t0
    cases hx : (x.toList == [40]) with
    | true =>
     exact zq129
    | false =>
     exact zq129
  obtain ⟨rfl, hwc⟩ := hcut
  have hwc' := hwc.symm
  subst hwc'
  clear hwc
  cases hh : Qi l with
  | true =>
   go_wp2
   go_ret
   exact ⟨rfl, Hw2.out⟩
  | false =>
   by_cases hn : 0 ≤ n ∧ n < (B.ld.asserts.length : Int)
   ·obtain ⟨k0, hk0, rfl⟩ : ∃ k0 : Nat, k0 < B.ld.asserts.length ∧ n = k0 := ⟨n.toNat, by omega, by omega⟩
    have hcx := fun (W : World) (hW : Ad [] W2 W) => EM W nb P B (HA2.out.same hW).at_ HN.out k0 hk0
    have hsm := HN.out.small _ (List.getElem_mem hk0)
    have hk1 : k0 ≤ 1024 := Nat.le_trans (Nat.le_of_lt hk0) HN.out.n
    obtain ⟨a, ha⟩ : ∃ a, B.ld.asserts[k0] = a := ⟨_, rfl⟩
    rw [ha] at hcx hsm
    unfold JR cxV at hcx
    have Hcx := Kd hcx
    have Hsm := Kd hsm
    have Hh := Kd hh
    clear hn hcx hsm ha hk0 hh
    go_wp2_with (first
     | (go_at_call 18; go_must (refine (Hcx.out _ (Ad.refl _ _)).mono ?_; rintro e3 W3 ⟨⟨fh, fp, fg, sh, sp, pr, fes, ses⟩, rfl, hnw, hs3⟩; obtain ⟨A1, c1, A2, c2, A3, c3, A4, c4, A5, c5, A6, c6, r1, r2, r3, r4, r5, r6⟩ := hnw.inn.six; dsimp only at r1 r2 r3 r4 r5 r6; subst r1 r2 r3 r4 r5 r6; dsimp only; have Hs3 := Kd hs3; have Hnw := Kd hnw; have hq3 := hs3.get HQ2.out (by simp); clear q0 q1 q2 qf ql; obtain ⟨q0, q1, q2, qf⟩ := Er hq3; have ql := Af hq3; clear hs3 hnw hq3))
     | (go_at_call 19; go_must (refine (Hrw.out _ ((Hw2.out.trans Hs3.out).trans (Ad.alloc [] _ _))).mono ?_; rintro e4 W4 ⟨v4, rfl, hr4, hf4, hs4, -⟩; obtain ⟨A7, c7, rfl⟩ := hr4.shape; have Hr4 := Kd hr4; have Hf4 := Kd hf4; have Hs4 := Kd hs4; clear hr4 hf4 hs4)))
    have hcb := Aj W3 (.cells #[.slice A4 a.shyps.length c4, .slice A5 a.spairs.length c5, .slice A1 a.hyps.length c1, .int .i64 k0, .slice A3 a.goal.length c3] 35)
    obtain ⟨cb, hcbe⟩ : ∃ b, b = W3.heap.size := ⟨_, rfl⟩
    obtain ⟨Wc, hWc⟩ : ∃ W, W = W3.alloc (.cells #[.slice A4 a.shyps.length c4, .slice A5 a.spairs.length c5, .slice A1 a.hyps.length c1, .int .i64 k0, .slice A3 a.goal.length c3] 35) := ⟨_, rfl⟩
    have hsc : Ad [] W2 Wc := by rw [hWc]; exact Hs3.out.trans (Ad.alloc [] _ _)
    have hs3c : Ad [] W3 Wc := by rw [hWc]; exact Ad.alloc [] _ _
    have hs4 := Hs4.out
    have hf4 := Hf4.out
    rw [← hWc] at hcb hs4 hf4
    rw [← hcbe] at hcb ⊢
    have hcb2 : W2.heap.size ≤ cb := by rw [hcbe]; exact Hs3.out.size
    have Hcb := Kd hcb
    have Hsc := Kd hsc
    have Hs3c := Kd hs3c
    have Hsc4 := Kd hs4
    have Hfc4 := Kd hf4
    have h0 : Row W4 59 4 (.slice A7 l.length c7) l.length (AC (B7 l 0)) := by rw [Pe]; exact Hr4.out
    have H0 := Kd h0
    clear hcb hcbe hWc hsc hs3c hs4 hf4 h0 q0 q1 q2 qf ql Hs4 Hf4 Hr4
    go_loopw [12] (fun u wr => ∃ k : Nat, k ≤ l.length ∧ u = .int .i64 k ∧ Row wr 59 4 (.slice A7 l.length c7) l.length (AC (B7 l k)) ∧ Ad [] Wc wr) (fun u _ => l.length - (intOf u).toNat)
    case atStart => exact ⟨0, Nat.zero_le _, rfl, H0.out, Hsc4.out⟩
    case round =>
     obtain ⟨k, hk, rfl, hrow, hsr⟩ := hrel
     by_cases hlt : k < l.length
     ·obtain ⟨g, c', hv, hce, hcf⟩ := hrow.cell (j := k * 4 + 1) (by omega)
      cases hv
      have hgl := World.block_lt_of_cell? _ _ hce
      have Hrow := Kd hrow
      have Hsr := Kd hsr
      clear hrow hsr H0
      go_wp2
      go_roundw
      case rel => exact ⟨k + 1, hlt, by go_num, Hrow.out.offNext hlt, Hsr.out.setNew _ _ (Hfc4.out g rfl)⟩
      case measure => simp [intOf]; omega
     ·have hkk : k = l.length := by omega
      subst hkk
      have hI := HA2.out.same (Hsc.out.trans hsr)
      have hC := (Hnw.out.cxIn Hsm.out k0).same (Hs3c.out.trans hsr)
      have hrow2 : Row wr 59 4 (.slice A7 l.length c7) (B7 l l.length).length (AC (B7 l l.length)) := by rw [Ck]; exact hrow
      have htx := Fi wr nb P B hI (a.cx k0) _ _ (.slice A1 a.hyps.length c1) _ hC _ (B7 l l.length) hrow2 (by rw [Ck]; omega) dot (GR Hh.out _)
      obtain ⟨d, hd⟩ : ∃ d, B.run B.ld.tbl.isVar (a.cx k0) (B7 l l.length) dot = d := ⟨_, rfl⟩
      rw [hd] at htx
      unfold OS cxV tkV Asr.cx dot at htx
      have hx := hsr.get Hcb.out (by simp)
      obtain ⟨x0, x1, x2, x3, x4, xf⟩ := Ee hx
      have xl := Af hx
      have Hx := Kd hx
      have Hd := Kd hd
      have Hrow := Kd hrow
      have Hsr := Kd hsr
      have HI := Kd hI
      have Htx := Kd htx
      clear hx hd hrow hsr hI hC hrow2 htx H0
      by_cases hc0 : d.code = 0
      ·have n0 : ((d.code : Int) == 0) = true := by simp [hc0]
       have Hc0 := Kd hc0
       clear hc0
       go_upto_region 17 with (go_at_call 20; go_must (refine Htx.out.mono ?_; rintro e5 W5 ⟨rfl, hs5⟩; have hx5 := hs5.get Hx.out (by simp); clear x0 x1 x2 x3 x4 xf xl; obtain ⟨x0, x1, x2, x3, x4, xf⟩ := Ee hx5; have xl := Af hx5; have Hx5 := Kd hx5; have Hs5 := Kd hs5; unfold vdC; clear hs5 hx5))
       have s35 := (Hs3c.out.trans Hsr.out).trans Hs5.out
       have hH5 := Hnw.out.inn.sh.same s35
       have hP5 : Row W5 47 2 (.slice A5 a.spairs.length c5) a.spairs.length (AT a.spairs) := Hnw.out.inn.sp.row.same s35 (by simp)
       have hG5 : Row W5 3 1 (.slice A3 a.goal.length c3) a.goal.length (Ay a.goal) := Hnw.out.inn.fg.row.same s35 (by simp)
       have hT5 := Hrow.out.same Hs5.out (by simp)
       have hsX : Ad [cb] W5 ((W5.setCell ⟨cb, 3, none⟩ (.int .i64 ((k0 : Int) + 1048576))).alloc (.cells #[.string ⟨#[]⟩, .int .i64 d.code, .string d.at_.text, .int .i64 d.at_.at_.off, .int .i64 d.at_.at_.line, .int .i64 d.at_.at_.col, .int .i64 d.count, .int .i64 d.peak] 61)) := (Ad.setCell W5 _ _ (by simp)).trans (Ad.alloc _ _ _)
       have hoX : OfT W5 [cb] 35 := OfT.one Hx5.out
       have hcX := AR (AI Hx5.out 3 (.int .i64 ((k0 : Int) + 1048576))) (.cells #[.string ⟨#[]⟩, .int .i64 d.code, .string d.at_.text, .int .i64 d.at_.at_.off, .int .i64 d.at_.at_.line, .int .i64 d.at_.at_.col, .int .i64 d.count, .int .i64 d.peak] 61)
       simp only [List.setIfInBounds_toArray, List.set_cons_succ, List.set_cons_zero] at hcX
       have hvX := Aj (W5.setCell ⟨cb, 3, none⟩ (.int .i64 ((k0 : Int) + 1048576))) (.cells #[.string ⟨#[]⟩, .int .i64 d.code, .string d.at_.text, .int .i64 d.at_.at_.off, .int .i64 d.at_.at_.line, .int .i64 d.at_.at_.col, .int .i64 d.count, .int .i64 d.peak] 61)
       rw [Ba] at hvX
       generalize (W5.setCell ⟨cb, 3, none⟩ (.int .i64 ((k0 : Int) + 1048576))).alloc (.cells #[.string ⟨#[]⟩, .int .i64 d.code, .string d.at_.text, .int .i64 d.at_.at_.off, .int .i64 d.at_.at_.line, .int .i64 d.at_.at_.col, .int .i64 d.count, .int .i64 d.peak] 61) = X at hsX hcX hvX ⊢
       have hHX := hH5.off hsX hoX (by decide) (by decide)
       have hPX := hP5.off hsX hoX (by decide)
       have hGX := hG5.off hsX hoX (by decide)
       have hTX := hT5.off hsX hoX (by decide)
       have hs2X : Ad [] W2 X := ((Hsc.out.trans Hsr.out).trans Hs5.out).then hsX fun x hx => .inr (by simp at hx; omega)
       have hfs := Hnw.out.sh
       have hfp := Hnw.out.sp
       have hl1 := Hsm.out.shyps
       have hl2 := Hsm.out.spairs
       clear x0 x1 x2 x3 x4 xf xl
       obtain ⟨x0, x1, x2, x3, x4, xf⟩ := Ee hcX
       have xl := Af hcX
       have HHX := Kd hHX
       have HPX := Kd hPX
       have HGX := Kd hGX
       have HTX := Kd hTX
       have HcX := Kd hcX
       have HvX := Kd hvX
       have Hs2X := Kd hs2X
       have Hfs := Kd hfs
       have Hfp := Kd hfp
       have HgW := Kd (Af hvX)
       clear s35 hH5 hP5 hG5 hT5 hsX hoX hHX hPX hGX hTX hcX hvX hs2X hfs hfp
       go_upto_region 18 with (at_builtin; refine Bh (W := X) rfl _ _ 22 rfl 49 4 56 _ Tryz.underlying22 Tryz.infoHyp rfl (by decide) (.slice A4 a.shyps.length c4) _ _ rfl HHX.out.row [.string ⟨#[110, 111, 32, 108, 97, 98, 101, 108]⟩, .bool false, .int .i64 (-1), .slice none 0 0] rfl rfl (by simp [Value.oneCell']) (by omega) (by decide) ?_; go_must (intro v6 X6 hr6 hs6 ho6; obtain ⟨A8, c8, rfl⟩ := hr6.shape; have hc6 := hs6.off (OfT.row HHX.out.row) HcX.out (by decide); clear x0 x1 x2 x3 x4 xf xl; obtain ⟨x0, x1, x2, x3, x4, xf⟩ := Ee hc6; have xl := Af hc6; have Hc6 := Kd hc6; have Hr6 := Kd hr6; have Hs6 := Kd hs6; have Ho6 := Kd ho6; clear hr6 hs6 ho6 hc6))
       have hH6 := HHX.out.plus Hs6.out Hr6.out
       have hP6 := HPX.out.off Hs6.out (OfT.row HHX.out.row) (by decide)
       have hG6 := HGX.out.off Hs6.out (OfT.row HHX.out.row) (by decide)
       have hT6 := HTX.out.off Hs6.out (OfT.row HHX.out.row) (by decide)
       have hv6 := Hs6.out.off (OfT.row HHX.out.row) HvX.out (by decide)
       have hs26 : Ad [] W2 X6 := Hs2X.out.then Hs6.out fun x hx => .inr (Hfs.out x (Option.mem_toList.1 hx))
       have hs7 : Ad [cb] X6 (X6.setCell ⟨cb, 0, none⟩ (.slice A8 (a.shyps.length + 1) c8)) := Ad.setCell X6 _ _ (by simp)
       have ho7 : OfT X6 [cb] 35 := OfT.one Hc6.out
       have hc7 := AI Hc6.out 0 (.slice A8 (a.shyps.length + 1) c8)
       simp only [List.setIfInBounds_toArray, List.set_cons_succ, List.set_cons_zero] at hc7
       generalize X6.setCell ⟨cb, 0, none⟩ (.slice A8 (a.shyps.length + 1) c8) = X7 at hs7 hc7 ⊢
       have hH7 := hH6.off hs7 ho7 (by decide) (by decide)
       have hP7 := hP6.off hs7 ho7 (by decide)
       have hG7 := hG6.off hs7 ho7 (by decide)
       have hT7 := hT6.off hs7 ho7 (by decide)
       have hv7 := hs7.off ho7 hv6 (by decide)
       have hs27 : Ad [] W2 X7 := hs26.then hs7 fun x hx => .inr (by simp at hx; omega)
       clear x0 x1 x2 x3 x4 xf xl
       obtain ⟨x0, x1, x2, x3, x4, xf⟩ := Ee hc7
       have xl := Af hc7
       have HH7 := Kd hH7
       have HP7 := Kd hP7
       have HG7 := Kd hG7
       have HT7 := Kd hT7
       have Hc7 := Kd hc7
       have Hv7 := Kd hv7
       have Hs27 := Kd hs27
       clear hH6 hP6 hG6 hT6 hv6 hs26 hs7 ho7 hc7 hH7 hP7 hG7 hT7 hv7 hs27 HHX HPX HGX HTX HcX HvX Hs2X Hc6 Hr6 Hs6 Ho6
       go_upto_region 19 with (at_builtin; refine Bh (W := X7) rfl _ _ 33 rfl 47 2 16 _ Tryz.underlying33 Tryz.infoPair rfl (by decide) (.slice A5 a.spairs.length c5) _ _ rfl HP7.out [.int .i64 (-5), .int .i64 (-4)] rfl rfl (by simp [Value.oneCell']) (by omega) (by decide) ?_; go_must (intro v8 X8 hr8 hs8 ho8; obtain ⟨A9, c9, rfl⟩ := hr8.shape; have hc8 := hs8.off (OfT.row HP7.out) Hc7.out (by decide); clear x0 x1 x2 x3 x4 xf xl; obtain ⟨x0, x1, x2, x3, x4, xf⟩ := Ee hc8; have xl := Af hc8; have Hc8 := Kd hc8; have Hr8 := Kd hr8; have Hs8 := Kd hs8; clear hr8 hs8 ho8 hc8))
       have hH8 := HH7.out.off Hs8.out (OfT.row HP7.out) (by decide) (by decide)
       have hG8 := HG7.out.off Hs8.out (OfT.row HP7.out) (by decide)
       have hT8 := HT7.out.off Hs8.out (OfT.row HP7.out) (by decide)
       have hv8 := Hs8.out.off (OfT.row HP7.out) Hv7.out (by decide)
       have hs28 : Ad [] W2 X8 := Hs27.out.then Hs8.out fun x hx => .inr (Hfp.out x (Option.mem_toList.1 hx))
       have hs9 : Ad [cb] X8 (X8.setCell ⟨cb, 1, none⟩ (.slice A9 (a.spairs.length + 1) c9)) := Ad.setCell X8 _ _ (by simp)
       have ho9 : OfT X8 [cb] 35 := OfT.one Hc8.out
       have hc9 := AI Hc8.out 1 (.slice A9 (a.spairs.length + 1) c9)
       simp only [List.setIfInBounds_toArray, List.set_cons_succ, List.set_cons_zero] at hc9
       generalize X8.setCell ⟨cb, 1, none⟩ (.slice A9 (a.spairs.length + 1) c9) = X9 at hs9 hc9 ⊢
       have hH9 := hH8.off hs9 ho9 (by decide) (by decide)
       have hP9 : Row X9 47 2 (.slice A9 (a.spairs.length + 1) c9) (a.spairs ++ [(-5, -4)]).length (AT (a.spairs ++ [(-5, -4)])) := by
        rw [D8, List.length_append]
        exact Hr8.out.off hs9 ho9 (by decide)
       have hG9 := hG8.off hs9 ho9 (by decide)
       have hT9 := hT8.off hs9 ho9 (by decide)
       have hv9 := hs9.off ho9 hv8 (by decide)
       have hs29 : Ad [] W2 X9 := hs28.then hs9 fun x hx => .inr (by simp at hx; omega)
       have hC9 : Kr X9 (a.cx k0).plus (.slice A8 (a.shyps.length + 1) c8) (.slice A9 (a.spairs.length + 1) c9) (.slice A3 a.goal.length c3) :=
        ⟨⟨_, hH9⟩, by have := Hsm.out.shyps; simp [Cx.plus, Asr.cx]; omega, fun x hx => by
         rcases List.mem_append.1 hx with hx | hx
         ·exact Hsm.out.she x hx
         ·rw [List.mem_singleton] at hx; subst hx; simp, hP9, by have := Hsm.out.spairs; simp [Cx.plus, Asr.cx]; omega, Seg.of_row hG9, Hsm.out.goal⟩
       have hrow9 : Row X9 59 4 (.slice A7 l.length c7) (B7 l l.length).length (AC (B7 l l.length)) := by rw [Ck]; exact hT9
       have htx9 := Fi X9 nb P B (HA2.out.same hs29) (a.cx k0).plus _ _ (.slice A1 a.hyps.length c1) _ hC9 _ (B7 l l.length) hrow9 (by rw [Ck]; omega) dot (GR Hh.out _)
       have hrp : B.run B.ld.tbl.isVar (a.cx k0).plus (B7 l l.length) dot = d := by
        rw [← Hd.out]
        exact Jy (Cx.plus_more HLb.out (a.cx k0)) (fun s e he => Mm HHs.out he) _ 0 _ (by have := Hd.out; unfold Bs.run at this; rw [this]; exact Hc0.out)
       rw [hrp] at htx9
       unfold OS cxV tkV Asr.cx Cx.plus dot at htx9
       clear x0 x1 x2 x3 x4 xf xl
       obtain ⟨x0, x1, x2, x3, x4, xf⟩ := Ee hc9
       have xl := Af hc9
       have Hv9 := Kd hv9
       have Htx9 := Kd htx9
       have Hs29 := Kd hs29
       clear hH8 hG8 hT8 hv8 hs28 hs9 ho9 hc9 hH9 hP9 hG9 hT9 hv9 hs29 hC9 hrow9 htx9 hrp
       go_wp2_with (go_at_call 20; go_must (refine Htx9.out.mono ?_; rintro e10 W10 ⟨rfl, hs10⟩; obtain ⟨v0, v1, v2, v3, v4, v5, v6, v7, vf⟩ := Nv (hs10.get Hv9.out (by simp)); have vl := Af (hs10.get Hv9.out (by simp)); have Hs10 := Kd hs10; unfold vdC; clear hs10))
       go_ret
       exact ⟨rfl, ((Hw2.out.trans Hs29.out).trans Hs10.out).trans (Ad.alloc [] _ _)⟩
      ·have n0 : ((d.code : Int) == 0) = false := by simp [hc0]
       have hvf := Rs (B := B) (vars := B.ld.tbl.isVar) (c := a.cx k0) (l := l) (en := dot) (en' := ⟨⟨#[46]⟩, ⟨0, 0, 0⟩⟩) (by rw [Hd.out]; exact hc0) (lm.map CQ)
       rw [Hd.out] at hvf
       have htx := Htx.out
       clear hc0
       rcases hvf with ⟨k, hk, hat, hre⟩ | hat
       ·have hrow2 : Row wr 59 4 (.slice A7 l.length c7) (B7 l l.length).length (AC (B7 l l.length)) := by rw [Ck]; exact Hrow.out
        obtain ⟨g, c', hv, t0, t1, t2, t3, hgl⟩ := DA hrow2 (k := k) (by rw [Ck]; exact hk)
        rw [Ck] at hv
        cases hv
        rw [Jb] at t0 t1 t2 t3
        rw [if_pos hk] at t1
        dsimp only at t0 t1 t2 t3
        obtain ⟨dc, dt, dn, dp⟩ := d
        dsimp only at hat
        subst hat
        unfold vdC at htx
        dsimp only at htx n0
        have Htx' := Kd htx
        have Hre := Kd hre
        have Hrow2 := Kd hrow2
        have g1 : decide ((k : Int) + 1 < 1) = false := decide_eq_false (by omega)
        have g0 : ¬ ((k : Int) + 1 < 1) := by omega
        have g2 : decide ((l.length : Int) < (k : Int) + 1) = false := decide_eq_false (by omega)
        have g3 : (k : Int) + 1 - 1 = k := by omega
        clear htx hre hrow2 Htx
        go_upto_region 23 with (go_at_call 20; go_must (refine Htx'.out.mono ?_; rintro e5 W5 ⟨rfl, hs5⟩; have Hs5 := Kd hs5; have t0' := hs5.cell t0 (by simp); have t1' := hs5.cell t1 (by simp); have t2' := hs5.cell t2 (by simp); have t3' := hs5.cell t3 (by simp); have hgl5 := Nat.lt_of_lt_of_le hgl hs5.size; have hx5 := hs5.get Hx.out (by simp); clear x0 x1 x2 x3 x4 xf xl; obtain ⟨x0, x1, x2, x3, x4, xf⟩ := Ee hx5; have xl := Af hx5; have Hx5 := Kd hx5; clear hs5 t0 t1 t2 t3 hgl hx5))
        go_quiet (fail)
        go_upto_region 25 with fail
        have hsX : Ad [] W5 ((W5.alloc (.cells #[.string ⟨#[]⟩, .int .i64 dc, .string l[k], .int .i64 ((k : Int) + 1), .int .i64 0, .int .i64 0, .int .i64 dn, .int .i64 dp] 61)).drewN nq) := (Ad.alloc [] _ _).trans (Ad.drewN [] _ _)
        have hvX := (Jq (W5.alloc (.cells #[.string ⟨#[]⟩, .int .i64 dc, .string l[k], .int .i64 ((k : Int) + 1), .int .i64 0, .int .i64 0, .int .i64 dn, .int .i64 dp] 61)) nq W5.heap.size).trans (Aj W5 (.cells #[.string ⟨#[]⟩, .int .i64 dc, .string l[k], .int .i64 ((k : Int) + 1), .int .i64 0, .int .i64 0, .int .i64 dn, .int .i64 dp] 61))
        generalize (W5.alloc (.cells #[.string ⟨#[]⟩, .int .i64 dc, .string l[k], .int .i64 ((k : Int) + 1), .int .i64 0, .int .i64 0, .int .i64 dn, .int .i64 dp] 61)).drewN nq = X at hsX hvX ⊢
        have hTX := Hrow.out.same (Hs5.out.trans hsX) (by simp)
        have hsb := (Sub.of_row hTX).take (i := k + 1) (by omega)
        obtain ⟨v0, v1, v2, v3, v4, v5, v6, v7, vf⟩ := Nv hvX
        have vl := Af hvX
        have hfin := fun (X8 : World) (hX : Ad [] X X8) (v8 : Value) (hr : Row X8 59 4 v8 ((B7 l l.length).take (k + 1) ++ lm.map CQ).length (AC ((B7 l l.length).take (k + 1) ++ lm.map CQ))) => Fi X8 nb P B (HI.out.same ((Hs5.out.trans hsX).trans hX)) (a.cx k0) _ _ (.slice A1 a.hyps.length c1) _ ((Hnw.out.cxIn Hsm.out k0).same ((Hs3c.out.trans Hsr.out).trans ((Hs5.out.trans hsX).trans hX))) v8 _ hr (by simp [Ck]; omega) ⟨⟨#[46]⟩, ⟨0, 0, 0⟩⟩ (Ol (GR Hh.out _) (by rw [Ck]; exact hk) _)
        rw [Hre.out] at hfin
        unfold OS cxV tkV Asr.cx vdC at hfin
        dsimp only at hfin
        have hwX := (Hw2.out.trans (Hsc.out.trans Hsr.out)).trans (Hs5.out.trans hsX)
        have hxX := hsX.get Hx5.out (by simp)
        obtain ⟨g', off', c'', hv', hb2, hb3, hb4⟩ := hsb.ex
        cases hv'
        have g5 : 0 ≤ (k : Int) + 1 ∧ (k : Int) + 1 ≤ (c7 : Int) := by omega
        have hbl := hsb.len
        have Hbl := Kd hbl
        have Hb4 := Kd hb4
        have Hfin := Kd hfin
        have HwX := Kd hwX
        have HxX := Kd hxX
        have HvX := Kd hvX
        clear hTX hsX hvX hsb hbl hb2 hb3 hb4 hfin hwX hxX t0' t1' t2' t3' hgl5
        go_upto_region 26 with (at_builtin; refine Fa rfl _ _ 54 rfl 59 4 40 _ Tryz.underlying54 Tryz.infoToken' rfl (by decide) (.slice none 0 0) 0 [] rfl (World.ownsRow_nil _ _ _ _) g 0 (k + 1) c7 (AC ((B7 l l.length).take (k + 1))) rfl Hbl.out Hb4.out (NR _) (by omega) (by decide) ?_; go_must (intro v6 X6 hr6 hs6 ho6; rw [Nat.zero_add, List.nil_append] at hr6; obtain ⟨A8, c8, rfl⟩ := hr6.shape; have Hr6 := Kd hr6; have Hs6 : Hid (Ad [] X X6) := Kd hs6; have Ho6 := Kd ho6; clear hr6 hs6 ho6))
        have hcp : k + 1 ≤ c8 := by
         rcases Hr6.out.2 with ⟨h1, h2⟩ | ⟨g2, cap, cur, h1, h2, h3, h4, _⟩
         ·omega
         ·cases h1; exact h4
        have hf6 : ∀ b, (Value.slice A8 (k + 1) c8).ownBlock = some b → X.heap.size ≤ b := fun b hb => by
         rcases Ho6.out with ho | ⟨b', hb', hle⟩
         ·rw [ho] at hb; cases hb
         ·rw [hb'] at hb; cases hb; exact hle
        have Hf6 := Kd hf6
        clear hf6 v0 v1 v2 v3 v4 v5 v6 v7 vf vl
        by_cases hl0 : lm = []
        ·have hj : ∀ X7, Ad [] X6 X7 → Row X7 59 4 (.slice A8 (k + 1) c8) ((B7 l l.length).take (k + 1) ++ lm.map CQ).length (AC ((B7 l l.length).take (k + 1) ++ lm.map CQ)) := fun X7 h7 => Nm hk (by
          have := Hr6.out.same h7 (by simp)
          subst hl0
          simpa [AC] using this)
         have Hj := Kd hj
         have Hl0 := Kd hl0
         have hi9 : (Tryz.prog.info? 59).isSome = true := by kernel_rfl
         obtain ⟨i9, hi9⟩ := Option.isSome_iff_exists.1 hi9
         have Hi9 := Kd hi9
         clear hj hl0 hi9
         go_wp2_with (first
          | (go_at_call 19; go_must (refine (Hrm.out _ (HwX.out.trans Hs6.out)).mono ?_; rintro e7 X7 ⟨v7, rfl, hr7, hf7, hs7, hn7⟩; have hx7 := (Hs6.out.trans hs7).get HxX.out (by simp); clear x0 x1 x2 x3 x4 xf xl; obtain ⟨x0, x1, x2, x3, x4, xf⟩ := Ee hx7; have xl := Af hx7; have Hs7 := Kd hs7; have hv7 := hn7 Hl0.out; subst hv7; clear hr7 hf7 hs7 hn7 hx7))
          | (at_builtin; refine OQ rfl _ _ 54 rfl 59 i9 Tryz.underlying54 Hi9.out A8 (k + 1) c8 rfl hcp rfl ?_)
          | (go_at_call 20; go_must (refine (Hfin.out _ ((Hs6.out.trans Hs7.out)) _ ((Hj.out _ Hs7.out))).mono ?_; rintro e9 W9 ⟨rfl, hs9⟩; have hs09 := ((Hs6.out.trans Hs7.out)).trans hs9; have hv9 := hs09.get HvX.out (by simp); obtain ⟨u0, u1, u2, u3, u4, u5, u6, u7, uf⟩ := Nv hv9; have ul := Af hv9; have Hs9 := Kd hs09; clear hs9 hs09 hv9))
          )
         go_ret
         exact ⟨rfl, (HwX.out.trans Hs9.out).trans (Ad.alloc [] _ _)⟩
        ·have Hl0 := Kd hl0
         clear hl0
         go_wp2_with (first
          | (go_at_call 19; go_must (refine (Hrm.out _ (HwX.out.trans Hs6.out)).mono ?_; rintro e7 X7 ⟨v7, rfl, hr7, hf7, hs7, hn7⟩; have hx7 := (Hs6.out.trans hs7).get HxX.out (by simp); clear x0 x1 x2 x3 x4 xf xl; obtain ⟨x0, x1, x2, x3, x4, xf⟩ := Ee hx7; have xl := Af hx7; have Hs7 := Kd hs7; obtain ⟨g9, c9, hv7⟩ := Qc hr7 (fun h0 => Hl0.out (List.eq_nil_of_length_eq_zero h0)); subst hv7; have Hr9 := Kd hr7; clear hr7 hf7 hs7 hn7 hx7))
          | (at_builtin; refine Dr rfl _ _ 54 rfl 59 4 40 _ Tryz.underlying54 Tryz.infoToken' rfl (by decide) (.slice A8 (k + 1) c8) (k + 1) _ rfl (Hr6.out.same Hs7.out (by simp)) g9 lm.length c9 (AC (lm.map CQ)) rfl Hr9.out (NR _) (by omega) (by decide) ?_; go_must (intro v8 X8 hr8 hs8 ho8; obtain ⟨A10, c10, rfl⟩ := hr8.shape; have h8 : Ad [] X X8 := (Hs6.out.trans Hs7.out).then hs8 fun x hx => .inr (Hf6.out x (Option.mem_toList.1 hx)); have hx8 := h8.get HxX.out (by simp); clear x0 x1 x2 x3 x4 xf xl; obtain ⟨x0, x1, x2, x3, x4, xf⟩ := Ee hx8; have xl := Af hx8; have Hr8 := Kd hr8; have Hs8 := Kd h8; clear hr8 hs8 ho8 h8 hx8))
          | (go_at_call 20; go_must (refine (Hfin.out _ (Hs8.out) _ ((Nm hk Hr8.out))).mono ?_; rintro e9 W9 ⟨rfl, hs9⟩; have hs09 := (Hs8.out).trans hs9; have hv9 := hs09.get HvX.out (by simp); obtain ⟨u0, u1, u2, u3, u4, u5, u6, u7, uf⟩ := Nv hv9; have ul := Af hv9; have Hs9 := Kd hs09; clear hs9 hs09 hv9))
          )
         go_ret
         exact ⟨rfl, (HwX.out.trans Hs9.out).trans (Ad.alloc [] _ _)⟩
       ·obtain ⟨dc, dt, dn, dp⟩ := d
        dsimp only at hat
        subst hat
        unfold vdC dot at htx
        dsimp only at htx n0
        have Htx' := Kd htx
        clear htx Htx
        go_wp2_with (go_at_call 20; go_must (refine Htx'.out.mono ?_; rintro e5 W5 ⟨rfl, hs5⟩; have Hs5 := Kd hs5; clear hs5))
        go_ret
        exact ⟨rfl, ((Hw2.out.trans (Hsc.out.trans Hsr.out)).trans Hs5.out).trans (Ad.alloc [] _ _)⟩
   ·have hn' : n < 0 ∨ (B.ld.asserts.length : Int) ≤ n := by omega
    have hcx := Mr W2 nb P B HA2.out.at_ n hn'
    clear hn hn' hh
    go_wp2_with (go_at_call 18; go_must (refine hcx.mono ?_; rintro e3 W3 ⟨rfl, hs3⟩; have Hs3 := Kd hs3; clear hs3))
    go_ret
    exact ⟨rfl, (Hw2.out.trans Hs3.out).trans (Ad.alloc [] _ _)⟩
end Go.Proofs.YtbfbgfpghkijdaaGreatDoor
namespace Go.Proofs.YtbfbgfpghkijdaaGreatDoor
open Go.ChangeShapes Go.WideShapes Go.ChangeAt Go.RowKit
theorem RB : ownKnob Tryz.prog.godebug = none := by kernel_rfl
theorem QI : Tryz.prog.globalNamed "lemma/scan.blanks" = some 1 := by kernel_rfl
theorem QH : (Tryz.prog.globals[1]?).map (·.type) = some 298 := by kernel_rfl
theorem Q0 : Tryz.prog.underlying 298 = some (.array 33 4) := by kernel_rfl
theorem R4 : Tryz.prog.cellsOf 4 = 1 := by kernel_rfl
theorem QB : (Rows.laid_lemma_scan_blanks : DataW Unit) = .agg ((List.range 33).map fun c => .lit (.bool (Eh c))) := by kernel_rfl
theorem I7 {W : World} (h : Lib.VarReads Tryz.prog W "lemma/scan.blanks" Rows.laid_lemma_scan_blanks) : BF W := by
 obtain ⟨g, t, cs, fuel, p, hg, ht, hv, hd⟩ := h
 have hv0 := hv
 obtain rfl := Option.some.inj (QI.symm.trans hg)
 obtain rfl := Option.some.inj (QH.symm.trans ht)
 rw [QB] at hd
 obtain ⟨xs, m, rfl, hx, hl, hxl, hel⟩ := DataW.trod_array Q0 hd
 have hxs : xs.map (·.1) = (List.range 33).map fun c => (.lit (.bool (Eh c)) : DataW Unit) := by
  have := congrArg Prod.fst hx
  simpa using this.symm
 intro c hc
 have h1 := hel c hc
 rw [R4, Nat.mul_one] at h1
 have hcl : c < xs.length := by omega
 rw [List.getElem?_eq_getElem hcl] at h1
 obtain ⟨b, e1, e2⟩ := DataW.trod_bool Tryz.underlying4 h1
 have e3 : (xs.map (·.1))[c]? = some (.lit (.bool (Eh c))) := by rw [hxs]; simp [hc]
 rw [List.getElem?_map, List.getElem?_eq_getElem hcl, Option.map_some, e2] at e3
 have e4 : b = Eh c := by simpa using e3
 subst e4
 have e5 : cs.toList[c]? = some (.bool (Eh c)) := by
  have := congrArg (·[0]?) e1
  simpa [List.getElem?_take, List.getElem?_drop] using this
 have := World.var?_cell hg hv0 c
 rw [this]
 simpa using e5
theorem LM {W : World} (h : W.ShapedOpen Tryz.prog) : Dj W :=
 cell_of_shapedOpen_int (zero := #[.int .i64 0]) (t := 3) h (of_decide_eq_true (by kernel_rfl)) (by kernel_rfl) rfl (by kernel_rfl) (by kernel_rfl) Tryz.underlying3
end Go.Proofs.YtbfbgfpghkijdaaGreatDoor
