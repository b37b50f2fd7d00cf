/- lemmalaw18.PruneOrder: of every text and any two numbers: two assertions neither of which goes with the other are taken out in either order, and the texts are the same byte for byte. Conditions: the listed package-level variables hold what the text of the program lays in them. -/
import Derived.Test.YtdhkmfpfbjcdiaaGreatDoorYai
import Derived.Test.YtdhkmfpfbjcdiaaGreatDoorYbt
import Derived.Test.YtdhkmfpfbjcdiaaGreatDoorYbx
import Derived.Test.YtdhkmfpfbjcdiaaGreatDoorRows
import Derived.WalkKit
import Derived.ProofKit
import Derived.OpenShut
import Derived.Deep.DeepHandedRow
import Derived.Lib.LaidU8
import Derived.Lay
import Derived.Shelf.Vars
import Derived.SizedLaws
import Derived.Test.YtdhkmfpfbjcdiaaGreatDoorCards
import Derived.Test.YtdhkmfpfbjcdiaaGreatDoorTie
set_option maxRecDepth 100000
set_option linter.unusedVariables false
set_option linter.unusedSimpArgs false
set_option maxHeartbeats 32000000
namespace Go.Proofs.YtdhkmfpfbjcdiaaGreatDoor
open Go.RowKit
theorem load_size {t : ByteArray} {B : Bs} (h : loadOf t = .ok B) : t.size ≤ 65536 := by
 obtain ⟨T, R, h1, -⟩ := load_parts h
 obtain ⟨ws, tail, -, hf, hl, -⟩ := scan_words h1
 rw [← hf, ba_size] at hl
 exact hl
theorem Find_calls (w : World) (nb : Nat) (P : BP) (B : Bs) (h : BsAt w nb P B) (l : ByteArray) (n : Nat) (hl : aget l B.ld.finds = some n) : Calls Tryz.prog 46 #[.pointer (some ⟨nb, 0, none⟩), .string l] w fun e w' => e = .returned (.tuple #[.int .i64 n, .bool true]) ∧ w' = w := by
 have n5 := blk_c (i := 5) (v := .map (some P.mf)) h.blk
 have hlk := h.finds.run_lookup Tryz.underlying80 Tryz.underlying9 (zero3 w) l true
 rw [aget_natMap, if_pos rfl, hl] at hlk
 dsimp only [Option.map, Option.getD, Option.isSome] at hlk
 clear h hl
 go_enter Tryz.func46, Tryz.ntmps46
 go_wp2
 go_ret2
 exact ⟨rfl, rfl⟩
def HolI (l : List Int) (n : Int) (u : Value) : Prop := ∃ k : Nat, k ≤ l.length ∧ u = .int .i64 k ∧ n ∉ l.take k
theorem holds_calls (w : World) (va : Value) (l : List Int) (ha : Row w 3 1 va l.length (intCells l)) (hl : l.length ≤ 1000000) (n : Int) :
  Calls Tryz.prog 17 #[va, .int .i64 n] w fun e w' => e = .returned (.bool (decide (n ∈ l))) ∧ w' = w := by
 obtain ⟨A1, c1, rfl⟩ := ha.shape
 have Ha := Kd ha
 clear ha
 go_enter Tryz.func17, Tryz.ntmps17
 go_wp2
 have h0 : HolI l n (.int .i64 0) := ⟨0, Nat.zero_le _, rfl, by simp⟩
 have H0 := Kd h0
 clear h0
 go_loop [5] (fun u => HolI l n u) (fun u => l.length - (intOf u).toNat)
 case atStart => exact H0.out
 case round =>
  obtain ⟨k, hk, rfl, hno⟩ := hrel
  by_cases hlt : k < l.length
  ·obtain ⟨g1, rfl, x1, x2⟩ := int_elem Ha.out hlt
   have hgl1 := World.block_lt_of_cell? _ _ x1
   have e1 : l.take (k + 1) = l.take k ++ [l[k]] := List.take_succ_eq_append_getElem hlt
   by_cases he : l[k] = n
   ·have hd : decide (n ∈ l) = true := decide_eq_true (he ▸ List.getElem_mem hlt)
    have hb : (l[k] == n) = true := by simpa using he
    have Hd := Kd hd
    rw [he] at x1
    clear e1 he hd hb hno H0
    go_wp2
    go_ret
    exact ⟨by rw [Hd.out]; rfl, rfl⟩
   ·have hno2 : n ∉ l.take (k + 1) := by
     rw [e1, List.mem_append, List.mem_singleton]
     rintro (h | h)
     ·exact hno h
     ·exact he h.symm
    have hb : (l[k] == n) = false := by simpa using he
    have Hno := Kd hno2
    generalize l[k] = a at x1 hb
    clear e1 he hno hno2 H0
    go_wp2
    go_round
    case rel => exact ⟨k + 1, hlt, by go_num, Hno.out⟩
    case measure => simp [intOf]; omega
  ·have hkk : k = l.length := by omega
   subst hkk
   rw [List.take_length] at hno
   have hd : decide (n ∈ l) = false := decide_eq_false hno
   have Hd := Kd hd
   clear hno hd H0
   go_wp2
   go_ret
   exact ⟨by rw [Hd.out]; rfl, rfl⟩
theorem without_calls (w : World) (nb : Nat) (P : BP) (B : Bs) (h : BsAt w nb P B) (hb : Blanks w) (hl : LibCell w) (t : ByteArray) (hB : loadOf t = .ok B) (l : ByteArray) (n : Nat) (hf : aget l B.ld.finds = some n) (hn : n < B.ld.asserts.length) (C : Bs) (hC : loadOf (withoutOf B n) = .ok C) :
  Calls Tryz.prog 19 #[.pointer (some ⟨nb, 0, none⟩), .string l] w fun e w' => ∃ nb' P', e = .returned (.pointer (some ⟨nb', 0, none⟩)) ∧ BsAt w' nb' P' C ∧ Same [] w w' := by
 have hfd := Find_calls w nb P B h l n hf
 have hwt := Without_calls w nb P B h (load_nice hB).1 n hn (by rw [load_text hB]; have := load_size hB; omega) (ord_falls hB hn)
 have hld := fun (W : World) (hW : Same [] w W) => Load_calls (withoutOf B n) W (by have := load_size hC; omega) (hb.same hW) (hl.same hW)
 unfold LoadR at hld
 rw [hC] at hld
 clear h hb hl hB hf hn hC
 go_enter Tryz.func19, Tryz.ntmps19
 go_wp2_with (first
  | (go_at_call 46; go_must (refine hfd.mono ?_; rintro e1 W1 ⟨rfl, hw1⟩; have hw2 := hw1.symm; subst hw2; clear hw1))
  | (go_at_call 12; go_must (refine hwt.mono ?_; rintro e3 W3 ⟨rfl, hs3⟩; have Hs3 := Kd hs3; clear hs3))
  | (go_at_call 15; go_must (refine (num_calls W3 0 (by decide)).mono ?_; rintro e4 W4 ⟨rfl, hw4⟩; have hw5 := hw4.symm; subst hw5; clear hw4))
  | (go_at_call 8; go_must (refine (hld _ Hs3.out).mono ?_; rintro e5 W5 ⟨hs5, nb5, P5, rfl, hA5⟩; have Hs5 := Kd hs5; have HA5 := Kd hA5; clear hs5 hA5)))
 go_ret
 exact ⟨nb5, P5, rfl, HA5.out, Hs3.out.trans Hs5.out⟩
theorem asO_label {w : World} {b : Nat} {a : Asr} {fh fp fg sh sp pr : Value} (h : w.heap[b]? = some (asO a fh fp fg sh sp pr)) : w.cell? ⟨b, 1, none⟩ = some (.string a.label) ∧ b < w.heap.size := ⟨(asO_cells h).2.1, blk_lt h⟩
theorem tmod_nat (n : Int) (c : Nat) (hc : 0 < c) : -(c : Int) < n.tmod c ∧ n.tmod c < c ∧ ∃ k : Nat, k < c ∧ (if n.tmod c < 0 then -n.tmod c else n.tmod c) = (k : Int) := by
 have h1 := Int.lt_tmod_of_pos n (show (0 : Int) < c by omega)
 have h2 := Int.tmod_lt_of_pos n (show (0 : Int) < c by omega)
 refine ⟨by omega, h2, ?_⟩
 split
 ·exact ⟨(-n.tmod c).toNat, by omega, by omega⟩
 ·exact ⟨(n.tmod c).toNat, by omega, by omega⟩
theorem PruneOrder_calls (w : World) (t : ByteArray) (n m : Int) (hn0 : -9223372036854775808 ≤ n) (hn1 : n ≤ 9223372036854775807) (hm0 : -9223372036854775808 ≤ m) (hm1 : m ≤ 9223372036854775807) (ht : t.size < 4611686018427387904) (hb : Blanks w) (hl : LibCell w) : Calls Tryz.prog 5 #[.string t, .int .i64 n, .int .i64 m] w fun e w' => e = .returned (.bool true) ∧ Same [] w w' := by
 have hal := alive_calls w hb hl
 have hld := fun (W : World) (hW : Same [] w W) => Load_calls t W ht (hb.same hW) (hl.same hW)
 unfold LoadR at hld
 cases hB : loadOf t with
 | error f =>
  rw [hB] at hld
  go_enter Tryz.func5, Tryz.ntmps5
  go_wp2_with (first
   | (go_at_call 6; go_must (refine hal.mono ?_; rintro e1 W1 ⟨rfl, hs1⟩; have Hs1 := Kd hs1; clear hs1))
   | (go_at_call 8; go_must (refine (hld _ Hs1.out).mono ?_; rintro e2 W2 ⟨hs2, v2, rfl, -⟩; have Hs2 := Kd hs2; clear hs2)))
  go_ret
  exact ⟨rfl, Hs1.out.trans Hs2.out⟩
 | ok B =>
  rw [hB] at hld
  have hN := (load_nice hB).1
  have hct := fun (W : World) nb P (hA : BsAt W nb P B) => Count_calls W nb P B hA
  have hN1 := hN.n
  by_cases hz : B.ld.asserts.length = 0
  ·have hz' : (B.ld.asserts.length : Int) = 0 := by omega
   rw [hz'] at hct
   clear hz hz'
   go_enter Tryz.func5, Tryz.ntmps5
   go_wp2_with (first
    | (go_at_call 6; go_must (refine hal.mono ?_; rintro e1 W1 ⟨rfl, hs1⟩; have Hs1 := Kd hs1; clear hs1))
    | (go_at_call 8; go_must (refine (hld _ Hs1.out).mono ?_; rintro e2 W2 ⟨hs2, nb, P, rfl, hA⟩; have Hs2 := Kd hs2; have HA := Kd hA; clear hs2 hA))
    | (go_at_call 16; go_must (refine (hct _ nb P HA.out).mono ?_; rintro e3 W3 ⟨rfl, hw3⟩; have hw4 := hw3.symm; subst hw4; clear hw3)))
   go_ret
   exact ⟨rfl, Hs1.out.trans Hs2.out⟩
  ·obtain ⟨c, hc⟩ : ∃ c, B.ld.asserts.length = c := ⟨_, rfl⟩
   simp only [hc] at hct
   have hcz : c ≠ 0 := by omega
   have hcp : 0 < c := by omega
   have hz1 : ((c : Int) == 0) = false := by simpa using hcz
   have hz2 : ((c : Int) = 0) = False := by simpa using hcz
   obtain ⟨hx1, hx2, i, hiL, hie⟩ := tmod_nat n c hcp
   obtain ⟨hy1, hy2, k, hkL, hke⟩ := tmod_nat m c hcp
   have hi : i < B.ld.asserts.length := by omega
   have hk : k < B.ld.asserts.length := by omega
   have hat := fun (W : World) nb P (hA : BsAt W nb P B) (j : Nat) (hj : j < B.ld.asserts.length) => At_good W nb P B hA j hj (hN.small _ (List.getElem_mem hj)) hN.n
   have hf1 := fun (W : World) nb P (hA : BsAt W nb P B) => Falls_calls W nb P B hA hN i hi
   have hf2 := fun (W : World) nb P (hA : BsAt W nb P B) => Falls_calls W nb P B hA hN k hk
   unfold FallsR at hf1 hf2
   have hs1' := decide_eq_true (fallsOf_self B.ld.asserts i hi)
   have hs2' := decide_eq_true (fallsOf_self B.ld.asserts k hk)
   have hl1 := fallsOf_len B.ld.asserts i
   have hl2 := fallsOf_len B.ld.asserts k
   have hb' := Kd hb
   have hl' := Kd hl
   have HBl := Kd hB
   have hord := fun h1 h2 => prune_order hB hi hk h1 h2
   have hn4 : B.ld.asserts.length ≤ 1024 := hN.n
   clear hN hb hl hB ht hz hcp
   go_enter Tryz.func5, Tryz.ntmps5
   go_wp2_with (first
    | (go_at_call 6; go_must (refine hal.mono ?_; rintro e1 W1 ⟨rfl, hs1⟩; have Hs1 := Kd hs1; clear hs1))
    | (go_at_call 8; go_must (refine (hld _ Hs1.out).mono ?_; rintro e2 W2 ⟨hs2, nb, P, rfl, hA⟩; have Hs2 := Kd hs2; have HA := Kd hA; clear hs2 hA))
    | (go_at_call 16; go_must (refine (hct _ nb P HA.out).mono ?_; rintro e3 W3 ⟨rfl, hw3⟩; have hw4 := hw3.symm; subst hw4; clear hw3)))
   all_goals
    first
     | rw [if_pos (by assumption)] at hie
     | rw [if_neg (by first | assumption | omega)] at hie
    first
     | rw [if_pos (by assumption)] at hke
     | rw [if_neg (by first | assumption | omega)] at hke
    simp only [hie, hke]
    obtain ⟨lx, hlx⟩ : ∃ l, fallsOf B.ld.asserts i = l := ⟨_, rfl⟩
    obtain ⟨ly, hly⟩ : ∃ l, fallsOf B.ld.asserts k = l := ⟨_, rfl⟩
    rw [hlx] at hs1' hl1 hord
    rw [hly] at hs2' hl2 hord
    simp only [hlx] at hf1
    simp only [hly] at hf2
    have hlx1 : lx.length ≤ 1000000 := by omega
    have hly1 : ly.length ≤ 1000000 := by omega
    have ho1 := fun (W : World) (va : Value) (ha : Row W 3 1 va lx.length (intCells lx)) (n : Int) => holds_calls W va lx ha hlx1 n
    have ho2 := fun (W : World) (va : Value) (ha : Row W 3 1 va ly.length (intCells ly)) (n : Int) => holds_calls W va ly ha hly1 n
    have Hord := Kd hord
    clear hlx hly hct hld hal hx1 hx2 hy1 hy2 hz1 hz2 hn0 hn1 hm0 hm1 hord hiL hkL
    go_wp2_with (first
     | (go_at_call 10; go_must (first | (with_reducible refine (hf2 _ nb P (HA.out.same Hsx.out)).mono ?_; rintro e6 W6 ⟨vy, rfl, hry, hfy, hsy⟩; obtain ⟨Ay, cy, rfl⟩ := hry.shape; have Hry := Kd hry; have Hsy := Kd hsy; have Hrx6 := Kd (Hrx.out.same hsy (by simp)); clear hry hfy hsy) | (refine (hf1 _ nb P HA.out).mono ?_; rintro e4 W4 ⟨vx, rfl, hrx, hfx, hsx⟩; obtain ⟨Ax, cx, rfl⟩ := hrx.shape; have Hrx := Kd hrx; have Hsx := Kd hsx; clear hrx hfx hsx))))
    have HA6 : Hid (BsAt W6 nb P B) := Kd (HA.out.same (Hsx.out.trans Hsy.out))
    have HS6 : Hid (Same [] w W6) := Kd (((Hs1.out.trans Hs2.out).trans Hsx.out).trans Hsy.out)
    clear hf1 hf2 HA Hrx
    by_cases hxk : (k : Int) ∈ lx
    ·have d1 : decide ((k : Int) ∈ lx) = true := decide_eq_true hxk
     clear hxk
     go_wp2_with (go_at_call 17; go_must (first | (with_reducible refine (ho1 _ _ Hrx6.out _).mono ?_; rintro e7 W7 ⟨rfl, hw7⟩; have hw8 := hw7.symm; subst hw8; clear hw7) | (with_reducible refine (ho2 _ _ Hry.out _).mono ?_; rintro e7 W7 ⟨rfl, hw7⟩; have hw8 := hw7.symm; subst hw8; clear hw7)))
     go_ret
     exact ⟨rfl, HS6.out⟩
    ·have d1 : decide ((k : Int) ∈ lx) = false := decide_eq_false hxk
     by_cases hyi : (i : Int) ∈ ly
     ·have d2 : decide ((i : Int) ∈ ly) = true := decide_eq_true hyi
      clear hxk hyi
      go_wp2_with (go_at_call 17; go_must (first | (with_reducible refine (ho1 _ _ Hrx6.out _).mono ?_; rintro e7 W7 ⟨rfl, hw7⟩; have hw8 := hw7.symm; subst hw8; clear hw7) | (with_reducible refine (ho2 _ _ Hry.out _).mono ?_; rintro e7 W7 ⟨rfl, hw7⟩; have hw8 := hw7.symm; subst hw8; clear hw7)))
      go_ret
      exact ⟨rfl, HS6.out⟩
     ·have d2 : decide ((i : Int) ∈ ly) = false := decide_eq_false hyi
      obtain ⟨C, D, c1, cd1, m', n', hm', hn', c3, d3, heq, U, hU⟩ := Hord.out hxk hyi
      obtain ⟨a, ha⟩ : ∃ a, B.ld.asserts[i] = a := ⟨_, rfl⟩
      obtain ⟨aa, haa⟩ : ∃ a, B.ld.asserts[k] = a := ⟨_, rfl⟩
      have hfi1 : aget a.label B.ld.finds = some i := ((load_find HBl.out).find _ i).2 ⟨hi, by rw [ha]⟩
      have hfi2 : aget aa.label B.ld.finds = some k := ((load_find HBl.out).find _ k).2 ⟨hk, by rw [haa]⟩
      rw [haa] at c3
      rw [ha] at d3
      have hw1 := fun (W : World) (hW : Same [] W6 W) => without_calls W nb P B (HA6.out.same hW) (hb'.out.same (HS6.out.trans hW)) (hl'.out.same (HS6.out.trans hW)) t HBl.out a.label i hfi1 hi C c1
      have hw2 := fun (W : World) (hW : Same [] W6 W) => without_calls W nb P B (HA6.out.same hW) (hb'.out.same (HS6.out.trans hW)) (hl'.out.same (HS6.out.trans hW)) t HBl.out aa.label k hfi2 hk D cd1
      have hw3 := fun (W : World) (hW : Same [] W6 W) nbc PC (hA : BsAt W nbc PC C) => without_calls W nbc PC C hA (hb'.out.same (HS6.out.trans hW)) (hl'.out.same (HS6.out.trans hW)) _ c1 aa.label m' c3 hm' U hU
      have hw4 := fun (W : World) (hW : Same [] W6 W) nbd PD (hA : BsAt W nbd PD D) => without_calls W nbd PD D hA (hb'.out.same (HS6.out.trans hW)) (hl'.out.same (HS6.out.trans hW)) _ cd1 a.label n' d3 hn' U (heq ▸ hU)
      have htx := fun (W : World) nbu PU (hA : BsAt W nbu PU U) => Text_calls W nbu PU U hA
      have hat1 := fun (W : World) (hW : Same [] W6 W) => hat W nb P (HA6.out.same hW) i hi
      have hat2 := fun (W : World) (hW : Same [] W6 W) => hat W nb P (HA6.out.same hW) k hk
      simp only [ha] at hat1
      simp only [haa] at hat2
      clear hxk hyi ha haa hfi1 hfi2 c1 cd1 hm' hn' c3 d3 heq hU hat Hord
      go_wp2_with (first
       | (go_at_call 17; go_must (first | (with_reducible refine (ho1 _ _ Hrx6.out _).mono ?_; rintro e7 W7 ⟨rfl, hw7⟩; have hw8 := hw7.symm; subst hw8; clear hw7) | (with_reducible refine (ho2 _ _ Hry.out _).mono ?_; rintro e7 W7 ⟨rfl, hw7⟩; have hw8 := hw7.symm; subst hw8; clear hw7)))
       | (go_at_call 18; (with_reducible refine (hat1 W6 (Same.refl _ _)).mono ?_); go_must (skip; rintro ex W7 ⟨⟨fh, fp, fg, sh, sp, pr, fes, ses⟩, rfl, hnw, hsax⟩; obtain ⟨A1x, c1x, A2x, c2x, A3x, c3x, A4x, c4x, A5x, c5x, A6x, c6x, q1, q2, q3, q4, q5, q6⟩ := hnw.inn.shapes; dsimp only at q1 q2 q3 q4 q5 q6; subst q1 q2 q3 q4 q5 q6; have Hsax := Kd hsax;  unfold asV; clear hsax hnw))
       | (refine wp_stRow rfl 56 _ _ rfl W7.heap.size #[.int .i64 a.number, .string a.label, .bool a.isThm, .slice A1x a.hyps.length c1x, .slice A2x a.pairs.length c2x, .slice A3x a.goal.length c3x, .slice A4x a.shyps.length c4x, .slice A5x a.spairs.length c5x, .slice A6x a.proof.length c6x, .string a.at_.text, .int .i64 a.at_.at_.off, .int .i64 a.at_.at_.line, .int .i64 a.at_.at_.col, .string a.end_.text, .int .i64 a.end_.at_.off, .int .i64 a.end_.at_.line, .int .i64 a.end_.at_.col] (by go_simp) (by go_simp) 56 #[.int .i64 0, .string ⟨#[]⟩, .bool false, .slice none 0 0, .slice none 0 0, .slice none 0 0, .slice none 0 0, .slice none 0 0, .slice none 0 0, .string ⟨#[]⟩, .int .i64 0, .int .i64 0, .int .i64 0, .string ⟨#[]⟩, .int .i64 0, .int .i64 0, .int .i64 0] (blk_new W7 (.cells #[.int .i64 0, .string ⟨#[]⟩, .bool false, .slice none 0 0, .slice none 0 0, .slice none 0 0, .slice none 0 0, .slice none 0 0, .slice none 0 0, .string ⟨#[]⟩, .int .i64 0, .int .i64 0, .int .i64 0, .string ⟨#[]⟩, .int .i64 0, .int .i64 0, .int .i64 0] 56)) (by kernel_rfl) rfl (by simp [Value.oneCell']) ?_; intro W8 hBx hsbx; have Hsbx : Hid (Same [] W7 W8) := Kd ((Same.alloc [] W7 _).then hsbx fun x hx => .inr (by simp at hx; omega)); have HBx : Hid ((W8).heap[(W7).heap.size]? = some (asO a (.slice A1x a.hyps.length c1x) (.slice A2x a.pairs.length c2x) (.slice A3x a.goal.length c3x) (.slice A4x a.shyps.length c4x) (.slice A5x a.spairs.length c5x) (.slice A6x a.proof.length c6x))) := Kd hBx; clear hBx hsbx)
       | (go_at_call 18; (with_reducible refine (hat2 W8 (Hsax.out.trans Hsbx.out)).mono ?_); go_must (skip; rintro ey W9 ⟨⟨fh, fp, fg, sh, sp, pr, fes, ses⟩, rfl, hnw, hsay⟩; obtain ⟨A1y, c1y, A2y, c2y, A3y, c3y, A4y, c4y, A5y, c5y, A6y, c6y, q1, q2, q3, q4, q5, q6⟩ := hnw.inn.shapes; dsimp only at q1 q2 q3 q4 q5 q6; subst q1 q2 q3 q4 q5 q6; have Hsay := Kd hsay;  unfold asV; clear hsay hnw))
       | (
        (refine wp_stRow rfl 56 _ _ rfl W9.heap.size #[.int .i64 aa.number, .string aa.label, .bool aa.isThm, .slice A1y aa.hyps.length c1y, .slice A2y aa.pairs.length c2y, .slice A3y aa.goal.length c3y, .slice A4y aa.shyps.length c4y, .slice A5y aa.spairs.length c5y, .slice A6y aa.proof.length c6y, .string aa.at_.text, .int .i64 aa.at_.at_.off, .int .i64 aa.at_.at_.line, .int .i64 aa.at_.at_.col, .string aa.end_.text, .int .i64 aa.end_.at_.off, .int .i64 aa.end_.at_.line, .int .i64 aa.end_.at_.col] (by go_simp) (by go_simp) 56 #[.int .i64 0, .string ⟨#[]⟩, .bool false, .slice none 0 0, .slice none 0 0, .slice none 0 0, .slice none 0 0, .slice none 0 0, .slice none 0 0, .string ⟨#[]⟩, .int .i64 0, .int .i64 0, .int .i64 0, .string ⟨#[]⟩, .int .i64 0, .int .i64 0, .int .i64 0] (blk_new W9 (.cells #[.int .i64 0, .string ⟨#[]⟩, .bool false, .slice none 0 0, .slice none 0 0, .slice none 0 0, .slice none 0 0, .slice none 0 0, .slice none 0 0, .string ⟨#[]⟩, .int .i64 0, .int .i64 0, .int .i64 0, .string ⟨#[]⟩, .int .i64 0, .int .i64 0, .int .i64 0] 56)) (by kernel_rfl) rfl (by simp [Value.oneCell']) ?_; intro W10 hBy hsby; have Hsby : Hid (Same [] W9 W10) := Kd ((Same.alloc [] W9 _).then hsby fun x hx => .inr (by simp at hx; omega)); have HBy : Hid ((W10).heap[(W9).heap.size]? = some (asO aa (.slice A1y aa.hyps.length c1y) (.slice A2y aa.pairs.length c2y) (.slice A3y aa.goal.length c3y) (.slice A4y aa.shyps.length c4y) (.slice A5y aa.spairs.length c5y) (.slice A6y aa.proof.length c6y))) := Kd hBy; clear hBy hsby)
        ; have HX10 := Kd ((Hsay.out.trans Hsby.out).get HBx.out (by simp)); have HS10 := Kd ((Hsax.out.trans Hsbx.out).trans (Hsay.out.trans Hsby.out)); obtain ⟨fx1, fx2⟩ := asO_label HX10.out; obtain ⟨fy1, fy2⟩ := asO_label HBy.out)
       | (go_at_call 19; (with_reducible refine (hw1 W10 HS10.out).mono ?_); go_must (skip; rintro e11 W11 ⟨nbc, PC, rfl, hAC, hs11⟩; have Hs11 := Kd hs11; have HAC := Kd hAC; obtain ⟨gy1, gy2⟩ := asO_label (hs11.get HBy.out (by simp)); clear hs11 hAC))
       | (go_at_call 19; (with_reducible refine (hw2 W11 (HS10.out.trans Hs11.out)).mono ?_); go_must (skip; rintro e12 W12 ⟨nbd, PD, rfl, hAD, hs12⟩; have Hs12 := Kd hs12; have HAD := Kd hAD; obtain ⟨iy1, iy2⟩ := asO_label ((Hs11.out.trans hs12).get HBy.out (by simp)); clear hs12 hAD))
       | (go_at_call 19; (with_reducible refine (hw3 W12 ((HS10.out.trans Hs11.out).trans Hs12.out) nbc PC (HAC.out.same Hs12.out)).mono ?_); go_must (skip; rintro e13 W13 ⟨nbu, PU, rfl, hAU, hs13⟩; have Hs13 := Kd hs13; have HAU := Kd hAU; obtain ⟨jx1, jx2⟩ := asO_label (((Hs11.out.trans Hs12.out).trans hs13).get HX10.out (by simp)); clear hs13 hAU))
       | (go_at_call 19; (with_reducible refine (hw4 W13 (((HS10.out.trans Hs11.out).trans Hs12.out).trans Hs13.out) nbd PD (HAD.out.same Hs13.out)).mono ?_); go_must (skip; rintro e14 W14 ⟨nbw, PW, rfl, hAW, hs14⟩; have Hs14 := Kd hs14; have HAW := Kd hAW; clear hs14 hAW))
       | (go_at_call 20; (with_reducible refine (htx W14 nbu PU (HAU.out.same Hs14.out)).mono ?_); go_must (skip; rintro e15 W15 ⟨rfl, hw15⟩; have hw16 := hw15.symm; subst hw16; clear hw15))
       | (go_at_call 20; (with_reducible refine (htx W14 nbw PW HAW.out).mono ?_); go_must (skip; rintro e15 W15 ⟨rfl, hw15⟩; have hw16 := hw15.symm; subst hw16; clear hw15))
       )
      go_ret
      exact ⟨by simp, ((((HS6.out.trans HS10.out).trans Hs11.out).trans Hs12.out).trans Hs13.out).trans Hs14.out⟩
end Go.Proofs.YtdhkmfpfbjcdiaaGreatDoor
namespace Go.Proofs.YtdhkmfpfbjcdiaaGreatDoor
open Go.ChangeShapes Go.WideShapes Go.ChangeAt Go.RowKit
theorem rowOwn : ownKnob Tryz.prog.godebug = none := by kernel_rfl
theorem gBlanks : Tryz.prog.globalNamed "lemma/scan.blanks" = some 1 := by kernel_rfl
theorem tBlanks : (Tryz.prog.globals[1]?).map (·.type) = some 256 := by kernel_rfl
theorem uBlanks : Tryz.prog.underlying 256 = some (.array 33 4) := by kernel_rfl
theorem cBool : Tryz.prog.cellsOf 4 = 1 := by kernel_rfl
theorem dBlanks : (Rows.laid_lemma_scan_blanks : DataW Unit) = .agg ((List.range 33).map fun c => .lit (.bool (blankB c))) := by kernel_rfl
theorem blanks_of_reads {W : World} (h : Lib.VarReads Tryz.prog W "lemma/scan.blanks" Rows.laid_lemma_scan_blanks) : Blanks W := by
 obtain ⟨g, t, cs, fuel, p, hg, ht, hv, hd⟩ := h
 have hv0 := hv
 obtain rfl := Option.some.inj (gBlanks.symm.trans hg)
 obtain rfl := Option.some.inj (tBlanks.symm.trans ht)
 rw [dBlanks] at hd
 obtain ⟨xs, m, rfl, hx, hl, hxl, hel⟩ := DataW.trod_array uBlanks hd
 have hxs : xs.map (·.1) = (List.range 33).map fun c => (.lit (.bool (blankB c)) : DataW Unit) := by
  have := congrArg Prod.fst hx
  simpa using this.symm
 intro c hc
 have h1 := hel c hc
 rw [cBool, Nat.mul_one] at h1
 have hcl : c < xs.length := by omega
 rw [List.getElem?_eq_getElem hcl] at h1
 obtain ⟨b, e1, e2⟩ := DataW.trod_bool Tryz.underlying4 h1
 have e3 : (xs.map (·.1))[c]? = some (.lit (.bool (blankB c))) := by rw [hxs]; simp [hc]
 rw [List.getElem?_map, List.getElem?_eq_getElem hcl, Option.map_some, e2] at e3
 have e4 : b = blankB c := by simpa using e3
 subst e4
 have e5 : cs.toList[c]? = some (.bool (blankB c)) := by
  have := congrArg (·[0]?) e1
  simpa [List.getElem?_take, List.getElem?_drop] using this
 have := World.var?_cell hg hv0 c
 rw [this]
 simpa using e5
theorem lib_of_shape {W : World} (h : W.ShapedOpen Tryz.prog) : LibCell W :=
 cell_of_shapedOpen_int (zero := #[.int .i64 0]) (t := 3) h (of_decide_eq_true (by kernel_rfl)) (by kernel_rfl) rfl (by kernel_rfl) (by kernel_rfl) Tryz.underlying3
end Go.Proofs.YtdhkmfpfbjcdiaaGreatDoor
namespace Go.Proofs.YtdhkmfpfbjcdiaaGreatDoor
open Go.ChangeShapes Go.WideShapes Go.ChangeAt Go.RowKit
open Go.ChangeMaps (open_string shut_string)
noncomputable def orderWorld (os : Os) : World := World.laidAll Tryz.prog os Rows.pruneOrderRow.laid
theorem order_met (os : Os) (args : Array Value) : laidMetH Tryz.prog Rows.pruneOrderRow.laid ((orderWorld os).forCall (fun _ _ => 0) ⟨#[], args, []⟩).memory := by
 rw [MakeChecks.laidMetH_plain _ _ _ (by kernel_rfl)]
 exact laidMet_laidAll _ (by kernel_rfl) (by kernel_rfl)
theorem order_reads (os : Os) {H : Type} (enc : TypeId × Value → H) : ∃ places, DataW.whole enc Tryz.prog ((orderWorld os).forCall (fun _ _ => 0) ⟨#[], #[.string ⟨#[]⟩, .int .i64 0, .int .i64 0], []⟩).memory Tryz.f5.params.toList Rows.pruneOrderSpec.vars false #[Value.string ⟨#[]⟩, .int .i64 0, .int .i64 0].toList 8 = some ([.lit (.string []), .lit (.int .i64 0), .lit (.int .i64 0)], [], places) :=
 ⟨[], by kernel_rfl⟩
theorem order_contract (H : Type) (enc : TypeId × Value → H) (W : World) (base : Nat) (args : Array Value) (ds gs : List (DataW H)) (before : List MemPlace)
  (hval : ∀ (j : Nat) t v, Tryz.f5.params[j]? = some t → args[j]? = some v → Value.okWide Tryz.prog W .any base t v)
  (hW : DataW.Whole enc Tryz.prog Tryz.f5.params.toList Rows.pruneOrderSpec.vars false W args.toList ds gs before) (vt : List TypeId) (hz : (DataW.weightsEach Tryz.prog (Tryz.f5.params.toList ++ vt) (ds ++ gs)).all (· ≤ reachBytes) = true) (hL : laidMetH Tryz.prog Rows.pruneOrderRow.laid W) (hS : W.ShapedOpen Tryz.prog) :
  Calls Tryz.prog 5 args W fun e W' => ∃ v, e = .returned v ∧ Rows.pruneOrderSpec.post enc Tryz.prog Tryz.f5 false true false false W args v W' := by
 have hW' := hW
 obtain ⟨p, q, hA0, hV, rfl, hfz, hnd⟩ := hW
 have hA : DataW.TrodAll enc Tryz.prog W 0 (fun _ => true) true Tryz.f5.params.toList args.toList ds p := hA0
 rw [Tryz.params5] at hA hval hz
 obtain ⟨v0, vs0, d0, ds0, p0, q0, hargs, rfl, rfl, h0, r0⟩ := trodAll_cons hA
 obtain ⟨v1, vs1, d1, ds1, p1, q1, hargs1, rfl, rfl, h1, r1⟩ := trodAll_cons r0
 obtain ⟨v2, vs2, d2, ds2, p2, q2, hargs2, rfl, rfl, h2, r2⟩ := trodAll_cons r1
 obtain ⟨rfl, rfl, rfl⟩ := trodAll_nil r2
 subst hargs2
 subst hargs1
 obtain rfl : args = #[v0, v1, v2] := by cases args; simp_all
 obtain ⟨rfl, rfl⟩ := trodVars_none hV
 obtain ⟨t, rfl, rfl, rfl, ht⟩ := open_string Tryz.underlying9 (hval 0 9 v0 rfl rfl) h0
 obtain ⟨n, rfl, rfl, rfl, hn⟩ := open_int Tryz.underlying3 (hval 1 3 v1 rfl rfl) h1
 obtain ⟨m, rfl, rfl, rfl, hm⟩ := open_int Tryz.underlying3 (hval 2 3 v2 rfl rfl) h2
 clear hA0
 simp only [List.append_nil] at hW'
 have hnn : -9223372036854775808 ≤ n ∧ n ≤ 9223372036854775807 := by simpa [Lit.wf, IntKind.min, IntKind.max, IntKind.signed, IntKind.bits] using hn
 have hmm : -9223372036854775808 ≤ m ∧ m ≤ 9223372036854775807 := by simpa [Lit.wf, IntKind.min, IntKind.max, IntKind.signed, IntKind.bits] using hm
 rw [MakeChecks.laidMetH_plain _ _ _ (by kernel_rfl)] at hL
 have hB := blanks_of_reads (Lib.laidMet.reads hL (n := "lemma/scan.blanks") (d := Rows.laid_lemma_scan_blanks) (by simp [Rows.pruneOrderRow]))
 refine (PruneOrder_calls W t n m hnn.1 hnn.2 hmm.1 hmm.2 (by have h8 := sized_string hz (j := 0) (t := 9) (bytes := t.data.toList) rfl rfl; have h9 := reachBytes_lt; rw [Array.length_toList] at h8; show t.data.size < _; omega) hB (lib_of_shape hS)).mono fun e W' ⟨he, hs⟩ => ?_
 subst he
 have hb := hs.below
 exact ⟨_, rfl, _, _, _, [], [], [], hW', trodAll_mk1 (shut_bool Tryz.underlying4 _), trodAll_cons_mk (shut_string Tryz.underlying9 ht) (trodAll_mk2 (shut_int Tryz.underlying3 hn) (shut_int Tryz.underlying3 hm)), rfl, hb.frame _, fun h => by cases h⟩
theorem order_lifted (os : Os) (started : os.Started) (H : Type) (enc : TypeId × Value → H) (F : Stop.Interp) :
  ReturnsInHanded {} Tryz.checked os 5 .any ((OpenSpec.ofChange Rows.pruneOrderSpec).preRow enc Tryz.prog Tryz.f5 Rows.pruneOrderRow.domain false Rows.pruneOrderRow.laid) (((OpenSpec.ofChange Rows.pruneOrderSpec).at F).post enc Tryz.prog Tryz.f5 false true false false) := by
 obtain ⟨places, hx⟩ := order_reads os enc
 refine returnsInHanded_of_row (C := Tryz.checked) (s := OpenSpec.ofChange Rows.pruneOrderSpec) rowOwn started (by kernel_rfl) Tryz.func5
  (witness_row_at (enc := enc) (C := Tryz.checked) false (orderWorld os) #[.string ⟨#[]⟩, .int .i64 0, .int .i64 0] (World.laidAll_os _ _ _) (by kernel_rfl) (by kernel_rfl) (by kernel_rfl)
   (OpenSpec.preRow_of_cond 8 hx (by kernel_rfl) (fun k hk => by cases hk) (by kernel_rfl) (order_met os _))) ?_
 intro W base args ds gs before hval hW _ _ hz hL hS _
 exact order_contract H enc W base args ds gs before hval hW _ hz hL hS
theorem order_said : Rows.PruneOrderSaid :=
 OpenClaim.holds_of_cond 5 Tryz.f5 rfl rfl rfl rfl rfl rfl rfl ⟨rfl, rfl, rfl, rfl, rfl⟩ rfl rfl rfl rfl rfl (by kernel_rfl) Tryz.func5 (by kernel_rfl)
  (of_decide_eq_true (by kernel_rfl)) (by unfold Func.isWrapper; first | (rw [if_pos (by decide +kernel)]; kernel_rfl) | (rw [if_neg (by decide +kernel)]; exact ⟨rfl, rfl⟩))
  (fun os started H enc _ F => by rw [OpenClaim.pre_eq_preRow]; exact order_lifted os started H enc F)
theorem order_plain (f : FuncId) (fn : Func) (hf : Tryz.pinned.checked.prog.funcNamed "lemma/lemmalaw18.PruneOrder" = some f) (hfn : Tryz.pinned.checked.prog.funcs[f]? = some fn) :
  true = Tryz.pinned.checked.prog.looks [] ∧ ∀ (j : Nat) t, fn.params[j]? = some t → Tryz.pinned.checked.prog.wantsStandIn t = false := by
 obtain rfl : f = 5 := Option.some.inj ((show Tryz.prog.funcNamed "lemma/lemmalaw18.PruneOrder" = some 5 by kernel_rfl).symm.trans hf) |>.symm
 obtain rfl : fn = Tryz.f5 := (Option.some.inj (Tryz.func5.symm.trans hfn)).symm
 refine ⟨by kernel_rfl, fun j t ht => ?_⟩
 rw [Tryz.params5] at ht
 have hm : t ∈ [9, 3] := by simpa using Array.mem_of_getElem? ht
 have hall : ([9, 3].all fun u => !Tryz.prog.wantsStandIn u) = true := by kernel_rfl
 exact (show Tryz.prog.wantsStandIn t = false by simpa using List.all_eq_true.1 hall t hm)
theorem pruneOrder_card : Rows.PruneOrderCardSaid :=
 Claim7.holds_tied_plain_at .later [] _ _ _ _ order_said (fun _ h => by cases h) (by kernel_rfl) (fun _ h => by cases h) pruneOrder_row_tie rfl ⟨rfl, rfl⟩ (by kernel_rfl) rfl order_plain (by kernel_rfl)
end Go.Proofs.YtdhkmfpfbjcdiaaGreatDoor
