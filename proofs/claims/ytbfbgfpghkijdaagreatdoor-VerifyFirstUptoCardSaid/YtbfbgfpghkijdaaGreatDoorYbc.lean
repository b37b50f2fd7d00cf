/- lemmalaw texts, part 29. -/
import Derived.Test.YtbfbgfpghkijdaaGreatDoorYaz
set_option maxRecDepth 100000
set_option linter.unusedVariables false
set_option linter.unusedSimpArgs false
set_option maxHeartbeats 32000000
namespace Go.Proofs.YtbfbgfpghkijdaaGreatDoor
open Go.RowKit
theorem Bi.fix {w : World} {M : List Nat} {v : Value} {evs : List Value} {l : List Hy} (h : Bi w [] v evs l) (hf : ∀ ev ∈ evs, ∀ b, ev.ownBlock = some b → b ∉ M) : Bi w M v evs l :=
 ⟨h.row, h.exprs.impMem fun x ev hm hi => ⟨hi.row, hf ev hm⟩, h.flo⟩
theorem B1 {w : World} {M : List Nat} (hM : ∀ b ∈ M, b < w.heap.size) {v : Value} (h : AH w v) : ∀ b, v.ownBlock = some b → b ∉ M := fun b hb hm => by
 have h1 := h b hb
 have h2 := hM b hm
 omega
theorem AH.mono {w w' : World} {v : Value} (h : AH w' v) (hs : w.heap.size ≤ w'.heap.size) : AH w v := fun b hb => Nat.le_trans hs (h b hb)
theorem RF (k : Nat) : ((k : Int) == 7) = decide (k = 7) := by
 by_cases h : k = 7
 ·subst h; rfl
 ·rw [decide_eq_false h, beq_eq_false_iff_ne]; omega
theorem Tryz.infoAsr : (Tryz.prog.info? 71).map (fun i => (i.zero, i.size, i.bytes)) = some (some (.agg #[.int .i64 0, .string ByteArray.empty, .bool false, .slice none 0 0, .slice none 0 0, .slice none 0 0, .slice none 0 0, .slice none 0 0, .slice none 0 0, .string ByteArray.empty, .int .i64 0, .int .i64 0, .int .i64 0, .string ByteArray.empty, .int .i64 0, .int .i64 0, .int .i64 0]), 17, 256) := by kernel_rfl
def Ld.asr (L : Ld) (s : St) (goal : List Int) : Asr := ⟨L.asserts.length, s.label.text, decide (s.kind = 7), BZ L.tbl.isVar L.scs goal, B2 L.tbl.isVar L.scs goal, goal, AK L.scs, AL L.scs, s.proof, s.label, s.end_⟩
theorem Pg (w : World) (t : Tk) : Calls Tryz.prog 60 #[tkV t, .int .i64 0] w fun e w' => e = .returned (.tuple #[]) ∧ Ad [] w w' := C6 w t 0 rfl
theorem DC (w : World) (F : LF) (V : LV) (L : Ld) (h : BR w F V L) (hok : L.Ok) (s : St) (Aw Ap : Option Addr) (nw cw cp : Nat) (hs : s.label.text.size ≤ maxLen) (hp : Fix w (V.blocks F) 59 4 (.slice Ap s.proof.length cp) s.proof.length (AC s.proof))
  (goal : List Int) (ev : Value) (hv : Row w 3 1 ev goal.length (Ay goal)) (hg : goal.length ≤ 200) :
  Calls Tryz.prog 75 #[.pointer (some ⟨F.l, 0, none⟩), stV s (.slice Aw nw cw) (.slice Ap s.proof.length cp), ev] w (LdX F V (L.assert s goal) w) := by
 have hR := h.lr hok.small
 have l0 := Ai (i := 0) (v := .pointer (some ⟨F.nb, 0, none⟩)) h.lb
 have l1 := Ai (i := 1) (v := .pointer (some ⟨F.s, 0, none⟩)) h.lb
 have l2 := Ai (i := 2) (v := .int .i64 L.labels) h.lb
 have lf := AE h.lb
 have ll := Af h.lb
 have hll := hok.le
 obtain ⟨Ae, ce, rfl⟩ := hv.shape
 have hM := h.lt
 have hs0 := Ad.alloc [] w (stO s (.slice Aw nw cw) (.slice Ap s.proof.length cp))
 have hS0 := Aj w (stO s (.slice Aw nw cw) (.slice Ap s.proof.length cp))
 by_cases hc : DT L.tbl.isVar L.scs goal = 0
 ·have hfr := Nz (w.alloc (stO s (.slice Aw nw cw) (.slice Ap s.proof.length cp))) F.s F.t V.A (V.blocks F) L.scs (h.stk.same hs0) hok.small V.TA L.tbl (h.tbl.same hs0 (by simp)) _ goal (hv.same hs0 (by simp)) (by omega) hc
  have hn0 := fun W => Pg W s.end_
  unfold tkV at hn0
  have H := Kd h
  have HS0 := Kd hS0
  have Hs0 := Kd hs0
  have Hp := Kd hp
  have Hok := Kd hok
  have HC := Kd hc
  have HM := Kd hM
  unfold stV
  unfold stO at hfr
  clear h hok hv hp hs0 hS0 hR hc hM
  go_enter Tryz.func75, Tryz.ntmps75
  go_wp2_with (first
   | (go_at_call 127; go_must (refine hfr.mono ?_; rintro e1 W1 ⟨hv1, pv1, gv1, evs1, rfl, hh1, hfh1, hfe1, hr1, hfp1, hg1, hfg1, hs1⟩; obtain ⟨A1, c1, rfl⟩ := hh1.row.shape; obtain ⟨A1', c1', rfl⟩ := hr1.shape; obtain ⟨A1'', c1'', rfl⟩ := hg1.shape; have hS1 := hs1.get HS0.out (by simp); obtain ⟨s0, s1, s2, s3, s4, s5, s6, s7, s8, s9, s10, s11, s12, s13, s14, s15, sf⟩ := AF hS1; have sl := Af hS1; have Hs1 := Kd (Hs0.out.trans hs1); have HS1 := Kd hS1; have Hh1 := Kd hh1; have Hr1 := Kd hr1; have Hg1 := Kd hg1; have Hfh1 := Kd hfh1; have Hfe1 := Kd hfe1; have Hfp1 := Kd hfp1; have Hfg1 := Kd hfg1; clear hh1 hr1 hg1 hfh1 hfe1 hfp1 hfg1 hs1 hS1))
   | (go_at_call 60; go_must (refine (hn0 _).mono ?_; rintro e2 W2 ⟨rfl, hs2⟩; have hs02 := (Hs1.out.trans (Ad.alloc [] W1 (.cells #[.slice A1 (BZ L.tbl.isVar L.scs goal).length c1, .slice A1' (B2 L.tbl.isVar L.scs goal).length c1', .slice A1'' goal.length c1''] 67))).trans hs2; have m0 := hs02.cell l0 (by simp); have m1 := hs02.cell l1 (by simp); have m2 := hs02.cell l2 (by simp); have mf : ∀ i, W2.frozen? ⟨F.l, i, none⟩ = false := (fun i => by rw [World.frozen?_of_block (hs02.block F.l ll (by simp))]; exact lf i); have ml := Nat.lt_of_lt_of_le ll hs02.size; have Hs2 := Kd hs2; clear hs2 hs02)))
  obtain ⟨W3, hW3⟩ : ∃ W3, W2.setCell ⟨F.l, 2, none⟩ (.int .i64 ((L.labels : Int) + 1)) = W3 := ⟨_, rfl⟩
  rw [hW3]
  have hs02 : Ad [] w W2 := (Hs1.out.trans (Ad.alloc _ _ _)).trans Hs2.out
  have hL2 := H.out.same hs02
  have hS2 := ((Ad.alloc [] W1 (.cells #[.slice A1 (BZ L.tbl.isVar L.scs goal).length c1, .slice A1' (B2 L.tbl.isVar L.scs goal).length c1', .slice A1'' goal.length c1''] 67)).trans Hs2.out).get HS1.out (by simp)
  have hF2 := Hs2.out.get (Aj W1 (.cells #[.slice A1 (BZ L.tbl.isVar L.scs goal).length c1, .slice A1' (B2 L.tbl.isVar L.scs goal).length c1', .slice A1'' goal.length c1''] 67)) (by simp)
  have hz1 := Hs1.out.size
  have hz1' := Af HS1.out
  obtain ⟨hL3, m3⟩ := hL2.setLabels (n := L.labels + 1) (by have := AI hL2.lb 2 (.int .i64 ((L.labels : Int) + 1)); simpa using this) (Ad.setCell W2 _ _ (S := [F.l]) (by simp))
  have hs23 : Ad [F.l] W2 W3 := by rw [← hW3]; exact Ad.setCell W2 _ _ (by simp)
  rw [hW3] at hL3 m3
  have hS3 := hs23.get hS2 (by simp; omega)
  have hF3 := hs23.get hF2 (by simp; omega)
  obtain ⟨Av, cv, hav⟩ := H.out.asr.shape
  have MA := Kd ((AN.of_same ((Ad.alloc [] W1 (.cells #[.slice A1 (BZ L.tbl.isVar L.scs goal).length c1, .slice A1' (B2 L.tbl.isVar L.scs goal).length c1', .slice A1'' goal.length c1''] 67)).trans Hs2.out)).trans m3)
  have Hz1 := Kd hz1'
  clear hL2 hS2 hF2 m3 hs23 hs02 m0 m1 m2 mf ml s0 s1 s2 s3 s4 s5 s6 s7 s8 s9 s10 s11 s12 s13 s14 s15 sf sl l0 l1 l2 lf hW3
  have hlb := fun (W : World) (hW : Ad [] W3 W) => Ge W F.t V.TA L.tbl (hL3.tbl.same hW (by simp)) s.label.text hs
  have hnok := fun W n hn => C6 W s.label n hn
  have hnbad := fun W n hn => CI W s.label n hn
  unfold tkV at hnok hnbad
  have l0 := Ai (i := 0) (v := .pointer (some ⟨F.nb, 0, none⟩)) hL3.lb
  have l1 := Ai (i := 1) (v := .pointer (some ⟨F.s, 0, none⟩)) hL3.lb
  have ll3 := Af hL3.lb
  have n2 := Ai (i := 2) (v := .pointer (some ⟨F.t, 0, none⟩)) hL3.nbb
  have n4 := Ai (i := 4) (v := V.av) hL3.nbb
  rw [hav] at n4
  have n5 := Ai (i := 5) (v := .map (some F.mf)) hL3.nbb
  have nf := AE hL3.nbb
  have nl := Af hL3.nbb
  obtain ⟨s0, s1, s2, s3, s4, s5, s6, s7, s8, s9, s10, s11, s12, s13, s14, s15, sf⟩ := AF hS3
  have sl := Af hS3
  obtain ⟨f0, f1, f2, ff⟩ := Er hF3
  have fl := Af hF3
  have HL3 := Kd hL3
  have HS3 := Kd hS3
  have HF3 := Kd hF3
  clear hL3 hS3 hF3
  refine Bg (.read 0 (.read 1 (.read 2 (.read 3 (.read 4 (.read 5 (.read 6 (.read 7 (.read 8 (.read 9 (.read 10 (.read 11 (.one 12 [0, 1] (.one 13 [] (.done))))))))))))))) (by kernel_rfl) (by kernel_rfl) ?_
  iterate 12 (refine Bv rfl (fun K hK => ?_); go_simp; (try go_bits); (try (rw [if_pos (by omega)]; go_simp)); refine hK _ ?_; clear hK K)
  refine AY rfl ?_
  go_wp2_with (go_at_call 124; go_must (refine (hlb _ (Ad.drew [] _)).mono ?_; rintro e4 W4 ⟨rfl, TA4, hT4, hm4⟩))
  have hnS : w.heap.size ∉ V.TA.blocks F.t := fun hm => by have h1 := HM.out _ (LV.mem.2 (.inr (.inr (.inr (.inr (.inr (.inr (.inl hm)))))))); omega
  have hnF : W1.heap.size ∉ V.TA.blocks F.t := fun hm => by have h1 := HM.out _ (LV.mem.2 (.inr (.inr (.inr (.inr (.inr (.inr (.inl hm)))))))); omega
  obtain ⟨hL4, hmv4⟩ := (HL3.out.same (Ad.drew [] W3)).setTbl hT4 hm4
  dsimp only at hL4 hmv4
  have hS4 := hm4.same.get ((Ad.drew [] W3).get HS3.out (by simp)) hnS
  have hF4 := hm4.same.get ((Ad.drew [] W3).get HF3.out (by simp)) hnF
  have MA4 := Kd ((MA.out.trans (AN.of_same (Ad.drew [] W3))).trans hmv4)
  clear hT4 hm4 hnS hnF hmv4 l0 l1 ll3 n2 n4 n5 nf nl s0 s1 s2 s3 s4 s5 s6 s7 s8 s9 s10 s11 s12 s13 s14 s15 sf sl f0 f1 f2 ff fl
  have l0 := Ai (i := 0) (v := .pointer (some ⟨F.nb, 0, none⟩)) hL4.lb
  have l1 := Ai (i := 1) (v := .pointer (some ⟨F.s, 0, none⟩)) hL4.lb
  have ll4 := Af hL4.lb
  have n2 := Ai (i := 2) (v := .pointer (some ⟨F.t, 0, none⟩)) hL4.nbb
  have n4 := Ai (i := 4) (v := V.av) hL4.nbb
  rw [hav] at n4
  have n5 := Ai (i := 5) (v := .map (some F.mf)) hL4.nbb
  have nf := AE hL4.nbb
  have nl := Af hL4.nbb
  obtain ⟨s0, s1, s2, s3, s4, s5, s6, s7, s8, s9, s10, s11, s12, s13, s14, s15, sf⟩ := AF hS4
  have sl := Af hS4
  obtain ⟨f0, f1, f2, ff⟩ := Er hF4
  have fl := Af hF4
  have HL4 := Kd hL4
  have HS4 := Kd hS4
  have HF4 := Kd hF4
  clear hL4 hS4 hF4
  refine EP.A ?_
  refine AY rfl ?_
  by_cases hz : (L.tbl.label s.label.text).1 = 0
  ·have hr : L.assert s goal = .ok { L with labels := L.labels + 1, tbl := (L.tbl.label s.label.text).2, finds := Bd s.label.text L.asserts.length L.finds, asserts := L.asserts ++ [L.asr s goal] } := by unfold Ld.assert Bl; dsimp only; rw [if_pos HC.out, if_pos hz]; rfl
   rw [hr]
   have HZ := Kd hz
   clear hz
   go_wp2_with (go_at_call 60; go_must (refine (hnok _ _ HZ.out).mono ?_; rintro e5 W5 ⟨rfl, hs5⟩))
   have hL5 := HL4.out.same hs5
   have hS5 := hs5.get HS4.out (by simp)
   have hF5 := hs5.get HF4.out (by simp)
   have MA5 := Kd (MA4.out.trans (AN.of_same hs5))
   clear hs5 l0 l1 ll4 n2 n4 n5 nf nl s0 s1 s2 s3 s4 s5 s6 s7 s8 s9 s10 s11 s12 s13 s14 s15 sf sl f0 f1 f2 ff fl
   refine EP.A ?_
   refine Bz ?_
   have l0 := Ai (i := 0) (v := .pointer (some ⟨F.nb, 0, none⟩)) hL5.lb
   have l1 := Ai (i := 1) (v := .pointer (some ⟨F.s, 0, none⟩)) hL5.lb
   have ll5 := Af hL5.lb
   have n2 := Ai (i := 2) (v := .pointer (some ⟨F.t, 0, none⟩)) hL5.nbb
   have n4 := Ai (i := 4) (v := V.av) hL5.nbb
   rw [hav] at n4
   have n5 := Ai (i := 5) (v := .map (some F.mf)) hL5.nbb
   have nf := AE hL5.nbb
   have nl := Af hL5.nbb
   obtain ⟨s0, s1, s2, s3, s4, s5, s6, s7, s8, s9, s10, s11, s12, s13, s14, s15, sf⟩ := AF hS5
   have sl := Af hS5
   obtain ⟨f0, f1, f2, ff⟩ := Er hF5
   have fl := Af hF5
   have HL5 := Kd hL5
   have HS5 := Kd hS5
   have HF5 := Kd hF5
   clear hL5 hS5 hF5
   go_wp2
   refine AD (.read 0 (.read 1 (.read 2 (.read 3 (.read 4 (.read 5 (.read 6 (.read 7 (.read 8 (.read 9 (.read 10 (.read 11 (.read 12 (.read 13 (.read 14 (.read 15 (.read 16 (.read 17 (.one 18 [] (.done)))))))))))))))))))) (by kernel_rfl) (by kernel_rfl) ?_
   iterate 18 (refine An rfl (fun K hK => ?_); go_simp; (try go_bits); (try (rw [if_pos (by omega)]; go_simp)); refine hK _ ?_; clear hK K)
   refine Ak rfl ?_
   refine DH (HL5.out.finds.same (Ad.drew [] _) (by simp)) Tryz.underlying84 Tryz.underlying9 rfl _ _ _ rfl s.label.text (.int .i64 L.asserts.length) (by go_simp) (by go_simp) (by go_simp) ?_
   intro W6 hm6 hs6
   rw [CH] at hm6
   obtain ⟨hL6, hmv6⟩ := (HL5.out.same (Ad.drew [] W5)).setFind hm6 hs6
   have hmfS : w.heap.size ∉ [F.mf] := by have h1 := HM.out F.mf (LV.mem.2 (.inr (.inr (.inr (.inl rfl))))); simp; omega
   have hmfF : W1.heap.size ∉ [F.mf] := by have h1 := HM.out F.mf (LV.mem.2 (.inr (.inr (.inr (.inl rfl))))); simp; omega
   have hS6 := hs6.get ((Ad.drew [] W5).get HS5.out (by simp)) hmfS
   have hF6 := hs6.get ((Ad.drew [] W5).get HF5.out (by simp)) hmfF
   have MA6 := Kd ((MA5.out.trans (AN.of_same (Ad.drew [] W5))).trans hmv6)
   clear hm6 hs6 hmv6 hmfS hmfF l0 l1 ll5 n2 n4 n5 nf nl s0 s1 s2 s3 s4 s5 s6 s7 s8 s9 s10 s11 s12 s13 s14 s15 sf sl f0 f1 f2 ff fl
   have hsc := fun (W : World) (hW : Ad [] W6 W) => F8 W F.s F.t V.A _ L.scs (hL6.stk.same hW) Hok.out.small
   have hasl : L.asserts.length ≤ 1024 := Nat.le_trans Hok.out.asr Hok.out.le
   have l0 := Ai (i := 0) (v := .pointer (some ⟨F.nb, 0, none⟩)) hL6.lb
   have l1 := Ai (i := 1) (v := .pointer (some ⟨F.s, 0, none⟩)) hL6.lb
   have ll6 := Af hL6.lb
   have n2 := Ai (i := 2) (v := .pointer (some ⟨F.t, 0, none⟩)) hL6.nbb
   have n4 := Ai (i := 4) (v := V.av) hL6.nbb
   rw [hav] at n4
   have n5 := Ai (i := 5) (v := .map (some F.mf)) hL6.nbb
   have nf := AE hL6.nbb
   have nl := Af hL6.nbb
   obtain ⟨s0, s1, s2, s3, s4, s5, s6, s7, s8, s9, s10, s11, s12, s13, s14, s15, sf⟩ := AF hS6
   have sl := Af hS6
   obtain ⟨f0, f1, f2, ff⟩ := Er hF6
   have fl := Af hF6
   have HL6 := Kd hL6
   have HS6 := Kd hS6
   have HF6 := Kd hF6
   clear hL6 hS6 hF6
   go_wp2
   refine EQ.A ?_
   refine AB ?_
   go_wp2
   refine AD (.read 0 (.read 1 (.read 2 (.read 3 (.read 4 (.read 5 (.read 6 (.read 7 (.read 8 (.read 9 (.read 10 (.read 11 (.read 12 (.read 13 (.read 14 (.read 15 (.read 16 (.read 17 (.read 18 (.read 19 (.read 20 (.read 21 (.read 22 (.read 23 (.read 24 (.read 25 (.read 26 (.read 27 (.read 28 (.read 29 (.read 31 (.read 32 (.read 33 (.read 34 (.read 35 (.read 36 (.one 30 [0, 1, 2, 3, 4, 5, 6, 7, 8, 9, 10, 11, 12, 13, 14, 15, 16, 17, 18, 19, 20, 21, 22, 23, 24, 25, 31, 32, 33, 34, 35, 36] (.read 37 (.one 38 [0, 1, 2, 3, 4, 5, 6, 7, 8, 9, 10] (.one 39 [0, 1, 2, 3] (.read 40 (.read 41 (.one 42 [] (.done)))))))))))))))))))))))))))))))))))))))))))) (by kernel_rfl) (by kernel_rfl) ?_
   iterate 36 (refine An rfl (fun K hK => ?_); go_simp; (try go_bits); (try (rw [if_pos (by omega)]; go_simp)); refine hK _ ?_; clear hK K)
   refine Ak rfl ?_
   go_wp2_with (go_at_call 113; go_must (refine (hsc _ (Ad.drew [] _)).mono ?_; rintro e7 W7 ⟨hv7, pv7, evs7, rfl, hh7, hf7, hfe7, hr7, hfp7, hs7⟩; obtain ⟨A7, c7, rfl⟩ := hh7.row.shape; obtain ⟨A7', c7', rfl⟩ := hr7.shape))
   have hL7 := (HL6.out.same (Ad.drew [] W6)).same hs7
   have hS7 := hs7.get ((Ad.drew [] W6).get HS6.out (by simp)) (by simp)
   have hF7 := hs7.get ((Ad.drew [] W6).get HF6.out (by simp)) (by simp)
   have MA7 := Kd (MA6.out.trans (AN.of_same ((Ad.drew [] W6).trans hs7)))
   have Hh7 := Kd hh7
   have Hf7 := Kd hf7
   have Hfe7 := Kd hfe7
   have Hr7 := Kd hr7
   have Hfp7 := Kd hfp7
   clear hh7 hf7 hfe7 hr7 hfp7 hs7 l0 l1 ll6 n2 n4 n5 nf nl s0 s1 s2 s3 s4 s5 s6 s7 s8 s9 s10 s11 s12 s13 s14 s15 sf sl f0 f1 f2 ff fl hsc
   have l0 := Ai (i := 0) (v := .pointer (some ⟨F.nb, 0, none⟩)) hL7.lb
   have l1 := Ai (i := 1) (v := .pointer (some ⟨F.s, 0, none⟩)) hL7.lb
   have ll7 := Af hL7.lb
   have n2 := Ai (i := 2) (v := .pointer (some ⟨F.t, 0, none⟩)) hL7.nbb
   have n4 := Ai (i := 4) (v := V.av) hL7.nbb
   rw [hav] at n4
   have n5 := Ai (i := 5) (v := .map (some F.mf)) hL7.nbb
   have nf := AE hL7.nbb
   have nl := Af hL7.nbb
   obtain ⟨s0, s1, s2, s3, s4, s5, s6, s7, s8, s9, s10, s11, s12, s13, s14, s15, sf⟩ := AF hS7
   have sl := Af hS7
   obtain ⟨f0, f1, f2, ff⟩ := Er hF7
   have fl := Af hF7
   have HL7 := Kd hL7
   have HS7 := Kd hS7
   have HF7 := Kd hF7
   clear hL7 hS7 hF7
   have hrow := HL7.out.asr
   dsimp only at hrow
   rw [hav] at hrow
   have Hrow := Kd hrow
   clear hrow
   refine EQ.A ?_
   iterate 1 (refine An rfl (fun K hK => ?_); go_simp; (try go_bits); (try (rw [if_pos (by omega)]; go_simp)); refine hK _ ?_; clear hK K)
   refine Ak rfl ?_
   go_wp2
   refine EQ.A ?_
   refine Ak rfl ?_
   refine Bh (W := W7) rfl _ _ 87 rfl 71 17 256 _ Tryz.underlying87 Tryz.infoAsr rfl (by decide) (.slice Av L.asserts.length cv) _ _ (by go_simp) Hrow.out [.int .i64 L.asserts.length, .string s.label.text, .bool ((s.kind : Int) == 7), .slice A1 (BZ L.tbl.isVar L.scs goal).length c1, .slice A1' (B2 L.tbl.isVar L.scs goal).length c1', .slice A1'' goal.length c1'', .slice A7 (AK L.scs).length c7, .slice A7' (AL L.scs).length c7', .slice Ap s.proof.length cp, .string s.label.text, .int .i64 s.label.at_.off, .int .i64 s.label.at_.line, .int .i64 s.label.at_.col, .string s.end_.text, .int .i64 s.end_.at_.off, .int .i64 s.end_.at_.line, .int .i64 s.end_.at_.col] (by go_simp) rfl (by simp [Value.oneCell']) (by omega) (by decide) ?_
   intro v8 W8 hr8 hs8 ho8
   obtain ⟨A8, c8, rfl⟩ := hr8.shape
   have Mw1 : AN (V.blocks F) (V.blocks F) w W1 := AN.of_same Hs1.out
   have k1 : ∀ {v : Value}, AH (w.alloc (stO s (.slice Aw nw cw) (.slice Ap s.proof.length cp))) v → ∀ b, v.ownBlock = some b → b ∉ V.blocks F := fun hv => B1 HM.out (AH.mono hv (by rw [AA]; omega))
   have hM6 := HL6.out.lt
   have k7 : ∀ {v : Value}, AH W6.drew v → ∀ b, v.ownBlock = some b → b ∉ LV.blocks { V with TA := TA4 } F := fun hv => B1 hM6 hv
   have hasr : E5 W7 (LV.blocks { V with TA := TA4 } F) (L.asr s goal) ⟨.slice A1 (BZ L.tbl.isVar L.scs goal).length c1, .slice A1' (B2 L.tbl.isVar L.scs goal).length c1', .slice A1'' goal.length c1'', .slice A7 (AK L.scs).length c7, .slice A7' (AL L.scs).length c7', .slice Ap s.proof.length cp, evs1, evs7⟩ :=
    ⟨(Hh1.out.fix (fun ev he => k1 (Hfe1.out ev he))).moveFix MA7.out (k1 Hfh1.out), JO MA7.out (fun b hb => Hh1.out.row.lt hb) (k1 Hfh1.out), Fix.move ⟨Hr1.out, k1 Hfp1.out⟩ MA7.out, Fix.move ⟨Hg1.out, k1 Hfg1.out⟩ MA7.out,
     Hh7.out.fix (fun ev he => k7 (Hfe7.out ev he)), k7 Hf7.out, ⟨Hr7.out, k7 Hfp7.out⟩, (Hp.out.move Mw1).move MA7.out⟩
   rw [RF] at hr8
   have hres := BR.setAsr HL7.out (L.asr s goal) _ (v1 := .slice A8 (L.asserts.length + 1) c8) hr8 (by dsimp only; rw [hav]; exact hs8) (by dsimp only; rw [hav]; exact ho8) hasr
   dsimp only at hres
   obtain ⟨hL9, mv9⟩ := hres
   have hnav : F.nb ∉ (Value.slice Av L.asserts.length cv).ownBlock.toList := fun hm => HL7.out.ty.nb.no (HL7.out.ty.av F.nb (by dsimp only; rw [hav]; exact Option.mem_toList.1 hm)) (by decide)
   have nb8 := hs8.get HL7.out.nbb hnav
   have hlav : F.l ∉ (Value.slice Av L.asserts.length cv).ownBlock.toList := fun hm => HL7.out.ty.l.no (HL7.out.ty.av F.l (by dsimp only; rw [hav]; exact Option.mem_toList.1 hm)) (by decide)
   have lb8 := hs8.get HL7.out.lb hlav
   have l08 := Ai (i := 0) (v := .pointer (some ⟨F.nb, 0, none⟩)) lb8
   have ll8 := Af lb8
   have Mv9 := Kd ((Mw1.trans MA7.out).trans mv9)
   have HL9 := Kd hL9
   have n48 := Ai (i := 4) (v := V.av) nb8
   rw [hav] at n48
   have nf8 := AE nb8
   have nl8 := Af nb8
   clear hL9 mv9 hasr hr8 hs8 ho8 nb8 lb8 hlav hnav k1 k7 hM6 Mw1 l0 l1 ll7 n2 n4 n5 nf nl s0 s1 s2 s3 s4 s5 s6 s7 s8 s9 s10 s11 s12 s13 s14 s15 sf sl f0 f1 f2 ff fl
   go_wp2
   refine EQ.A ?_
   iterate 2 (refine An rfl (fun K hK => ?_); go_simp; (try go_bits); (try (rw [if_pos (by omega)]; go_simp)); refine hK _ ?_; clear hK K)
   refine Ak rfl ?_
   go_wp2
   refine EQ.A ?_
   refine AB ?_
   go_wp2
   refine bodyPost_end (results_none rfl _ _ _) rfl ?_
   exact ⟨rfl, _, HL9.out, Mv9.out⟩
  ·have hr : L.assert s goal = .error (s.label, (L.tbl.label s.label.text).1) := by unfold Ld.assert Bl; dsimp only; rw [if_pos HC.out, if_neg hz]; rfl
   rw [hr]
   have HZ := Kd hz
   clear hz
   go_wp2_with (go_at_call 60; go_must (refine (hnbad _ _ HZ.out).mono ?_; rintro e5 W5 ⟨b, rfl, hf, hs5⟩))
   refine ⟨rfl, fun a' ha' => ⟨ha', ?_⟩⟩
   have mm := (AN.of_same (M := V.blocks F) Hs1.out).trans MA4.out
   exact ⟨b, rfl, hf, mm.same.then (hs5.mono (T := V.blocks F) (by simp)) fun _ hx => .inl hx⟩
 ·have hr : L.assert s goal = .error (s.end_, DT L.tbl.isVar L.scs goal) := by unfold Ld.assert Bl; dsimp only; rw [if_neg hc]; rfl
  rw [hr]
  have hfr := O6 (w.alloc (stO s (.slice Aw nw cw) (.slice Ap s.proof.length cp))) F.s F.t V.A (V.blocks F) L.scs (h.stk.same hs0) hok.small V.TA L.tbl (h.tbl.same hs0 (by simp)) _ goal (hv.same hs0 (by simp)) (by omega) hc
  have hnd := fun W => CI W s.end_ _ hc
  unfold tkV at hnd
  have HS0 := Kd hS0
  have Hs0 := Kd hs0
  unfold stV
  unfold stO at hfr
  clear h hok hv hp hs0 hS0 hR hc hM
  go_enter Tryz.func75, Tryz.ntmps75
  go_wp2_with (first
   | (go_at_call 127; go_must (refine hfr.mono ?_; rintro e1 W1 ⟨rfl, hs1⟩; have hS1 := hs1.get HS0.out (by simp); obtain ⟨s0, s1, s2, s3, s4, s5, s6, s7, s8, s9, s10, s11, s12, s13, s14, s15, sf⟩ := AF hS1; have sl := Af hS1; have Hs1 := Kd (Hs0.out.trans hs1); clear hs1 hS1))
   | (go_at_call 60; go_must (refine (hnd _).mono ?_; rintro e2 W2 ⟨b, rfl, hf, hs2⟩)))
  exact ⟨rfl, b, rfl, hf, ((Hs1.out.trans (Ad.alloc _ _ _)).trans hs2).mono (by simp)⟩
end Go.Proofs.YtbfbgfpghkijdaaGreatDoor
