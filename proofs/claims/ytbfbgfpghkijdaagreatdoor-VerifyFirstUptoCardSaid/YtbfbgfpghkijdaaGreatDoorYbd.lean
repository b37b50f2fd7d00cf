/- lemmalaw texts, part 30. -/
import Derived.Test.YtbfbgfpghkijdaaGreatDoorYbc
set_option maxRecDepth 100000
set_option linter.unusedVariables false
set_option linter.unusedSimpArgs false
set_option maxHeartbeats 32000000
namespace Go.Proofs.YtbfbgfpghkijdaaGreatDoor
open Go.RowKit
structure Ca (w : World) (F : LF) (V : LV) (L : Ld) (s : St) (Aw Ap : Option Addr) (cw cp : Nat) : Prop where
 ld : BR w F V L
 ok : L.Ok
 bl : BF w
 bn : 1 ∉ V.blocks F
 words : Fix w (V.blocks F) 59 4 (.slice Aw s.words.length cw) s.words.length (AC s.words)
 proof : Fix w (V.blocks F) 59 4 (.slice Ap s.proof.length cp) s.proof.length (AC s.proof)
 sin : SIn 16384 s
 good : s.Good
theorem TkP.max {t : Tk} (h : TkP t) : t.text.size ≤ maxLen := by unfold TkP at h; unfold maxLen; omega
theorem KK (w : World) (F : LF) (V : LV) (L : Ld) (s : St) (Aw Ap : Option Addr) (cw cp : Nat) (h : Ca w F V L s Aw Ap cw cp) (hl : s.label.text.size ≠ 0) (t : Tk) (n : Nat) (he : L.label s.label = .error (t, n)) :
  Calls Tryz.prog 32 #[.pointer (some ⟨F.l, 0, none⟩), stV s (.slice Aw s.words.length cw) (.slice Ap s.proof.length cp)] w (LdX F V (L.take s) w) := by
 have hr : L.take s = .error (t, n) := by unfold Ld.take; rw [if_pos hl, he]; rfl
 rw [hr]
 have hlc := fun (W : World) (hW : Ad [] w W) => AX W F V L (h.ld.same hW) s.label h.sin.label.max
 rw [he] at hlc
 unfold Cz tkV at hlc
 unfold stV
 have hle : s.label.text.toList.isEmpty = false := by rw [AM]; simp [hl]
 clear h he hr hl
 go_enter Tryz.func32, Tryz.ntmps32
 go_wp2_with (go_at_call 59; go_must (refine (hlc _ (Ad.alloc [] _ _)).mono ?_; rintro e1 W1 ⟨b, rfl, hf, hs⟩))
 exact ⟨rfl, b, rfl, hf, ((Ad.alloc _ _ _).trans hs).mono (by simp)⟩
theorem DS (w : World) (s : St) (Aw Ap : Option Addr) (cw cp : Nat) : Hid (Ad [] w (w.alloc (Obj.cells #[.int .i64 s.kind, .string s.label.text, .int .i64 s.label.at_.off, .int .i64 s.label.at_.line, .int .i64 s.label.at_.col, .string s.key.text, .int .i64 s.key.at_.off, .int .i64 s.key.at_.line, .int .i64 s.key.at_.col, .bool s.proving, .slice Aw s.words.length cw, .slice Ap s.proof.length cp, .string s.end_.text, .int .i64 s.end_.at_.off, .int .i64 s.end_.at_.line, .int .i64 s.end_.at_.col] 98))) :=
 Kd (Ad.alloc [] w (Obj.cells #[.int .i64 s.kind, .string s.label.text, .int .i64 s.label.at_.off, .int .i64 s.label.at_.line, .int .i64 s.label.at_.col, .string s.key.text, .int .i64 s.key.at_.off, .int .i64 s.key.at_.line, .int .i64 s.key.at_.col, .bool s.proving, .slice Aw s.words.length cw, .slice Ap s.proof.length cp, .string s.end_.text, .int .i64 s.end_.at_.off, .int .i64 s.end_.at_.line, .int .i64 s.end_.at_.col] 98))
theorem zq18 {P : Prop} (h : P := by
 refine Bg (.read 0 (.read 1 (.read 2 (.read 3 (.read 4 (.read 5 (.read 6 (.read 7 (.read 8 (.one 9 [0, 1] (.one 10 [] (.done)))))))))))) (by kernel_rfl) (by kernel_rfl) ?_
 iterate 9 (refine Bv rfl (fun K hK => ?_); go_simp; (try go_bits); (try (rw [if_pos (by omega)]; go_simp)); refine hK _ ?_; clear hK K)
 refine AY rfl ?_
 go_wp2_with (go_at_call 61; go_must (refine (hop _ (HW.out.trans (Ad.drew [] _))).mono ?_; rintro e3 W3 ⟨rfl, TA3, hT3, hm3⟩))
 obtain ⟨hL3, hmv3⟩ := (H.out.ld.same (HW.out.trans (Ad.drew [] _))).setTbl hT3 hm3
 try dsimp only at hL3 hmv3
 have hnS : w.heap.size ∉ V.TA.blocks F.t := fun hm => by have h1 := HM.out _ (LV.mem.2 (.inr (.inr (.inr (.inr (.inr (.inr (.inl hm)))))))); omega
 have hS3 := hm3.same.get ((Ad.drew [] _).get HSb.out (by simp)) hnS
 have Mv3 := Kd ((AN.of_same (HW.out.trans (Ad.drew [] _))).trans hmv3)
 clear hT3 hm3 hmv3 hnS
 obtain ⟨q0, q1, q2, q3, q4, q5, q6, q7, q8, q9, q10, q11, q12, q13, q14, q15, qf⟩ := AF hS3
 have ql := Af hS3
 have HL3 := Kd hL3
 clear hL3 hS3
 refine EP.A ?_
 refine AY rfl ?_
 by_cases hz : L.tbl.openS.1 = 0
 ·have hres : L.act s = .ok { L with tbl := L.tbl.openS.2, scs := EH L.scs } := by rw [Hact.out]; unfold Bl; rw [if_pos hz]; rfl
  have HR := Kd hres
  clear hres
  have HZ := Kd hz
  clear hz
  go_wp2_with (go_at_call 60; go_must (refine (hnok _ _ HZ.out).mono ?_; rintro e4 W4 ⟨rfl, hs4⟩))
  have hL4 := HL3.out.same hs4
  have Mv4 := Kd (Mv3.out.trans (AN.of_same hs4))
  clear hs4
  refine EP.A ?_
  refine Bz ?_
  have hfo := Jh W4 F.s F.t V.A _ L.scs hL4.stk
  generalize (if L.scs.length - 1 = 16 then (23 : Nat) else 0) = num at hfo
  have p0 := Ai (i := 0) (v := .pointer (some ⟨F.nb, 0, none⟩)) hL4.lb
  have p1 := Ai (i := 1) (v := .pointer (some ⟨F.s, 0, none⟩)) hL4.lb
  have pl := Af hL4.lb
  have r2 := Ai (i := 2) (v := .pointer (some ⟨F.t, 0, none⟩)) hL4.nbb
  have rl := Af hL4.nbb
  have HL4 := Kd hL4
  clear hL4
  go_wp2_with (go_at_call 62; go_must (refine hfo.mono ?_; rintro e5 W5 ⟨rfl, hst5⟩))
  obtain ⟨A5, hL5, m5⟩ := HL4.out.setStk hst5
  refine bodyPost_end (results_none rfl _ _ _) rfl ?_
  show LdX F V (L.act s) w _ _
  rw [HR.out]
  exact ⟨rfl, _, hL5, Mv4.out.trans m5⟩
 ·have hres : L.act s = .error (s.key, L.tbl.openS.1) := by rw [Hact.out]; unfold Bl; rw [if_neg hz]; rfl
  have HR := Kd hres
  clear hres
  have HZ := Kd hz
  clear hz
  go_wp2_with (go_at_call 60; go_must (refine (hnbad _ _ HZ.out).mono ?_; rintro e4 W4 ⟨b, rfl, hf, hs4⟩))
  refine ⟨rfl, fun a' ha' => ⟨ha', ?_⟩⟩
  show LdX F V (L.act s) w _ _
  rw [HR.out]
  exact ⟨b, rfl, hf, Mv3.out.same.then (hs4.mono (T := V.blocks F) (by simp)) fun _ hx => .inl hx⟩) : P := h
theorem Pj (w : World) (F : LF) (V : LV) (L : Ld) (s : St) (Aw Ap : Option Addr) (cw cp : Nat) (h : Ca w F V L s Aw Ap cw cp) (hlx : s.label.text.size = 0 ∨ (s.label.text.size ≠ 0 ∧ L.label s.label = .ok ())) (hk : s.kind = 8) :
  Calls Tryz.prog 32 #[.pointer (some ⟨F.l, 0, none⟩), stV s (.slice Aw s.words.length cw) (.slice Ap s.proof.length cp)] w (LdX F V (L.act s) w) := by
 have hlc := fun (W : World) (hW : Ad [] w W) => AX W F V L (h.ld.same hW) s.label h.sin.label.max
 have H := Kd h
 have l0 := Ai (i := 0) (v := .pointer (some ⟨F.nb, 0, none⟩)) h.ld.lb
 have l1 := Ai (i := 1) (v := .pointer (some ⟨F.s, 0, none⟩)) h.ld.lb
 have ll := Af h.ld.lb
 have n2 := Ai (i := 2) (v := .pointer (some ⟨F.t, 0, none⟩)) h.ld.nbb
 have nl := Af h.ld.nbb
 have hop := fun (W : World) (hW : Ad [] w W) => KB W F.t V.TA L.tbl (h.ld.tbl.same hW (by simp))
 have hnok := fun W n hn => C6 W s.key n hn
 have hnbad := fun W n hn => CI W s.key n hn
 have hact : L.act s = (Bl s.key L.tbl.openS.1).bind fun _ => .ok { L with tbl := L.tbl.openS.2, scs := EH L.scs } := by unfold Ld.act; simp [hk]
 have Hact := Kd hact
 clear hact
 unfold tkV at hnok hnbad
 have HM := Kd h.ld.lt
 have kb8 : ((s.kind : Int) == 8) = true := by rw [hk]; rfl
 have kb9 : ((s.kind : Int) == 9) = false := by rw [hk]; rfl
 have kb1 : ((s.kind : Int) == 1) = false := by rw [hk]; rfl
 have kb2 : ((s.kind : Int) == 2) = false := by rw [hk]; rfl
 have kb5 : ((s.kind : Int) == 5) = false := by rw [hk]; rfl
 have kb3 : ((s.kind : Int) == 3) = false := by rw [hk]; rfl
 have kb4 : ((s.kind : Int) == 4) = false := by rw [hk]; rfl
 have kb6 : ((s.kind : Int) == 6) = false := by rw [hk]; rfl
 have kb7 : ((s.kind : Int) == 7) = false := by rw [hk]; rfl
 clear hk
 unfold stV
 unfold tkV at hlc
 clear h
 rcases hlx with hle | ⟨hle, hlo⟩
 ·have hle' : s.label.text.toList.isEmpty = true := by rw [AM]; simp [hle]
  have HW := DS w s Aw Ap cw cp
  have HSb := Kd (Aj w (stO s (.slice Aw s.words.length cw) (.slice Ap s.proof.length cp)))
  clear hle hlc
  go_enter Tryz.func32, Tryz.ntmps32
  go_wp2
  exact zq18
 ·have hle' : s.label.text.toList.isEmpty = false := by rw [AM]; simp [hle]
  rw [hlo] at hlc
  unfold Cz at hlc
  dsimp only at hlc
  clear hle hlo
  go_enter Tryz.func32, Tryz.ntmps32
  go_wp2_with ((go_at_call 59; go_must (refine (hlc _ (Ad.alloc [] _ _)).mono ?_; rintro e1 W1 ⟨rfl, hs1⟩; have hS1 := hs1.get (Aj w (stO s (.slice Aw s.words.length cw) (.slice Ap s.proof.length cp))) (by simp); obtain ⟨s0, s1, s2, s3, s4, s5, s6, s7, s8, s9, s10, s11, s12, s13, s14, s15, sf⟩ := AF hS1; have sl := Af hS1; have hW1 := (Ad.alloc [] w (stO s (.slice Aw s.words.length cw) (.slice Ap s.proof.length cp))).trans hs1; have l01 := hW1.cell l0 (by simp); have l11 := hW1.cell l1 (by simp); have n21 := hW1.cell n2 (by simp); have ll1 := Nat.lt_of_lt_of_le ll hW1.size; have nl1 := Nat.lt_of_lt_of_le nl hW1.size; have HSb := Kd hS1; have HW := Kd hW1; clear hs1 hS1 hW1)))
  exact zq18
theorem zq19 {P : Prop} (h : P := by
 refine Bg (.read 0 (.read 1 (.read 2 (.read 3 (.read 4 (.read 5 (.read 6 (.read 7 (.read 8 (.one 9 [0, 1] (.one 10 [] (.done)))))))))))) (by kernel_rfl) (by kernel_rfl) ?_
 iterate 9 (refine Bv rfl (fun K hK => ?_); go_simp; (try go_bits); (try (rw [if_pos (by omega)]; go_simp)); refine hK _ ?_; clear hK K)
 refine AY rfl ?_
 go_wp2_with (go_at_call 63; go_must (refine (hop _ (HW.out.trans (Ad.drew [] _))).mono ?_; rintro e3 W3 ⟨rfl, TA3, hT3, hm3⟩))
 obtain ⟨hL3, hmv3⟩ := (H.out.ld.same (HW.out.trans (Ad.drew [] _))).setTbl hT3 hm3
 try dsimp only at hL3 hmv3
 have hnS : w.heap.size ∉ V.TA.blocks F.t := fun hm => by have h1 := HM.out _ (LV.mem.2 (.inr (.inr (.inr (.inr (.inr (.inr (.inl hm)))))))); omega
 have hS3 := hm3.same.get ((Ad.drew [] _).get HSb.out (by simp)) hnS
 have Mv3 := Kd ((AN.of_same (HW.out.trans (Ad.drew [] _))).trans hmv3)
 clear hT3 hm3 hmv3 hnS
 obtain ⟨q0, q1, q2, q3, q4, q5, q6, q7, q8, q9, q10, q11, q12, q13, q14, q15, qf⟩ := AF hS3
 have ql := Af hS3
 have HL3 := Kd hL3
 clear hL3 hS3
 refine EP.A ?_
 refine AY rfl ?_
 by_cases hz : L.tbl.close.1 = 0
 ·have hres : L.act s = .ok { L with tbl := L.tbl.close.2, scs := Dz L.scs } := by rw [Hact.out]; unfold Bl; rw [if_pos hz]; rfl
  have HR := Kd hres
  clear hres
  have HZ := Kd hz
  clear hz
  go_wp2_with (go_at_call 60; go_must (refine (hnok _ _ HZ.out).mono ?_; rintro e4 W4 ⟨rfl, hs4⟩))
  have hL4 := HL3.out.same hs4
  have Mv4 := Kd (Mv3.out.trans (AN.of_same hs4))
  clear hs4
  refine EP.A ?_
  refine Bz ?_
  have hfo := Hq W4 F.s F.t V.A _ L.scs hL4.stk
  generalize (if L.scs.length - 1 = 0 then (23 : Nat) else 0) = num at hfo
  have p0 := Ai (i := 0) (v := .pointer (some ⟨F.nb, 0, none⟩)) hL4.lb
  have p1 := Ai (i := 1) (v := .pointer (some ⟨F.s, 0, none⟩)) hL4.lb
  have pl := Af hL4.lb
  have r2 := Ai (i := 2) (v := .pointer (some ⟨F.t, 0, none⟩)) hL4.nbb
  have rl := Af hL4.nbb
  have HL4 := Kd hL4
  clear hL4
  go_wp2_with (go_at_call 64; go_must (refine hfo.mono ?_; rintro e5 W5 ⟨rfl, hst5⟩))
  obtain ⟨A5, hL5, m5⟩ := HL4.out.setStk hst5
  refine bodyPost_end (results_none rfl _ _ _) rfl ?_
  show LdX F V (L.act s) w _ _
  rw [HR.out]
  exact ⟨rfl, _, hL5, Mv4.out.trans m5⟩
 ·have hres : L.act s = .error (s.key, L.tbl.close.1) := by rw [Hact.out]; unfold Bl; rw [if_neg hz]; rfl
  have HR := Kd hres
  clear hres
  have HZ := Kd hz
  clear hz
  go_wp2_with (go_at_call 60; go_must (refine (hnbad _ _ HZ.out).mono ?_; rintro e4 W4 ⟨b, rfl, hf, hs4⟩))
  refine ⟨rfl, fun a' ha' => ⟨ha', ?_⟩⟩
  show LdX F V (L.act s) w _ _
  rw [HR.out]
  exact ⟨b, rfl, hf, Mv3.out.same.then (hs4.mono (T := V.blocks F) (by simp)) fun _ hx => .inl hx⟩) : P := h
theorem Om (w : World) (F : LF) (V : LV) (L : Ld) (s : St) (Aw Ap : Option Addr) (cw cp : Nat) (h : Ca w F V L s Aw Ap cw cp) (hlx : s.label.text.size = 0 ∨ (s.label.text.size ≠ 0 ∧ L.label s.label = .ok ())) (hk : s.kind = 9) :
  Calls Tryz.prog 32 #[.pointer (some ⟨F.l, 0, none⟩), stV s (.slice Aw s.words.length cw) (.slice Ap s.proof.length cp)] w (LdX F V (L.act s) w) := by
 have hlc := fun (W : World) (hW : Ad [] w W) => AX W F V L (h.ld.same hW) s.label h.sin.label.max
 have H := Kd h
 have l0 := Ai (i := 0) (v := .pointer (some ⟨F.nb, 0, none⟩)) h.ld.lb
 have l1 := Ai (i := 1) (v := .pointer (some ⟨F.s, 0, none⟩)) h.ld.lb
 have ll := Af h.ld.lb
 have n2 := Ai (i := 2) (v := .pointer (some ⟨F.t, 0, none⟩)) h.ld.nbb
 have nl := Af h.ld.nbb
 have hop := fun (W : World) (hW : Ad [] w W) => Ki W F.t V.TA L.tbl (h.ld.tbl.same hW (by simp)) h.ok.tbl.nin (fun l hl => by have := h.ok.tbl.len l hl; omega) h.ok.tbl.scopes h.ok.tbl.syms
 have hnok := fun W n hn => C6 W s.key n hn
 have hnbad := fun W n hn => CI W s.key n hn
 have hact : L.act s = (Bl s.key L.tbl.close.1).bind fun _ => .ok { L with tbl := L.tbl.close.2, scs := Dz L.scs } := by unfold Ld.act; simp [hk]
 have Hact := Kd hact
 clear hact
 unfold tkV at hnok hnbad
 have HM := Kd h.ld.lt
 have kb8 : ((s.kind : Int) == 8) = false := by rw [hk]; rfl
 have kb9 : ((s.kind : Int) == 9) = true := by rw [hk]; rfl
 have kb1 : ((s.kind : Int) == 1) = false := by rw [hk]; rfl
 have kb2 : ((s.kind : Int) == 2) = false := by rw [hk]; rfl
 have kb5 : ((s.kind : Int) == 5) = false := by rw [hk]; rfl
 have kb3 : ((s.kind : Int) == 3) = false := by rw [hk]; rfl
 have kb4 : ((s.kind : Int) == 4) = false := by rw [hk]; rfl
 have kb6 : ((s.kind : Int) == 6) = false := by rw [hk]; rfl
 have kb7 : ((s.kind : Int) == 7) = false := by rw [hk]; rfl
 clear hk
 unfold stV
 unfold tkV at hlc
 clear h
 rcases hlx with hle | ⟨hle, hlo⟩
 ·have hle' : s.label.text.toList.isEmpty = true := by rw [AM]; simp [hle]
  have HW := DS w s Aw Ap cw cp
  have HSb := Kd (Aj w (stO s (.slice Aw s.words.length cw) (.slice Ap s.proof.length cp)))
  clear hle hlc
  go_enter Tryz.func32, Tryz.ntmps32
  go_wp2
  exact zq19
 ·have hle' : s.label.text.toList.isEmpty = false := by rw [AM]; simp [hle]
  rw [hlo] at hlc
  unfold Cz at hlc
  dsimp only at hlc
  clear hle hlo
  go_enter Tryz.func32, Tryz.ntmps32
  go_wp2_with ((go_at_call 59; go_must (refine (hlc _ (Ad.alloc [] _ _)).mono ?_; rintro e1 W1 ⟨rfl, hs1⟩; have hS1 := hs1.get (Aj w (stO s (.slice Aw s.words.length cw) (.slice Ap s.proof.length cp))) (by simp); obtain ⟨s0, s1, s2, s3, s4, s5, s6, s7, s8, s9, s10, s11, s12, s13, s14, s15, sf⟩ := AF hS1; have sl := Af hS1; have hW1 := (Ad.alloc [] w (stO s (.slice Aw s.words.length cw) (.slice Ap s.proof.length cp))).trans hs1; have l01 := hW1.cell l0 (by simp); have l11 := hW1.cell l1 (by simp); have n21 := hW1.cell n2 (by simp); have ll1 := Nat.lt_of_lt_of_le ll hW1.size; have nl1 := Nat.lt_of_lt_of_le nl hW1.size; have HSb := Kd hS1; have HW := Kd hW1; clear hs1 hS1 hW1)))
  exact zq19
end Go.Proofs.YtbfbgfpghkijdaaGreatDoor
