/- lemmalaw texts, part 36. -/
import Derived.Test.YtdhkmfpfbjcdiaaGreatDoorYbi
set_option maxRecDepth 100000
set_option linter.unusedVariables false
set_option linter.unusedSimpArgs false
set_option maxHeartbeats 32000000
namespace Go.Proofs.YtdhkmfpfbjcdiaaGreatDoor
open Go.RowKit
theorem take_float_bad (w : World) (F : LF) (V : LV) (L : Ld) (s : St) (Aw Ap : Option Addr) (cw cp : Nat) (h : TakeH w F V L s Aw Ap cw cp) (hlx : s.label.text.size = 0 ∨ (s.label.text.size ≠ 0 ∧ L.label s.label = .ok ())) (hk : s.kind = 3) (t : Tk) (n : Nat) (he : L.floatGo s.words [] = .error (t, n)) :
  Calls Tryz.prog 29 #[.pointer (some ⟨F.l, 0, none⟩), stV s (.slice Aw s.words.length cw) (.slice Ap s.proof.length cp)] w (LdX F V (L.act s) w) := by
 have hlc := fun (W : World) (hW : Same [] w W) => llabel_calls W F V L (h.ld.same hW) s.label h.sin.label.max
 have H := Kd h
 have l0 := blk_c (i := 0) (v := .pointer (some ⟨F.nb, 0, none⟩)) h.ld.lb
 have l1 := blk_c (i := 1) (v := .pointer (some ⟨F.s, 0, none⟩)) h.ld.lb
 have ll := blk_lt h.ld.lb
 have n2 := blk_c (i := 2) (v := .pointer (some ⟨F.t, 0, none⟩)) h.ld.nbb
 have nl := blk_lt h.ld.nbb
 have hap := fun (W : World) (hW : Same [] w W) => float_calls W F.l F.nb F.t F.s V.TA V.A (V.blocks F) L ((h.ld.lr h.ok.small).same hW) _ s.words (h.words.row.same hW (by simp)) (by have := h.sin.wl; omega)
 have hact : L.act s = .error (t, n) := by unfold Ld.act; simp [hk, he]; rfl
 rw [hact]
 rw [he] at hap
 unfold IntsX at hap
 clear hact he
 have kb8 : ((s.kind : Int) == 8) = false := by rw [hk]; rfl
 have kb9 : ((s.kind : Int) == 9) = false := by rw [hk]; rfl
 have kb1 : ((s.kind : Int) == 1) = false := by rw [hk]; rfl
 have kb2 : ((s.kind : Int) == 2) = false := by rw [hk]; rfl
 have kb5 : ((s.kind : Int) == 5) = false := by rw [hk]; rfl
 have kb3 : ((s.kind : Int) == 3) = true := by rw [hk]; rfl
 have kb4 : ((s.kind : Int) == 4) = false := by rw [hk]; rfl
 have kb6 : ((s.kind : Int) == 6) = false := by rw [hk]; rfl
 have kb7 : ((s.kind : Int) == 7) = false := by rw [hk]; rfl
 clear hk
 unfold stV
 unfold tkV at hlc
 clear h
 rcases hlx with hle | ⟨hle, hlo⟩
 ·have hle' : s.label.text.toList.isEmpty = true := by rw [tl_empty]; simp [hle]
  have HW := hwT0 w s Aw Ap cw cp
  have HSb := Kd (blk_new w (stO s (.slice Aw s.words.length cw) (.slice Ap s.proof.length cp)))
  clear hle hlc
  go_enter Tryz.func29, Tryz.ntmps29
  go_wp2_with ((go_at_call 73; go_must (refine (hap _ HW.out).mono ?_; rintro e2 W2 ⟨b, rfl, hf, hs⟩)))
  refine ⟨rfl, ?_⟩
  exact ⟨b, rfl, hf, (HW.out.trans hs).mono (by simp)⟩
 ·have hle' : s.label.text.toList.isEmpty = false := by rw [tl_empty]; simp [hle]
  rw [hlo] at hlc
  unfold UnitX at hlc
  dsimp only at hlc
  clear hle hlo
  go_enter Tryz.func29, Tryz.ntmps29
  go_wp2_with (first | (go_at_call 62; go_must (refine (hlc _ (Same.alloc [] _ _)).mono ?_; rintro e1 W1 ⟨rfl, hs1⟩; have hS1 := hs1.get (blk_new w (stO s (.slice Aw s.words.length cw) (.slice Ap s.proof.length cp))) (by simp); obtain ⟨s0, s1, s2, s3, s4, s5, s6, s7, s8, s9, s10, s11, s12, s13, s14, s15, sf⟩ := stO_cells hS1; have sl := blk_lt hS1; have hW1 := (Same.alloc [] w (stO s (.slice Aw s.words.length cw) (.slice Ap s.proof.length cp))).trans hs1; have l01 := hW1.cell l0 (by simp); have l11 := hW1.cell l1 (by simp); have n21 := hW1.cell n2 (by simp); have ll1 := Nat.lt_of_lt_of_le ll hW1.size; have nl1 := Nat.lt_of_lt_of_le nl hW1.size; have HSb := Kd hS1; have HW := Kd hW1; clear hs1 hS1 hW1)) | (go_at_call 73; go_must (refine (hap _ HW.out).mono ?_; rintro e2 W2 ⟨b, rfl, hf, hs⟩)))
  refine ⟨rfl, ?_⟩
  exact ⟨b, rfl, hf, (HW.out.trans hs).mono (by simp)⟩
theorem take_float_part (w : World) (F : LF) (V : LV) (L : Ld) (s : St) (Aw Ap : Option Addr) (cw cp : Nat) (h : TakeH w F V L s Aw Ap cw cp) (hlx : s.label.text.size = 0 ∨ (s.label.text.size ≠ 0 ∧ L.label s.label = .ok ())) (hk : s.kind = 3) (v : List Int) (he : L.floatGo s.words [] = .ok v) (hwh : s.whole = false) :
  Calls Tryz.prog 29 #[.pointer (some ⟨F.l, 0, none⟩), stV s (.slice Aw s.words.length cw) (.slice Ap s.proof.length cp)] w (LdX F V (L.act s) w) := by
 have hlc := fun (W : World) (hW : Same [] w W) => llabel_calls W F V L (h.ld.same hW) s.label h.sin.label.max
 have H := Kd h
 have l0 := blk_c (i := 0) (v := .pointer (some ⟨F.nb, 0, none⟩)) h.ld.lb
 have l1 := blk_c (i := 1) (v := .pointer (some ⟨F.s, 0, none⟩)) h.ld.lb
 have ll := blk_lt h.ld.lb
 have n2 := blk_c (i := 2) (v := .pointer (some ⟨F.t, 0, none⟩)) h.ld.nbb
 have nl := blk_lt h.ld.nbb
 have hap := fun (W : World) (hW : Same [] w W) => float_calls W F.l F.nb F.t F.s V.TA V.A (V.blocks F) L ((h.ld.lr h.ok.small).same hW) _ s.words (h.words.row.same hW (by simp)) (by have := h.sin.wl; omega)
 have hact : L.act s = .ok L := by unfold Ld.act; simp [hk, he, hwh]; rfl
 rw [hact]
 rw [he] at hap
 unfold IntsX at hap
 rw [whole_iff] at hwh
 clear hact he
 have kb8 : ((s.kind : Int) == 8) = false := by rw [hk]; rfl
 have kb9 : ((s.kind : Int) == 9) = false := by rw [hk]; rfl
 have kb1 : ((s.kind : Int) == 1) = false := by rw [hk]; rfl
 have kb2 : ((s.kind : Int) == 2) = false := by rw [hk]; rfl
 have kb5 : ((s.kind : Int) == 5) = false := by rw [hk]; rfl
 have kb3 : ((s.kind : Int) == 3) = true := by rw [hk]; rfl
 have kb4 : ((s.kind : Int) == 4) = false := by rw [hk]; rfl
 have kb6 : ((s.kind : Int) == 6) = false := by rw [hk]; rfl
 have kb7 : ((s.kind : Int) == 7) = false := by rw [hk]; rfl
 clear hk
 unfold stV
 unfold tkV at hlc
 clear h
 rcases hlx with hle | ⟨hle, hlo⟩
 ·have hle' : s.label.text.toList.isEmpty = true := by rw [tl_empty]; simp [hle]
  have HW := hwT0 w s Aw Ap cw cp
  have HSb := Kd (blk_new w (stO s (.slice Aw s.words.length cw) (.slice Ap s.proof.length cp)))
  clear hle hlc
  go_enter Tryz.func29, Tryz.ntmps29
  go_wp2_with ((go_at_call 73; go_must (refine (hap _ HW.out).mono ?_; rintro e2 W2 ⟨v2, rfl, hr2, hs2, hf2⟩; obtain ⟨A2, c2, rfl⟩ := hr2.shape; have hS2 := hs2.get HSb.out (by simp); obtain ⟨q0, q1, q2, q3, q4, q5, q6, q7, q8, q9, q10, q11, q12, q13, q14, q15, qf⟩ := stO_cells hS2; have ql := blk_lt hS2; have HW2 := Kd (HW.out.trans hs2); have Hf2 := Kd (FreshB.mono hf2 HW.out.size); have HS2 := Kd hS2; have Hr2 := Kd hr2; have l02 := HW2.out.cell l0 (by simp); have l12 := HW2.out.cell l1 (by simp); have ll2 := Nat.lt_of_lt_of_le ll HW2.out.size; clear hr2 hs2 hf2 hS2)))
  refine bodyPost_end (results_none rfl _ _ _) rfl ?_
  exact ⟨rfl, V, H.out.ld.same HW2.out, Move.of_same HW2.out⟩
 ·have hle' : s.label.text.toList.isEmpty = false := by rw [tl_empty]; simp [hle]
  rw [hlo] at hlc
  unfold UnitX at hlc
  dsimp only at hlc
  clear hle hlo
  go_enter Tryz.func29, Tryz.ntmps29
  go_wp2_with (first | (go_at_call 62; go_must (refine (hlc _ (Same.alloc [] _ _)).mono ?_; rintro e1 W1 ⟨rfl, hs1⟩; have hS1 := hs1.get (blk_new w (stO s (.slice Aw s.words.length cw) (.slice Ap s.proof.length cp))) (by simp); obtain ⟨s0, s1, s2, s3, s4, s5, s6, s7, s8, s9, s10, s11, s12, s13, s14, s15, sf⟩ := stO_cells hS1; have sl := blk_lt hS1; have hW1 := (Same.alloc [] w (stO s (.slice Aw s.words.length cw) (.slice Ap s.proof.length cp))).trans hs1; have l01 := hW1.cell l0 (by simp); have l11 := hW1.cell l1 (by simp); have n21 := hW1.cell n2 (by simp); have ll1 := Nat.lt_of_lt_of_le ll hW1.size; have nl1 := Nat.lt_of_lt_of_le nl hW1.size; have HSb := Kd hS1; have HW := Kd hW1; clear hs1 hS1 hW1)) | (go_at_call 73; go_must (refine (hap _ HW.out).mono ?_; rintro e2 W2 ⟨v2, rfl, hr2, hs2, hf2⟩; obtain ⟨A2, c2, rfl⟩ := hr2.shape; have hS2 := hs2.get HSb.out (by simp); obtain ⟨q0, q1, q2, q3, q4, q5, q6, q7, q8, q9, q10, q11, q12, q13, q14, q15, qf⟩ := stO_cells hS2; have ql := blk_lt hS2; have HW2 := Kd (HW.out.trans hs2); have Hf2 := Kd (FreshB.mono hf2 HW.out.size); have HS2 := Kd hS2; have Hr2 := Kd hr2; have l02 := HW2.out.cell l0 (by simp); have l12 := HW2.out.cell l1 (by simp); have ll2 := Nat.lt_of_lt_of_le ll HW2.out.size; clear hr2 hs2 hf2 hS2)))
  refine bodyPost_end (results_none rfl _ _ _) rfl ?_
  exact ⟨rfl, V, H.out.ld.same HW2.out, Move.of_same HW2.out⟩
theorem take_ess_bad (w : World) (F : LF) (V : LV) (L : Ld) (s : St) (Aw Ap : Option Addr) (cw cp : Nat) (h : TakeH w F V L s Aw Ap cw cp) (hlx : s.label.text.size = 0 ∨ (s.label.text.size ≠ 0 ∧ L.label s.label = .ok ())) (hk : s.kind = 4) (t : Tk) (n : Nat) (he : L.exprGo s.words [] = .error (t, n)) :
  Calls Tryz.prog 29 #[.pointer (some ⟨F.l, 0, none⟩), stV s (.slice Aw s.words.length cw) (.slice Ap s.proof.length cp)] w (LdX F V (L.act s) w) := by
 have hlc := fun (W : World) (hW : Same [] w W) => llabel_calls W F V L (h.ld.same hW) s.label h.sin.label.max
 have H := Kd h
 have l0 := blk_c (i := 0) (v := .pointer (some ⟨F.nb, 0, none⟩)) h.ld.lb
 have l1 := blk_c (i := 1) (v := .pointer (some ⟨F.s, 0, none⟩)) h.ld.lb
 have ll := blk_lt h.ld.lb
 have n2 := blk_c (i := 2) (v := .pointer (some ⟨F.t, 0, none⟩)) h.ld.nbb
 have nl := blk_lt h.ld.nbb
 have hap := fun (W : World) (hW : Same [] w W) => expr_calls W F.l F.nb F.t F.s V.TA V.A (V.blocks F) L ((h.ld.lr h.ok.small).same hW) _ s.words (h.words.row.same hW (by simp)) (by have := h.sin.wl; omega)
 have hact : L.act s = .error (t, n) := by unfold Ld.act; simp [hk, he]; rfl
 rw [hact]
 rw [he] at hap
 unfold IntsX at hap
 clear hact he
 have kb8 : ((s.kind : Int) == 8) = false := by rw [hk]; rfl
 have kb9 : ((s.kind : Int) == 9) = false := by rw [hk]; rfl
 have kb1 : ((s.kind : Int) == 1) = false := by rw [hk]; rfl
 have kb2 : ((s.kind : Int) == 2) = false := by rw [hk]; rfl
 have kb5 : ((s.kind : Int) == 5) = false := by rw [hk]; rfl
 have kb3 : ((s.kind : Int) == 3) = false := by rw [hk]; rfl
 have kb4 : ((s.kind : Int) == 4) = true := by rw [hk]; rfl
 have kb6 : ((s.kind : Int) == 6) = false := by rw [hk]; rfl
 have kb7 : ((s.kind : Int) == 7) = false := by rw [hk]; rfl
 clear hk
 unfold stV
 unfold tkV at hlc
 clear h
 rcases hlx with hle | ⟨hle, hlo⟩
 ·have hle' : s.label.text.toList.isEmpty = true := by rw [tl_empty]; simp [hle]
  have HW := hwT0 w s Aw Ap cw cp
  have HSb := Kd (blk_new w (stO s (.slice Aw s.words.length cw) (.slice Ap s.proof.length cp)))
  clear hle hlc
  go_enter Tryz.func29, Tryz.ntmps29
  go_wp2_with ((go_at_call 76; go_must (refine (hap _ HW.out).mono ?_; rintro e2 W2 ⟨b, rfl, hf, hs⟩)))
  refine ⟨rfl, ?_⟩
  exact ⟨b, rfl, hf, (HW.out.trans hs).mono (by simp)⟩
 ·have hle' : s.label.text.toList.isEmpty = false := by rw [tl_empty]; simp [hle]
  rw [hlo] at hlc
  unfold UnitX at hlc
  dsimp only at hlc
  clear hle hlo
  go_enter Tryz.func29, Tryz.ntmps29
  go_wp2_with (first | (go_at_call 62; go_must (refine (hlc _ (Same.alloc [] _ _)).mono ?_; rintro e1 W1 ⟨rfl, hs1⟩; have hS1 := hs1.get (blk_new w (stO s (.slice Aw s.words.length cw) (.slice Ap s.proof.length cp))) (by simp); obtain ⟨s0, s1, s2, s3, s4, s5, s6, s7, s8, s9, s10, s11, s12, s13, s14, s15, sf⟩ := stO_cells hS1; have sl := blk_lt hS1; have hW1 := (Same.alloc [] w (stO s (.slice Aw s.words.length cw) (.slice Ap s.proof.length cp))).trans hs1; have l01 := hW1.cell l0 (by simp); have l11 := hW1.cell l1 (by simp); have n21 := hW1.cell n2 (by simp); have ll1 := Nat.lt_of_lt_of_le ll hW1.size; have nl1 := Nat.lt_of_lt_of_le nl hW1.size; have HSb := Kd hS1; have HW := Kd hW1; clear hs1 hS1 hW1)) | (go_at_call 76; go_must (refine (hap _ HW.out).mono ?_; rintro e2 W2 ⟨b, rfl, hf, hs⟩)))
  refine ⟨rfl, ?_⟩
  exact ⟨b, rfl, hf, (HW.out.trans hs).mono (by simp)⟩
theorem take_ess_part (w : World) (F : LF) (V : LV) (L : Ld) (s : St) (Aw Ap : Option Addr) (cw cp : Nat) (h : TakeH w F V L s Aw Ap cw cp) (hlx : s.label.text.size = 0 ∨ (s.label.text.size ≠ 0 ∧ L.label s.label = .ok ())) (hk : s.kind = 4) (v : List Int) (he : L.exprGo s.words [] = .ok v) (hwh : s.whole = false) :
  Calls Tryz.prog 29 #[.pointer (some ⟨F.l, 0, none⟩), stV s (.slice Aw s.words.length cw) (.slice Ap s.proof.length cp)] w (LdX F V (L.act s) w) := by
 have hlc := fun (W : World) (hW : Same [] w W) => llabel_calls W F V L (h.ld.same hW) s.label h.sin.label.max
 have H := Kd h
 have l0 := blk_c (i := 0) (v := .pointer (some ⟨F.nb, 0, none⟩)) h.ld.lb
 have l1 := blk_c (i := 1) (v := .pointer (some ⟨F.s, 0, none⟩)) h.ld.lb
 have ll := blk_lt h.ld.lb
 have n2 := blk_c (i := 2) (v := .pointer (some ⟨F.t, 0, none⟩)) h.ld.nbb
 have nl := blk_lt h.ld.nbb
 have hap := fun (W : World) (hW : Same [] w W) => expr_calls W F.l F.nb F.t F.s V.TA V.A (V.blocks F) L ((h.ld.lr h.ok.small).same hW) _ s.words (h.words.row.same hW (by simp)) (by have := h.sin.wl; omega)
 have hact : L.act s = .ok L := by unfold Ld.act; simp [hk, he, hwh]; rfl
 rw [hact]
 rw [he] at hap
 unfold IntsX at hap
 rw [whole_iff] at hwh
 clear hact he
 have kb8 : ((s.kind : Int) == 8) = false := by rw [hk]; rfl
 have kb9 : ((s.kind : Int) == 9) = false := by rw [hk]; rfl
 have kb1 : ((s.kind : Int) == 1) = false := by rw [hk]; rfl
 have kb2 : ((s.kind : Int) == 2) = false := by rw [hk]; rfl
 have kb5 : ((s.kind : Int) == 5) = false := by rw [hk]; rfl
 have kb3 : ((s.kind : Int) == 3) = false := by rw [hk]; rfl
 have kb4 : ((s.kind : Int) == 4) = true := by rw [hk]; rfl
 have kb6 : ((s.kind : Int) == 6) = false := by rw [hk]; rfl
 have kb7 : ((s.kind : Int) == 7) = false := by rw [hk]; rfl
 clear hk
 unfold stV
 unfold tkV at hlc
 clear h
 rcases hlx with hle | ⟨hle, hlo⟩
 ·have hle' : s.label.text.toList.isEmpty = true := by rw [tl_empty]; simp [hle]
  have HW := hwT0 w s Aw Ap cw cp
  have HSb := Kd (blk_new w (stO s (.slice Aw s.words.length cw) (.slice Ap s.proof.length cp)))
  clear hle hlc
  go_enter Tryz.func29, Tryz.ntmps29
  go_wp2_with ((go_at_call 76; go_must (refine (hap _ HW.out).mono ?_; rintro e2 W2 ⟨v2, rfl, hr2, hs2, hf2⟩; obtain ⟨A2, c2, rfl⟩ := hr2.shape; have hS2 := hs2.get HSb.out (by simp); obtain ⟨q0, q1, q2, q3, q4, q5, q6, q7, q8, q9, q10, q11, q12, q13, q14, q15, qf⟩ := stO_cells hS2; have ql := blk_lt hS2; have HW2 := Kd (HW.out.trans hs2); have Hf2 := Kd (FreshB.mono hf2 HW.out.size); have HS2 := Kd hS2; have Hr2 := Kd hr2; have l02 := HW2.out.cell l0 (by simp); have l12 := HW2.out.cell l1 (by simp); have ll2 := Nat.lt_of_lt_of_le ll HW2.out.size; clear hr2 hs2 hf2 hS2)))
  refine bodyPost_end (results_none rfl _ _ _) rfl ?_
  exact ⟨rfl, V, H.out.ld.same HW2.out, Move.of_same HW2.out⟩
 ·have hle' : s.label.text.toList.isEmpty = false := by rw [tl_empty]; simp [hle]
  rw [hlo] at hlc
  unfold UnitX at hlc
  dsimp only at hlc
  clear hle hlo
  go_enter Tryz.func29, Tryz.ntmps29
  go_wp2_with (first | (go_at_call 62; go_must (refine (hlc _ (Same.alloc [] _ _)).mono ?_; rintro e1 W1 ⟨rfl, hs1⟩; have hS1 := hs1.get (blk_new w (stO s (.slice Aw s.words.length cw) (.slice Ap s.proof.length cp))) (by simp); obtain ⟨s0, s1, s2, s3, s4, s5, s6, s7, s8, s9, s10, s11, s12, s13, s14, s15, sf⟩ := stO_cells hS1; have sl := blk_lt hS1; have hW1 := (Same.alloc [] w (stO s (.slice Aw s.words.length cw) (.slice Ap s.proof.length cp))).trans hs1; have l01 := hW1.cell l0 (by simp); have l11 := hW1.cell l1 (by simp); have n21 := hW1.cell n2 (by simp); have ll1 := Nat.lt_of_lt_of_le ll hW1.size; have nl1 := Nat.lt_of_lt_of_le nl hW1.size; have HSb := Kd hS1; have HW := Kd hW1; clear hs1 hS1 hW1)) | (go_at_call 76; go_must (refine (hap _ HW.out).mono ?_; rintro e2 W2 ⟨v2, rfl, hr2, hs2, hf2⟩; obtain ⟨A2, c2, rfl⟩ := hr2.shape; have hS2 := hs2.get HSb.out (by simp); obtain ⟨q0, q1, q2, q3, q4, q5, q6, q7, q8, q9, q10, q11, q12, q13, q14, q15, qf⟩ := stO_cells hS2; have ql := blk_lt hS2; have HW2 := Kd (HW.out.trans hs2); have Hf2 := Kd (FreshB.mono hf2 HW.out.size); have HS2 := Kd hS2; have Hr2 := Kd hr2; have l02 := HW2.out.cell l0 (by simp); have l12 := HW2.out.cell l1 (by simp); have ll2 := Nat.lt_of_lt_of_le ll HW2.out.size; clear hr2 hs2 hf2 hS2)))
  refine bodyPost_end (results_none rfl _ _ _) rfl ?_
  exact ⟨rfl, V, H.out.ld.same HW2.out, Move.of_same HW2.out⟩
theorem take_as6_bad (w : World) (F : LF) (V : LV) (L : Ld) (s : St) (Aw Ap : Option Addr) (cw cp : Nat) (h : TakeH w F V L s Aw Ap cw cp) (hlx : s.label.text.size = 0 ∨ (s.label.text.size ≠ 0 ∧ L.label s.label = .ok ())) (hk : s.kind = 6) (t : Tk) (n : Nat) (he : L.exprGo s.words [] = .error (t, n)) :
  Calls Tryz.prog 29 #[.pointer (some ⟨F.l, 0, none⟩), stV s (.slice Aw s.words.length cw) (.slice Ap s.proof.length cp)] w (LdX F V (L.act s) w) := by
 have hlc := fun (W : World) (hW : Same [] w W) => llabel_calls W F V L (h.ld.same hW) s.label h.sin.label.max
 have H := Kd h
 have l0 := blk_c (i := 0) (v := .pointer (some ⟨F.nb, 0, none⟩)) h.ld.lb
 have l1 := blk_c (i := 1) (v := .pointer (some ⟨F.s, 0, none⟩)) h.ld.lb
 have ll := blk_lt h.ld.lb
 have n2 := blk_c (i := 2) (v := .pointer (some ⟨F.t, 0, none⟩)) h.ld.nbb
 have nl := blk_lt h.ld.nbb
 have hap := fun (W : World) (hW : Same [] w W) => expr_calls W F.l F.nb F.t F.s V.TA V.A (V.blocks F) L ((h.ld.lr h.ok.small).same hW) _ s.words (h.words.row.same hW (by simp)) (by have := h.sin.wl; omega)
 have hact : L.act s = .error (t, n) := by unfold Ld.act; simp [hk, he]; rfl
 rw [hact]
 rw [he] at hap
 unfold IntsX at hap
 clear hact he
 have kb8 : ((s.kind : Int) == 8) = false := by rw [hk]; rfl
 have kb9 : ((s.kind : Int) == 9) = false := by rw [hk]; rfl
 have kb1 : ((s.kind : Int) == 1) = false := by rw [hk]; rfl
 have kb2 : ((s.kind : Int) == 2) = false := by rw [hk]; rfl
 have kb5 : ((s.kind : Int) == 5) = false := by rw [hk]; rfl
 have kb3 : ((s.kind : Int) == 3) = false := by rw [hk]; rfl
 have kb4 : ((s.kind : Int) == 4) = false := by rw [hk]; rfl
 have kb6 : ((s.kind : Int) == 6) = true := by rw [hk]; rfl
 have kb7 : ((s.kind : Int) == 7) = false := by rw [hk]; rfl
 clear hk
 unfold stV
 unfold tkV at hlc
 clear h
 rcases hlx with hle | ⟨hle, hlo⟩
 ·have hle' : s.label.text.toList.isEmpty = true := by rw [tl_empty]; simp [hle]
  have HW := hwT0 w s Aw Ap cw cp
  have HSb := Kd (blk_new w (stO s (.slice Aw s.words.length cw) (.slice Ap s.proof.length cp)))
  clear hle hlc
  go_enter Tryz.func29, Tryz.ntmps29
  go_wp2_with ((go_at_call 76; go_must (refine (hap _ HW.out).mono ?_; rintro e2 W2 ⟨b, rfl, hf, hs⟩)))
  refine ⟨rfl, ?_⟩
  exact ⟨b, rfl, hf, (HW.out.trans hs).mono (by simp)⟩
 ·have hle' : s.label.text.toList.isEmpty = false := by rw [tl_empty]; simp [hle]
  rw [hlo] at hlc
  unfold UnitX at hlc
  dsimp only at hlc
  clear hle hlo
  go_enter Tryz.func29, Tryz.ntmps29
  go_wp2_with (first | (go_at_call 62; go_must (refine (hlc _ (Same.alloc [] _ _)).mono ?_; rintro e1 W1 ⟨rfl, hs1⟩; have hS1 := hs1.get (blk_new w (stO s (.slice Aw s.words.length cw) (.slice Ap s.proof.length cp))) (by simp); obtain ⟨s0, s1, s2, s3, s4, s5, s6, s7, s8, s9, s10, s11, s12, s13, s14, s15, sf⟩ := stO_cells hS1; have sl := blk_lt hS1; have hW1 := (Same.alloc [] w (stO s (.slice Aw s.words.length cw) (.slice Ap s.proof.length cp))).trans hs1; have l01 := hW1.cell l0 (by simp); have l11 := hW1.cell l1 (by simp); have n21 := hW1.cell n2 (by simp); have ll1 := Nat.lt_of_lt_of_le ll hW1.size; have nl1 := Nat.lt_of_lt_of_le nl hW1.size; have HSb := Kd hS1; have HW := Kd hW1; clear hs1 hS1 hW1)) | (go_at_call 76; go_must (refine (hap _ HW.out).mono ?_; rintro e2 W2 ⟨b, rfl, hf, hs⟩)))
  refine ⟨rfl, ?_⟩
  exact ⟨b, rfl, hf, (HW.out.trans hs).mono (by simp)⟩
theorem take_as6_part (w : World) (F : LF) (V : LV) (L : Ld) (s : St) (Aw Ap : Option Addr) (cw cp : Nat) (h : TakeH w F V L s Aw Ap cw cp) (hlx : s.label.text.size = 0 ∨ (s.label.text.size ≠ 0 ∧ L.label s.label = .ok ())) (hk : s.kind = 6) (v : List Int) (he : L.exprGo s.words [] = .ok v) (hwh : s.whole = false) :
  Calls Tryz.prog 29 #[.pointer (some ⟨F.l, 0, none⟩), stV s (.slice Aw s.words.length cw) (.slice Ap s.proof.length cp)] w (LdX F V (L.act s) w) := by
 have hlc := fun (W : World) (hW : Same [] w W) => llabel_calls W F V L (h.ld.same hW) s.label h.sin.label.max
 have H := Kd h
 have l0 := blk_c (i := 0) (v := .pointer (some ⟨F.nb, 0, none⟩)) h.ld.lb
 have l1 := blk_c (i := 1) (v := .pointer (some ⟨F.s, 0, none⟩)) h.ld.lb
 have ll := blk_lt h.ld.lb
 have n2 := blk_c (i := 2) (v := .pointer (some ⟨F.t, 0, none⟩)) h.ld.nbb
 have nl := blk_lt h.ld.nbb
 have hap := fun (W : World) (hW : Same [] w W) => expr_calls W F.l F.nb F.t F.s V.TA V.A (V.blocks F) L ((h.ld.lr h.ok.small).same hW) _ s.words (h.words.row.same hW (by simp)) (by have := h.sin.wl; omega)
 have hact : L.act s = .ok L := by unfold Ld.act; simp [hk, he, hwh]; rfl
 rw [hact]
 rw [he] at hap
 unfold IntsX at hap
 rw [whole_iff] at hwh
 clear hact he
 have kb8 : ((s.kind : Int) == 8) = false := by rw [hk]; rfl
 have kb9 : ((s.kind : Int) == 9) = false := by rw [hk]; rfl
 have kb1 : ((s.kind : Int) == 1) = false := by rw [hk]; rfl
 have kb2 : ((s.kind : Int) == 2) = false := by rw [hk]; rfl
 have kb5 : ((s.kind : Int) == 5) = false := by rw [hk]; rfl
 have kb3 : ((s.kind : Int) == 3) = false := by rw [hk]; rfl
 have kb4 : ((s.kind : Int) == 4) = false := by rw [hk]; rfl
 have kb6 : ((s.kind : Int) == 6) = true := by rw [hk]; rfl
 have kb7 : ((s.kind : Int) == 7) = false := by rw [hk]; rfl
 clear hk
 unfold stV
 unfold tkV at hlc
 clear h
 rcases hlx with hle | ⟨hle, hlo⟩
 ·have hle' : s.label.text.toList.isEmpty = true := by rw [tl_empty]; simp [hle]
  have HW := hwT0 w s Aw Ap cw cp
  have HSb := Kd (blk_new w (stO s (.slice Aw s.words.length cw) (.slice Ap s.proof.length cp)))
  clear hle hlc
  go_enter Tryz.func29, Tryz.ntmps29
  go_wp2_with ((go_at_call 76; go_must (refine (hap _ HW.out).mono ?_; rintro e2 W2 ⟨v2, rfl, hr2, hs2, hf2⟩; obtain ⟨A2, c2, rfl⟩ := hr2.shape; have hS2 := hs2.get HSb.out (by simp); obtain ⟨q0, q1, q2, q3, q4, q5, q6, q7, q8, q9, q10, q11, q12, q13, q14, q15, qf⟩ := stO_cells hS2; have ql := blk_lt hS2; have HW2 := Kd (HW.out.trans hs2); have Hf2 := Kd (FreshB.mono hf2 HW.out.size); have HS2 := Kd hS2; have Hr2 := Kd hr2; have l02 := HW2.out.cell l0 (by simp); have l12 := HW2.out.cell l1 (by simp); have ll2 := Nat.lt_of_lt_of_le ll HW2.out.size; clear hr2 hs2 hf2 hS2)))
  refine bodyPost_end (results_none rfl _ _ _) rfl ?_
  exact ⟨rfl, V, H.out.ld.same HW2.out, Move.of_same HW2.out⟩
 ·have hle' : s.label.text.toList.isEmpty = false := by rw [tl_empty]; simp [hle]
  rw [hlo] at hlc
  unfold UnitX at hlc
  dsimp only at hlc
  clear hle hlo
  go_enter Tryz.func29, Tryz.ntmps29
  go_wp2_with (first | (go_at_call 62; go_must (refine (hlc _ (Same.alloc [] _ _)).mono ?_; rintro e1 W1 ⟨rfl, hs1⟩; have hS1 := hs1.get (blk_new w (stO s (.slice Aw s.words.length cw) (.slice Ap s.proof.length cp))) (by simp); obtain ⟨s0, s1, s2, s3, s4, s5, s6, s7, s8, s9, s10, s11, s12, s13, s14, s15, sf⟩ := stO_cells hS1; have sl := blk_lt hS1; have hW1 := (Same.alloc [] w (stO s (.slice Aw s.words.length cw) (.slice Ap s.proof.length cp))).trans hs1; have l01 := hW1.cell l0 (by simp); have l11 := hW1.cell l1 (by simp); have n21 := hW1.cell n2 (by simp); have ll1 := Nat.lt_of_lt_of_le ll hW1.size; have nl1 := Nat.lt_of_lt_of_le nl hW1.size; have HSb := Kd hS1; have HW := Kd hW1; clear hs1 hS1 hW1)) | (go_at_call 76; go_must (refine (hap _ HW.out).mono ?_; rintro e2 W2 ⟨v2, rfl, hr2, hs2, hf2⟩; obtain ⟨A2, c2, rfl⟩ := hr2.shape; have hS2 := hs2.get HSb.out (by simp); obtain ⟨q0, q1, q2, q3, q4, q5, q6, q7, q8, q9, q10, q11, q12, q13, q14, q15, qf⟩ := stO_cells hS2; have ql := blk_lt hS2; have HW2 := Kd (HW.out.trans hs2); have Hf2 := Kd (FreshB.mono hf2 HW.out.size); have HS2 := Kd hS2; have Hr2 := Kd hr2; have l02 := HW2.out.cell l0 (by simp); have l12 := HW2.out.cell l1 (by simp); have ll2 := Nat.lt_of_lt_of_le ll HW2.out.size; clear hr2 hs2 hf2 hS2)))
  refine bodyPost_end (results_none rfl _ _ _) rfl ?_
  exact ⟨rfl, V, H.out.ld.same HW2.out, Move.of_same HW2.out⟩
theorem take_as7_bad (w : World) (F : LF) (V : LV) (L : Ld) (s : St) (Aw Ap : Option Addr) (cw cp : Nat) (h : TakeH w F V L s Aw Ap cw cp) (hlx : s.label.text.size = 0 ∨ (s.label.text.size ≠ 0 ∧ L.label s.label = .ok ())) (hk : s.kind = 7) (t : Tk) (n : Nat) (he : L.exprGo s.words [] = .error (t, n)) :
  Calls Tryz.prog 29 #[.pointer (some ⟨F.l, 0, none⟩), stV s (.slice Aw s.words.length cw) (.slice Ap s.proof.length cp)] w (LdX F V (L.act s) w) := by
 have hlc := fun (W : World) (hW : Same [] w W) => llabel_calls W F V L (h.ld.same hW) s.label h.sin.label.max
 have H := Kd h
 have l0 := blk_c (i := 0) (v := .pointer (some ⟨F.nb, 0, none⟩)) h.ld.lb
 have l1 := blk_c (i := 1) (v := .pointer (some ⟨F.s, 0, none⟩)) h.ld.lb
 have ll := blk_lt h.ld.lb
 have n2 := blk_c (i := 2) (v := .pointer (some ⟨F.t, 0, none⟩)) h.ld.nbb
 have nl := blk_lt h.ld.nbb
 have hap := fun (W : World) (hW : Same [] w W) => expr_calls W F.l F.nb F.t F.s V.TA V.A (V.blocks F) L ((h.ld.lr h.ok.small).same hW) _ s.words (h.words.row.same hW (by simp)) (by have := h.sin.wl; omega)
 have hact : L.act s = .error (t, n) := by unfold Ld.act; simp [hk, he]; rfl
 rw [hact]
 rw [he] at hap
 unfold IntsX at hap
 clear hact he
 have kb8 : ((s.kind : Int) == 8) = false := by rw [hk]; rfl
 have kb9 : ((s.kind : Int) == 9) = false := by rw [hk]; rfl
 have kb1 : ((s.kind : Int) == 1) = false := by rw [hk]; rfl
 have kb2 : ((s.kind : Int) == 2) = false := by rw [hk]; rfl
 have kb5 : ((s.kind : Int) == 5) = false := by rw [hk]; rfl
 have kb3 : ((s.kind : Int) == 3) = false := by rw [hk]; rfl
 have kb4 : ((s.kind : Int) == 4) = false := by rw [hk]; rfl
 have kb6 : ((s.kind : Int) == 6) = false := by rw [hk]; rfl
 have kb7 : ((s.kind : Int) == 7) = true := by rw [hk]; rfl
 clear hk
 unfold stV
 unfold tkV at hlc
 clear h
 rcases hlx with hle | ⟨hle, hlo⟩
 ·have hle' : s.label.text.toList.isEmpty = true := by rw [tl_empty]; simp [hle]
  have HW := hwT0 w s Aw Ap cw cp
  have HSb := Kd (blk_new w (stO s (.slice Aw s.words.length cw) (.slice Ap s.proof.length cp)))
  clear hle hlc
  go_enter Tryz.func29, Tryz.ntmps29
  go_wp2_with ((go_at_call 76; go_must (refine (hap _ HW.out).mono ?_; rintro e2 W2 ⟨b, rfl, hf, hs⟩)))
  refine ⟨rfl, ?_⟩
  exact ⟨b, rfl, hf, (HW.out.trans hs).mono (by simp)⟩
 ·have hle' : s.label.text.toList.isEmpty = false := by rw [tl_empty]; simp [hle]
  rw [hlo] at hlc
  unfold UnitX at hlc
  dsimp only at hlc
  clear hle hlo
  go_enter Tryz.func29, Tryz.ntmps29
  go_wp2_with (first | (go_at_call 62; go_must (refine (hlc _ (Same.alloc [] _ _)).mono ?_; rintro e1 W1 ⟨rfl, hs1⟩; have hS1 := hs1.get (blk_new w (stO s (.slice Aw s.words.length cw) (.slice Ap s.proof.length cp))) (by simp); obtain ⟨s0, s1, s2, s3, s4, s5, s6, s7, s8, s9, s10, s11, s12, s13, s14, s15, sf⟩ := stO_cells hS1; have sl := blk_lt hS1; have hW1 := (Same.alloc [] w (stO s (.slice Aw s.words.length cw) (.slice Ap s.proof.length cp))).trans hs1; have l01 := hW1.cell l0 (by simp); have l11 := hW1.cell l1 (by simp); have n21 := hW1.cell n2 (by simp); have ll1 := Nat.lt_of_lt_of_le ll hW1.size; have nl1 := Nat.lt_of_lt_of_le nl hW1.size; have HSb := Kd hS1; have HW := Kd hW1; clear hs1 hS1 hW1)) | (go_at_call 76; go_must (refine (hap _ HW.out).mono ?_; rintro e2 W2 ⟨b, rfl, hf, hs⟩)))
  refine ⟨rfl, ?_⟩
  exact ⟨b, rfl, hf, (HW.out.trans hs).mono (by simp)⟩
theorem take_as7_part (w : World) (F : LF) (V : LV) (L : Ld) (s : St) (Aw Ap : Option Addr) (cw cp : Nat) (h : TakeH w F V L s Aw Ap cw cp) (hlx : s.label.text.size = 0 ∨ (s.label.text.size ≠ 0 ∧ L.label s.label = .ok ())) (hk : s.kind = 7) (v : List Int) (he : L.exprGo s.words [] = .ok v) (hwh : s.whole = false) :
  Calls Tryz.prog 29 #[.pointer (some ⟨F.l, 0, none⟩), stV s (.slice Aw s.words.length cw) (.slice Ap s.proof.length cp)] w (LdX F V (L.act s) w) := by
 have hlc := fun (W : World) (hW : Same [] w W) => llabel_calls W F V L (h.ld.same hW) s.label h.sin.label.max
 have H := Kd h
 have l0 := blk_c (i := 0) (v := .pointer (some ⟨F.nb, 0, none⟩)) h.ld.lb
 have l1 := blk_c (i := 1) (v := .pointer (some ⟨F.s, 0, none⟩)) h.ld.lb
 have ll := blk_lt h.ld.lb
 have n2 := blk_c (i := 2) (v := .pointer (some ⟨F.t, 0, none⟩)) h.ld.nbb
 have nl := blk_lt h.ld.nbb
 have hap := fun (W : World) (hW : Same [] w W) => expr_calls W F.l F.nb F.t F.s V.TA V.A (V.blocks F) L ((h.ld.lr h.ok.small).same hW) _ s.words (h.words.row.same hW (by simp)) (by have := h.sin.wl; omega)
 have hact : L.act s = .ok L := by unfold Ld.act; simp [hk, he, hwh]; rfl
 rw [hact]
 rw [he] at hap
 unfold IntsX at hap
 rw [whole_iff] at hwh
 clear hact he
 have kb8 : ((s.kind : Int) == 8) = false := by rw [hk]; rfl
 have kb9 : ((s.kind : Int) == 9) = false := by rw [hk]; rfl
 have kb1 : ((s.kind : Int) == 1) = false := by rw [hk]; rfl
 have kb2 : ((s.kind : Int) == 2) = false := by rw [hk]; rfl
 have kb5 : ((s.kind : Int) == 5) = false := by rw [hk]; rfl
 have kb3 : ((s.kind : Int) == 3) = false := by rw [hk]; rfl
 have kb4 : ((s.kind : Int) == 4) = false := by rw [hk]; rfl
 have kb6 : ((s.kind : Int) == 6) = false := by rw [hk]; rfl
 have kb7 : ((s.kind : Int) == 7) = true := by rw [hk]; rfl
 clear hk
 unfold stV
 unfold tkV at hlc
 clear h
 rcases hlx with hle | ⟨hle, hlo⟩
 ·have hle' : s.label.text.toList.isEmpty = true := by rw [tl_empty]; simp [hle]
  have HW := hwT0 w s Aw Ap cw cp
  have HSb := Kd (blk_new w (stO s (.slice Aw s.words.length cw) (.slice Ap s.proof.length cp)))
  clear hle hlc
  go_enter Tryz.func29, Tryz.ntmps29
  go_wp2_with ((go_at_call 76; go_must (refine (hap _ HW.out).mono ?_; rintro e2 W2 ⟨v2, rfl, hr2, hs2, hf2⟩; obtain ⟨A2, c2, rfl⟩ := hr2.shape; have hS2 := hs2.get HSb.out (by simp); obtain ⟨q0, q1, q2, q3, q4, q5, q6, q7, q8, q9, q10, q11, q12, q13, q14, q15, qf⟩ := stO_cells hS2; have ql := blk_lt hS2; have HW2 := Kd (HW.out.trans hs2); have Hf2 := Kd (FreshB.mono hf2 HW.out.size); have HS2 := Kd hS2; have Hr2 := Kd hr2; have l02 := HW2.out.cell l0 (by simp); have l12 := HW2.out.cell l1 (by simp); have ll2 := Nat.lt_of_lt_of_le ll HW2.out.size; clear hr2 hs2 hf2 hS2)))
  refine bodyPost_end (results_none rfl _ _ _) rfl ?_
  exact ⟨rfl, V, H.out.ld.same HW2.out, Move.of_same HW2.out⟩
 ·have hle' : s.label.text.toList.isEmpty = false := by rw [tl_empty]; simp [hle]
  rw [hlo] at hlc
  unfold UnitX at hlc
  dsimp only at hlc
  clear hle hlo
  go_enter Tryz.func29, Tryz.ntmps29
  go_wp2_with (first | (go_at_call 62; go_must (refine (hlc _ (Same.alloc [] _ _)).mono ?_; rintro e1 W1 ⟨rfl, hs1⟩; have hS1 := hs1.get (blk_new w (stO s (.slice Aw s.words.length cw) (.slice Ap s.proof.length cp))) (by simp); obtain ⟨s0, s1, s2, s3, s4, s5, s6, s7, s8, s9, s10, s11, s12, s13, s14, s15, sf⟩ := stO_cells hS1; have sl := blk_lt hS1; have hW1 := (Same.alloc [] w (stO s (.slice Aw s.words.length cw) (.slice Ap s.proof.length cp))).trans hs1; have l01 := hW1.cell l0 (by simp); have l11 := hW1.cell l1 (by simp); have n21 := hW1.cell n2 (by simp); have ll1 := Nat.lt_of_lt_of_le ll hW1.size; have nl1 := Nat.lt_of_lt_of_le nl hW1.size; have HSb := Kd hS1; have HW := Kd hW1; clear hs1 hS1 hW1)) | (go_at_call 76; go_must (refine (hap _ HW.out).mono ?_; rintro e2 W2 ⟨v2, rfl, hr2, hs2, hf2⟩; obtain ⟨A2, c2, rfl⟩ := hr2.shape; have hS2 := hs2.get HSb.out (by simp); obtain ⟨q0, q1, q2, q3, q4, q5, q6, q7, q8, q9, q10, q11, q12, q13, q14, q15, qf⟩ := stO_cells hS2; have ql := blk_lt hS2; have HW2 := Kd (HW.out.trans hs2); have Hf2 := Kd (FreshB.mono hf2 HW.out.size); have HS2 := Kd hS2; have Hr2 := Kd hr2; have l02 := HW2.out.cell l0 (by simp); have l12 := HW2.out.cell l1 (by simp); have ll2 := Nat.lt_of_lt_of_le ll HW2.out.size; clear hr2 hs2 hf2 hS2)))
  refine bodyPost_end (results_none rfl _ _ _) rfl ?_
  exact ⟨rfl, V, H.out.ld.same HW2.out, Move.of_same HW2.out⟩
end Go.Proofs.YtdhkmfpfbjcdiaaGreatDoor
