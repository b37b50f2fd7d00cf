/- lemmalaw texts, part 34. -/
import Derived.Test.YtbfbgfpghkijdaaGreatDoorYbf
set_option maxRecDepth 100000
set_option linter.unusedVariables false
set_option linter.unusedSimpArgs false
set_option maxHeartbeats 32000000
namespace Go.Proofs.YtbfbgfpghkijdaaGreatDoor
open Go.RowKit
theorem zq16 {P : Prop} (h : P := by
 clear hk
 unfold stV
 unfold tkV at hlc
 clear h
 rcases hlx with hle | ⟨hle, hlo⟩
 ·have hle' : s.label.text.toList.isEmpty = true := by rw [AM]; simp [hle]
  have HW := DS w s Aw Ap cw cp
  have HSb := Kd (Aj w (stO s (.slice Aw s.words.length cw) (.slice Ap s.proof.length cp)))
  clear hle hlc
  go_enter Tryz.func32, Tryz.ntmps32
  go_wp2_with (first | (go_at_call 73; go_must (refine (hap _ HW.out).mono ?_; rintro e2 W2 ⟨v2, rfl, hr2, hs2, hf2⟩; obtain ⟨A2, c2, rfl⟩ := hr2.shape; have hS2 := hs2.get HSb.out (by simp); obtain ⟨q0, q1, q2, q3, q4, q5, q6, q7, q8, q9, q10, q11, q12, q13, q14, q15, qf⟩ := AF hS2; have ql := Af hS2; have HW2 := Kd (HW.out.trans hs2); have Hf2 := Kd (AH.mono hf2 HW.out.size); have HS2 := Kd hS2; have Hr2 := Kd hr2; have l02 := HW2.out.cell l0 (by simp); have l12 := HW2.out.cell l1 (by simp); have ll2 := Nat.lt_of_lt_of_le ll HW2.out.size; clear hr2 hs2 hf2 hS2)) | (go_at_call 75; go_must (refine (has _ HW2.out _ Hr2.out).mono ?_; rintro e3 W3 ⟨b, rfl, hf, hs⟩)))
  refine ⟨rfl, ?_⟩
  exact E7.after ⟨b, rfl, hf, hs⟩ (AN.of_same HW2.out)
 ·have hle' : s.label.text.toList.isEmpty = false := by rw [AM]; simp [hle]
  rw [hlo] at hlc
  unfold Cz at hlc
  dsimp only at hlc
  clear hle hlo
  go_enter Tryz.func32, Tryz.ntmps32
  go_wp2_with (first | (go_at_call 59; go_must (refine (hlc _ (Ad.alloc [] _ _)).mono ?_; rintro e1 W1 ⟨rfl, hs1⟩; have hS1 := hs1.get (Aj w (stO s (.slice Aw s.words.length cw) (.slice Ap s.proof.length cp))) (by simp); obtain ⟨s0, s1, s2, s3, s4, s5, s6, s7, s8, s9, s10, s11, s12, s13, s14, s15, sf⟩ := AF hS1; have sl := Af hS1; have hW1 := (Ad.alloc [] w (stO s (.slice Aw s.words.length cw) (.slice Ap s.proof.length cp))).trans hs1; have l01 := hW1.cell l0 (by simp); have l11 := hW1.cell l1 (by simp); have n21 := hW1.cell n2 (by simp); have ll1 := Nat.lt_of_lt_of_le ll hW1.size; have nl1 := Nat.lt_of_lt_of_le nl hW1.size; have HSb := Kd hS1; have HW := Kd hW1; clear hs1 hS1 hW1)) | (go_at_call 73; go_must (refine (hap _ HW.out).mono ?_; rintro e2 W2 ⟨v2, rfl, hr2, hs2, hf2⟩; obtain ⟨A2, c2, rfl⟩ := hr2.shape; have hS2 := hs2.get HSb.out (by simp); obtain ⟨q0, q1, q2, q3, q4, q5, q6, q7, q8, q9, q10, q11, q12, q13, q14, q15, qf⟩ := AF hS2; have ql := Af hS2; have HW2 := Kd (HW.out.trans hs2); have Hf2 := Kd (AH.mono hf2 HW.out.size); have HS2 := Kd hS2; have Hr2 := Kd hr2; have l02 := HW2.out.cell l0 (by simp); have l12 := HW2.out.cell l1 (by simp); have ll2 := Nat.lt_of_lt_of_le ll HW2.out.size; clear hr2 hs2 hf2 hS2)) | (go_at_call 75; go_must (refine (has _ HW2.out _ Hr2.out).mono ?_; rintro e3 W3 ⟨b, rfl, hf, hs⟩)))
  refine ⟨rfl, ?_⟩
  exact E7.after ⟨b, rfl, hf, hs⟩ (AN.of_same HW2.out)) : P := h
theorem LX (w : World) (F : LF) (V : LV) (L : Ld) (s : St) (Aw Ap : Option Addr) (cw cp : Nat) (h : Ca w F V L s Aw Ap cw cp) (hlx : s.label.text.size = 0 ∨ (s.label.text.size ≠ 0 ∧ L.label s.label = .ok ())) (hk : s.kind = 6) (v : List Int) (he : L.exprGo s.words [] = .ok v) (hwh : s.whole = true) (t : Tk) (n : Nat) (hx : L.assert s v = .error (t, n)) :
  Calls Tryz.prog 32 #[.pointer (some ⟨F.l, 0, none⟩), stV s (.slice Aw s.words.length cw) (.slice Ap s.proof.length cp)] w (LdX F V (L.act s) w) := by
 have hlc := fun (W : World) (hW : Ad [] w W) => AX W F V L (h.ld.same hW) s.label h.sin.label.max
 have H := Kd h
 have l0 := Ai (i := 0) (v := .pointer (some ⟨F.nb, 0, none⟩)) h.ld.lb
 have l1 := Ai (i := 1) (v := .pointer (some ⟨F.s, 0, none⟩)) h.ld.lb
 have ll := Af h.ld.lb
 have n2 := Ai (i := 2) (v := .pointer (some ⟨F.t, 0, none⟩)) h.ld.nbb
 have nl := Af h.ld.nbb
 have hap := fun (W : World) (hW : Ad [] w W) => B6 W F.l F.nb F.t F.s V.TA V.A (V.blocks F) L ((h.ld.lr h.ok.small).same hW) _ s.words (h.words.row.same hW (by simp)) (by have := h.sin.wl; omega)
 have hact : L.act s = L.assert s v := by unfold Ld.act; simp [hk, he, hwh]; rfl
 rw [hact, hx]
 have hvl := Cs L s.words [] v (by simp) he
 have Hvl := Kd hvl
 rw [he] at hap
 unfold CV at hap
 rw [B0] at hwh
 have has := fun (W : World) (hW : Ad [] w W) (ev : Value) (hv : Row W 3 1 ev v.length (Ay v)) => DC W F V L (h.ld.same hW) h.ok s Aw Ap s.words.length cw cp h.sin.label.max (h.proof.move (AN.of_same hW)) v ev hv hvl
 rw [hx] at has
 unfold stV LdX at has
 dsimp only at has
 clear hact he hvl hx
 have kb8 : ((s.kind : Int) == 8) = false := by rw [hk]; rfl
 have kb9 : ((s.kind : Int) == 9) = false := by rw [hk]; rfl
 have kb1 : ((s.kind : Int) == 1) = false := by rw [hk]; rfl
 have kb2 : ((s.kind : Int) == 2) = false := by rw [hk]; rfl
 have kb5 : ((s.kind : Int) == 5) = false := by rw [hk]; rfl
 have kb3 : ((s.kind : Int) == 3) = false := by rw [hk]; rfl
 have kb4 : ((s.kind : Int) == 4) = false := by rw [hk]; rfl
 have kb6 : ((s.kind : Int) == 6) = true := by rw [hk]; rfl
 have kb7 : ((s.kind : Int) == 7) = false := by rw [hk]; rfl
 exact zq16
theorem zq13 {P : Prop} (h : P := by
 clear hk
 unfold stV
 unfold tkV at hlc
 clear h
 rcases hlx with hle | ⟨hle, hlo⟩
 ·have hle' : s.label.text.toList.isEmpty = true := by rw [AM]; simp [hle]
  have HW := DS w s Aw Ap cw cp
  have HSb := Kd (Aj w (stO s (.slice Aw s.words.length cw) (.slice Ap s.proof.length cp)))
  clear hle hlc
  go_enter Tryz.func32, Tryz.ntmps32
  go_wp2_with (first | (go_at_call 73; go_must (refine (hap _ HW.out).mono ?_; rintro e2 W2 ⟨v2, rfl, hr2, hs2, hf2⟩; obtain ⟨A2, c2, rfl⟩ := hr2.shape; have hS2 := hs2.get HSb.out (by simp); obtain ⟨q0, q1, q2, q3, q4, q5, q6, q7, q8, q9, q10, q11, q12, q13, q14, q15, qf⟩ := AF hS2; have ql := Af hS2; have HW2 := Kd (HW.out.trans hs2); have Hf2 := Kd (AH.mono hf2 HW.out.size); have HS2 := Kd hS2; have Hr2 := Kd hr2; have l02 := HW2.out.cell l0 (by simp); have l12 := HW2.out.cell l1 (by simp); have ll2 := Nat.lt_of_lt_of_le ll HW2.out.size; clear hr2 hs2 hf2 hS2)) | (go_at_call 75; go_must (refine (has _ HW2.out _ Hr2.out).mono ?_; rintro e3 W3 ⟨rfl, V3, hL3, hmv3⟩)))
  refine bodyPost_end (results_none rfl _ _ _) rfl ?_
  exact ⟨rfl, V3, hL3, (AN.of_same HW2.out).trans hmv3⟩
 ·have hle' : s.label.text.toList.isEmpty = false := by rw [AM]; simp [hle]
  rw [hlo] at hlc
  unfold Cz at hlc
  dsimp only at hlc
  clear hle hlo
  go_enter Tryz.func32, Tryz.ntmps32
  go_wp2_with (first | (go_at_call 59; go_must (refine (hlc _ (Ad.alloc [] _ _)).mono ?_; rintro e1 W1 ⟨rfl, hs1⟩; have hS1 := hs1.get (Aj w (stO s (.slice Aw s.words.length cw) (.slice Ap s.proof.length cp))) (by simp); obtain ⟨s0, s1, s2, s3, s4, s5, s6, s7, s8, s9, s10, s11, s12, s13, s14, s15, sf⟩ := AF hS1; have sl := Af hS1; have hW1 := (Ad.alloc [] w (stO s (.slice Aw s.words.length cw) (.slice Ap s.proof.length cp))).trans hs1; have l01 := hW1.cell l0 (by simp); have l11 := hW1.cell l1 (by simp); have n21 := hW1.cell n2 (by simp); have ll1 := Nat.lt_of_lt_of_le ll hW1.size; have nl1 := Nat.lt_of_lt_of_le nl hW1.size; have HSb := Kd hS1; have HW := Kd hW1; clear hs1 hS1 hW1)) | (go_at_call 73; go_must (refine (hap _ HW.out).mono ?_; rintro e2 W2 ⟨v2, rfl, hr2, hs2, hf2⟩; obtain ⟨A2, c2, rfl⟩ := hr2.shape; have hS2 := hs2.get HSb.out (by simp); obtain ⟨q0, q1, q2, q3, q4, q5, q6, q7, q8, q9, q10, q11, q12, q13, q14, q15, qf⟩ := AF hS2; have ql := Af hS2; have HW2 := Kd (HW.out.trans hs2); have Hf2 := Kd (AH.mono hf2 HW.out.size); have HS2 := Kd hS2; have Hr2 := Kd hr2; have l02 := HW2.out.cell l0 (by simp); have l12 := HW2.out.cell l1 (by simp); have ll2 := Nat.lt_of_lt_of_le ll HW2.out.size; clear hr2 hs2 hf2 hS2)) | (go_at_call 75; go_must (refine (has _ HW2.out _ Hr2.out).mono ?_; rintro e3 W3 ⟨rfl, V3, hL3, hmv3⟩)))
  refine bodyPost_end (results_none rfl _ _ _) rfl ?_
  exact ⟨rfl, V3, hL3, (AN.of_same HW2.out).trans hmv3⟩) : P := h
theorem ME (w : World) (F : LF) (V : LV) (L : Ld) (s : St) (Aw Ap : Option Addr) (cw cp : Nat) (h : Ca w F V L s Aw Ap cw cp) (hlx : s.label.text.size = 0 ∨ (s.label.text.size ≠ 0 ∧ L.label s.label = .ok ())) (hk : s.kind = 6) (v : List Int) (he : L.exprGo s.words [] = .ok v) (hwh : s.whole = true) (L' : Ld) (hx : L.assert s v = .ok L') :
  Calls Tryz.prog 32 #[.pointer (some ⟨F.l, 0, none⟩), stV s (.slice Aw s.words.length cw) (.slice Ap s.proof.length cp)] w (LdX F V (L.act s) w) := by
 have hlc := fun (W : World) (hW : Ad [] w W) => AX W F V L (h.ld.same hW) s.label h.sin.label.max
 have H := Kd h
 have l0 := Ai (i := 0) (v := .pointer (some ⟨F.nb, 0, none⟩)) h.ld.lb
 have l1 := Ai (i := 1) (v := .pointer (some ⟨F.s, 0, none⟩)) h.ld.lb
 have ll := Af h.ld.lb
 have n2 := Ai (i := 2) (v := .pointer (some ⟨F.t, 0, none⟩)) h.ld.nbb
 have nl := Af h.ld.nbb
 have hap := fun (W : World) (hW : Ad [] w W) => B6 W F.l F.nb F.t F.s V.TA V.A (V.blocks F) L ((h.ld.lr h.ok.small).same hW) _ s.words (h.words.row.same hW (by simp)) (by have := h.sin.wl; omega)
 have hact : L.act s = L.assert s v := by unfold Ld.act; simp [hk, he, hwh]; rfl
 rw [hact, hx]
 have hvl := Cs L s.words [] v (by simp) he
 have Hvl := Kd hvl
 rw [he] at hap
 unfold CV at hap
 rw [B0] at hwh
 have has := fun (W : World) (hW : Ad [] w W) (ev : Value) (hv : Row W 3 1 ev v.length (Ay v)) => DC W F V L (h.ld.same hW) h.ok s Aw Ap s.words.length cw cp h.sin.label.max (h.proof.move (AN.of_same hW)) v ev hv hvl
 rw [hx] at has
 unfold stV LdX at has
 dsimp only at has
 clear hact he hvl hx
 have kb8 : ((s.kind : Int) == 8) = false := by rw [hk]; rfl
 have kb9 : ((s.kind : Int) == 9) = false := by rw [hk]; rfl
 have kb1 : ((s.kind : Int) == 1) = false := by rw [hk]; rfl
 have kb2 : ((s.kind : Int) == 2) = false := by rw [hk]; rfl
 have kb5 : ((s.kind : Int) == 5) = false := by rw [hk]; rfl
 have kb3 : ((s.kind : Int) == 3) = false := by rw [hk]; rfl
 have kb4 : ((s.kind : Int) == 4) = false := by rw [hk]; rfl
 have kb6 : ((s.kind : Int) == 6) = true := by rw [hk]; rfl
 have kb7 : ((s.kind : Int) == 7) = false := by rw [hk]; rfl
 exact zq13
theorem Lz (w : World) (F : LF) (V : LV) (L : Ld) (s : St) (Aw Ap : Option Addr) (cw cp : Nat) (h : Ca w F V L s Aw Ap cw cp) (hlx : s.label.text.size = 0 ∨ (s.label.text.size ≠ 0 ∧ L.label s.label = .ok ())) (hk : s.kind = 7) (v : List Int) (he : L.exprGo s.words [] = .ok v) (hwh : s.whole = true) (t : Tk) (n : Nat) (hx : L.assert s v = .error (t, n)) :
  Calls Tryz.prog 32 #[.pointer (some ⟨F.l, 0, none⟩), stV s (.slice Aw s.words.length cw) (.slice Ap s.proof.length cp)] w (LdX F V (L.act s) w) := by
 have hlc := fun (W : World) (hW : Ad [] w W) => AX W F V L (h.ld.same hW) s.label h.sin.label.max
 have H := Kd h
 have l0 := Ai (i := 0) (v := .pointer (some ⟨F.nb, 0, none⟩)) h.ld.lb
 have l1 := Ai (i := 1) (v := .pointer (some ⟨F.s, 0, none⟩)) h.ld.lb
 have ll := Af h.ld.lb
 have n2 := Ai (i := 2) (v := .pointer (some ⟨F.t, 0, none⟩)) h.ld.nbb
 have nl := Af h.ld.nbb
 have hap := fun (W : World) (hW : Ad [] w W) => B6 W F.l F.nb F.t F.s V.TA V.A (V.blocks F) L ((h.ld.lr h.ok.small).same hW) _ s.words (h.words.row.same hW (by simp)) (by have := h.sin.wl; omega)
 have hact : L.act s = L.assert s v := by unfold Ld.act; simp [hk, he, hwh]; rfl
 rw [hact, hx]
 have hvl := Cs L s.words [] v (by simp) he
 have Hvl := Kd hvl
 rw [he] at hap
 unfold CV at hap
 rw [B0] at hwh
 have has := fun (W : World) (hW : Ad [] w W) (ev : Value) (hv : Row W 3 1 ev v.length (Ay v)) => DC W F V L (h.ld.same hW) h.ok s Aw Ap s.words.length cw cp h.sin.label.max (h.proof.move (AN.of_same hW)) v ev hv hvl
 rw [hx] at has
 unfold stV LdX at has
 dsimp only at has
 clear hact he hvl hx
 have kb8 : ((s.kind : Int) == 8) = false := by rw [hk]; rfl
 have kb9 : ((s.kind : Int) == 9) = false := by rw [hk]; rfl
 have kb1 : ((s.kind : Int) == 1) = false := by rw [hk]; rfl
 have kb2 : ((s.kind : Int) == 2) = false := by rw [hk]; rfl
 have kb5 : ((s.kind : Int) == 5) = false := by rw [hk]; rfl
 have kb3 : ((s.kind : Int) == 3) = false := by rw [hk]; rfl
 have kb4 : ((s.kind : Int) == 4) = false := by rw [hk]; rfl
 have kb6 : ((s.kind : Int) == 6) = false := by rw [hk]; rfl
 have kb7 : ((s.kind : Int) == 7) = true := by rw [hk]; rfl
 exact zq16
theorem Mz (w : World) (F : LF) (V : LV) (L : Ld) (s : St) (Aw Ap : Option Addr) (cw cp : Nat) (h : Ca w F V L s Aw Ap cw cp) (hlx : s.label.text.size = 0 ∨ (s.label.text.size ≠ 0 ∧ L.label s.label = .ok ())) (hk : s.kind = 7) (v : List Int) (he : L.exprGo s.words [] = .ok v) (hwh : s.whole = true) (L' : Ld) (hx : L.assert s v = .ok L') :
  Calls Tryz.prog 32 #[.pointer (some ⟨F.l, 0, none⟩), stV s (.slice Aw s.words.length cw) (.slice Ap s.proof.length cp)] w (LdX F V (L.act s) w) := by
 have hlc := fun (W : World) (hW : Ad [] w W) => AX W F V L (h.ld.same hW) s.label h.sin.label.max
 have H := Kd h
 have l0 := Ai (i := 0) (v := .pointer (some ⟨F.nb, 0, none⟩)) h.ld.lb
 have l1 := Ai (i := 1) (v := .pointer (some ⟨F.s, 0, none⟩)) h.ld.lb
 have ll := Af h.ld.lb
 have n2 := Ai (i := 2) (v := .pointer (some ⟨F.t, 0, none⟩)) h.ld.nbb
 have nl := Af h.ld.nbb
 have hap := fun (W : World) (hW : Ad [] w W) => B6 W F.l F.nb F.t F.s V.TA V.A (V.blocks F) L ((h.ld.lr h.ok.small).same hW) _ s.words (h.words.row.same hW (by simp)) (by have := h.sin.wl; omega)
 have hact : L.act s = L.assert s v := by unfold Ld.act; simp [hk, he, hwh]; rfl
 rw [hact, hx]
 have hvl := Cs L s.words [] v (by simp) he
 have Hvl := Kd hvl
 rw [he] at hap
 unfold CV at hap
 rw [B0] at hwh
 have has := fun (W : World) (hW : Ad [] w W) (ev : Value) (hv : Row W 3 1 ev v.length (Ay v)) => DC W F V L (h.ld.same hW) h.ok s Aw Ap s.words.length cw cp h.sin.label.max (h.proof.move (AN.of_same hW)) v ev hv hvl
 rw [hx] at has
 unfold stV LdX at has
 dsimp only at has
 clear hact he hvl hx
 have kb8 : ((s.kind : Int) == 8) = false := by rw [hk]; rfl
 have kb9 : ((s.kind : Int) == 9) = false := by rw [hk]; rfl
 have kb1 : ((s.kind : Int) == 1) = false := by rw [hk]; rfl
 have kb2 : ((s.kind : Int) == 2) = false := by rw [hk]; rfl
 have kb5 : ((s.kind : Int) == 5) = false := by rw [hk]; rfl
 have kb3 : ((s.kind : Int) == 3) = false := by rw [hk]; rfl
 have kb4 : ((s.kind : Int) == 4) = false := by rw [hk]; rfl
 have kb6 : ((s.kind : Int) == 6) = false := by rw [hk]; rfl
 have kb7 : ((s.kind : Int) == 7) = true := by rw [hk]; rfl
 exact zq13
theorem zq109 {P : Prop} (h : P := by
 refine bodyPost_end (results_none rfl _ _ _) rfl ?_
 exact ⟨rfl, V, H.out.ld.same HW.out, AN.of_same HW.out⟩) : P := h
theorem Pb (w : World) (F : LF) (V : LV) (L : Ld) (s : St) (Aw Ap : Option Addr) (cw cp : Nat) (h : Ca w F V L s Aw Ap cw cp) (hlx : s.label.text.size = 0 ∨ (s.label.text.size ≠ 0 ∧ L.label s.label = .ok ())) (hk : s.kind = 0 ∨ 9 < s.kind) :
  Calls Tryz.prog 32 #[.pointer (some ⟨F.l, 0, none⟩), stV s (.slice Aw s.words.length cw) (.slice Ap s.proof.length cp)] w (LdX F V (L.act s) w) := by
 have hlc := fun (W : World) (hW : Ad [] w W) => AX W F V L (h.ld.same hW) s.label h.sin.label.max
 have H := Kd h
 have l0 := Ai (i := 0) (v := .pointer (some ⟨F.nb, 0, none⟩)) h.ld.lb
 have l1 := Ai (i := 1) (v := .pointer (some ⟨F.s, 0, none⟩)) h.ld.lb
 have ll := Af h.ld.lb
 have n2 := Ai (i := 2) (v := .pointer (some ⟨F.t, 0, none⟩)) h.ld.nbb
 have nl := Af h.ld.nbb
 have hact : L.act s = .ok L := by
  unfold Ld.act
  rw [if_neg (by omega), if_neg (by omega), if_neg (by omega), if_neg (by omega), if_neg (by omega), if_neg (by omega), if_neg (by omega), if_neg (by omega)]
 rw [hact]
 clear hact
 have kb8 : ((s.kind : Int) == 8) = false := by rw [beq_eq_false_iff_ne]; omega
 have kb9 : ((s.kind : Int) == 9) = false := by rw [beq_eq_false_iff_ne]; omega
 have kb1 : ((s.kind : Int) == 1) = false := by rw [beq_eq_false_iff_ne]; omega
 have kb2 : ((s.kind : Int) == 2) = false := by rw [beq_eq_false_iff_ne]; omega
 have kb5 : ((s.kind : Int) == 5) = false := by rw [beq_eq_false_iff_ne]; omega
 have kb3 : ((s.kind : Int) == 3) = false := by rw [beq_eq_false_iff_ne]; omega
 have kb4 : ((s.kind : Int) == 4) = false := by rw [beq_eq_false_iff_ne]; omega
 have kb6 : ((s.kind : Int) == 6) = false := by rw [beq_eq_false_iff_ne]; omega
 have kb7 : ((s.kind : Int) == 7) = false := by rw [beq_eq_false_iff_ne]; omega
 clear hk
 unfold stV
 unfold tkV at hlc
 clear h
 rcases hlx with hle | ⟨hle, hlo⟩
 ·have hle' : s.label.text.toList.isEmpty = true := by rw [AM]; simp [hle]
  have HW := DS w s Aw Ap cw cp
  have HSb := Kd (Aj w (stO s (.slice Aw s.words.length cw) (.slice Ap s.proof.length cp)))
  clear hle hlc
  go_enter Tryz.func32, Tryz.ntmps32
  go_wp2
  exact zq109
 ·have hle' : s.label.text.toList.isEmpty = false := by rw [AM]; simp [hle]
  rw [hlo] at hlc
  unfold Cz at hlc
  dsimp only at hlc
  clear hle hlo
  go_enter Tryz.func32, Tryz.ntmps32
  go_wp2_with ((go_at_call 59; go_must (refine (hlc _ (Ad.alloc [] _ _)).mono ?_; rintro e1 W1 ⟨rfl, hs1⟩; have hS1 := hs1.get (Aj w (stO s (.slice Aw s.words.length cw) (.slice Ap s.proof.length cp))) (by simp); obtain ⟨s0, s1, s2, s3, s4, s5, s6, s7, s8, s9, s10, s11, s12, s13, s14, s15, sf⟩ := AF hS1; have sl := Af hS1; have hW1 := (Ad.alloc [] w (stO s (.slice Aw s.words.length cw) (.slice Ap s.proof.length cp))).trans hs1; have l01 := hW1.cell l0 (by simp); have l11 := hW1.cell l1 (by simp); have n21 := hW1.cell n2 (by simp); have ll1 := Nat.lt_of_lt_of_le ll hW1.size; have nl1 := Nat.lt_of_lt_of_le nl hW1.size; have HSb := Kd hS1; have HW := Kd hW1; clear hs1 hS1 hW1)))
  exact zq109
end Go.Proofs.YtbfbgfpghkijdaaGreatDoor
