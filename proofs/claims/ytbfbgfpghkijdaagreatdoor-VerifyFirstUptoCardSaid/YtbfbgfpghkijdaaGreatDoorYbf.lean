/- lemmalaw texts, part 32. -/
import Derived.Test.YtbfbgfpghkijdaaGreatDoorYbd
import Derived.Test.YtbfbgfpghkijdaaGreatDoorYbe
set_option maxRecDepth 100000
set_option linter.unusedVariables false
set_option linter.unusedSimpArgs false
set_option maxHeartbeats 32000000
namespace Go.Proofs.YtbfbgfpghkijdaaGreatDoor
open Go.RowKit
theorem B0 (s : St) : s.whole = !s.end_.text.toList.isEmpty := by
 unfold St.whole
 rw [AM]
 by_cases h : s.end_.text.size = 0 <;> simp [h]
theorem IR (L : Ld) : ∀ (ws : List Tk) (v : List Int) (ps : List Pr) (r : List Int), L.apartGo ws v ps = .ok r → r.length = v.length + ws.length
 | [], v, ps, r, h => by rw [Ld.apartGo] at h; cases h; simp
 | x :: ws, v, ps, r, h => by
  rw [Ld.apartGo] at h
  obtain ⟨n, -, h⟩ := AO h
  split at h
  ·cases h
  ·dsimp only at h
   split at h
   ·cases h
   ·have := IR L ws _ _ r h
    simp at this ⊢
    omega
theorem KF (w : World) (F : LF) (V : LV) (L : Ld) (s : St) (Aw Ap : Option Addr) (cw cp : Nat) (h : Ca w F V L s Aw Ap cw cp) (hlx : s.label.text.size = 0 ∨ (s.label.text.size ≠ 0 ∧ L.label s.label = .ok ())) (hk : s.kind = 5) (t : Tk) (n : Nat) (he : L.apart s.words = .error (t, n)) :
  Calls Tryz.prog 32 #[.pointer (some ⟨F.l, 0, none⟩), stV s (.slice Aw s.words.length cw) (.slice Ap s.proof.length cp)] w (LdX F V (L.act s) w) := by
 have hlc := fun (W : World) (hW : Ad [] w W) => AX W F V L (h.ld.same hW) s.label h.sin.label.max
 have H := Kd h
 have l0 := Ai (i := 0) (v := .pointer (some ⟨F.nb, 0, none⟩)) h.ld.lb
 have l1 := Ai (i := 1) (v := .pointer (some ⟨F.s, 0, none⟩)) h.ld.lb
 have ll := Af h.ld.lb
 have n2 := Ai (i := 2) (v := .pointer (some ⟨F.t, 0, none⟩)) h.ld.nbb
 have nl := Af h.ld.nbb
 have hap := fun (W : World) (hW : Ad [] w W) => E9 W F.l F.nb F.t F.s V.TA V.A (V.blocks F) L ((h.ld.lr h.ok.small).same hW) _ s.words (h.words.row.same hW (by simp)) (by have := h.sin.wl; omega)
 have hact : L.act s = .error (t, n) := by unfold Ld.act; simp [hk, he]; rfl
 rw [hact]
 rw [he] at hap
 unfold CV at hap
 clear hact he
 have kb8 : ((s.kind : Int) == 8) = false := by rw [hk]; rfl
 have kb9 : ((s.kind : Int) == 9) = false := by rw [hk]; rfl
 have kb1 : ((s.kind : Int) == 1) = false := by rw [hk]; rfl
 have kb2 : ((s.kind : Int) == 2) = false := by rw [hk]; rfl
 have kb5 : ((s.kind : Int) == 5) = true := by rw [hk]; rfl
 have kb3 : ((s.kind : Int) == 3) = false := by rw [hk]; rfl
 have kb4 : ((s.kind : Int) == 4) = false := by rw [hk]; rfl
 have kb6 : ((s.kind : Int) == 6) = false := by rw [hk]; rfl
 have kb7 : ((s.kind : Int) == 7) = false := by rw [hk]; rfl
 clear hk
 unfold stV
 unfold tkV at hlc
 clear h
 rcases hlx with hle | ⟨hle, hlo⟩
 ·have hle' : s.label.text.toList.isEmpty = true := by rw [AM]; simp [hle]
  have HW := DS w s Aw Ap cw cp
  have HSb := Kd (Aj w (stO s (.slice Aw s.words.length cw) (.slice Ap s.proof.length cp)))
  clear hle hlc
  go_enter Tryz.func32, Tryz.ntmps32
  go_wp2_with ((go_at_call 68; go_must (refine (hap _ HW.out).mono ?_; rintro e2 W2 ⟨b, rfl, hf, hs⟩)))
  exact zq35
 ·have hle' : s.label.text.toList.isEmpty = false := by rw [AM]; simp [hle]
  rw [hlo] at hlc
  unfold Cz at hlc
  dsimp only at hlc
  clear hle hlo
  go_enter Tryz.func32, Tryz.ntmps32
  go_wp2_with (first | (go_at_call 59; go_must (refine (hlc _ (Ad.alloc [] _ _)).mono ?_; rintro e1 W1 ⟨rfl, hs1⟩; have hS1 := hs1.get (Aj w (stO s (.slice Aw s.words.length cw) (.slice Ap s.proof.length cp))) (by simp); obtain ⟨s0, s1, s2, s3, s4, s5, s6, s7, s8, s9, s10, s11, s12, s13, s14, s15, sf⟩ := AF hS1; have sl := Af hS1; have hW1 := (Ad.alloc [] w (stO s (.slice Aw s.words.length cw) (.slice Ap s.proof.length cp))).trans hs1; have l01 := hW1.cell l0 (by simp); have l11 := hW1.cell l1 (by simp); have n21 := hW1.cell n2 (by simp); have ll1 := Nat.lt_of_lt_of_le ll hW1.size; have nl1 := Nat.lt_of_lt_of_le nl hW1.size; have HSb := Kd hS1; have HW := Kd hW1; clear hs1 hS1 hW1)) | (go_at_call 68; go_must (refine (hap _ HW.out).mono ?_; rintro e2 W2 ⟨b, rfl, hf, hs⟩)))
  exact zq35
theorem zq31 {P : Prop} (h : P := by
 refine bodyPost_end (results_none rfl _ _ _) rfl ?_
 exact ⟨rfl, V, H.out.ld.same HW2.out, AN.of_same HW2.out⟩) : P := h
theorem JA (w : World) (F : LF) (V : LV) (L : Ld) (s : St) (Aw Ap : Option Addr) (cw cp : Nat) (h : Ca w F V L s Aw Ap cw cp) (hlx : s.label.text.size = 0 ∨ (s.label.text.size ≠ 0 ∧ L.label s.label = .ok ())) (hk : s.kind = 5) (v : List Int) (he : L.apart s.words = .ok v) (hwh : s.whole = false) :
  Calls Tryz.prog 32 #[.pointer (some ⟨F.l, 0, none⟩), stV s (.slice Aw s.words.length cw) (.slice Ap s.proof.length cp)] w (LdX F V (L.act s) w) := by
 have hlc := fun (W : World) (hW : Ad [] w W) => AX W F V L (h.ld.same hW) s.label h.sin.label.max
 have H := Kd h
 have l0 := Ai (i := 0) (v := .pointer (some ⟨F.nb, 0, none⟩)) h.ld.lb
 have l1 := Ai (i := 1) (v := .pointer (some ⟨F.s, 0, none⟩)) h.ld.lb
 have ll := Af h.ld.lb
 have n2 := Ai (i := 2) (v := .pointer (some ⟨F.t, 0, none⟩)) h.ld.nbb
 have nl := Af h.ld.nbb
 have hap := fun (W : World) (hW : Ad [] w W) => E9 W F.l F.nb F.t F.s V.TA V.A (V.blocks F) L ((h.ld.lr h.ok.small).same hW) _ s.words (h.words.row.same hW (by simp)) (by have := h.sin.wl; omega)
 have hact : L.act s = .ok L := by unfold Ld.act; simp [hk, he, hwh]; rfl
 rw [hact]
 rw [he] at hap
 unfold CV at hap
 rw [B0] at hwh
 clear hact he
 have kb8 : ((s.kind : Int) == 8) = false := by rw [hk]; rfl
 have kb9 : ((s.kind : Int) == 9) = false := by rw [hk]; rfl
 have kb1 : ((s.kind : Int) == 1) = false := by rw [hk]; rfl
 have kb2 : ((s.kind : Int) == 2) = false := by rw [hk]; rfl
 have kb5 : ((s.kind : Int) == 5) = true := by rw [hk]; rfl
 have kb3 : ((s.kind : Int) == 3) = false := by rw [hk]; rfl
 have kb4 : ((s.kind : Int) == 4) = false := by rw [hk]; rfl
 have kb6 : ((s.kind : Int) == 6) = false := by rw [hk]; rfl
 have kb7 : ((s.kind : Int) == 7) = false := by rw [hk]; rfl
 clear hk
 unfold stV
 unfold tkV at hlc
 clear h
 rcases hlx with hle | ⟨hle, hlo⟩
 ·have hle' : s.label.text.toList.isEmpty = true := by rw [AM]; simp [hle]
  have HW := DS w s Aw Ap cw cp
  have HSb := Kd (Aj w (stO s (.slice Aw s.words.length cw) (.slice Ap s.proof.length cp)))
  clear hle hlc
  go_enter Tryz.func32, Tryz.ntmps32
  go_wp2_with ((go_at_call 68; go_must (refine (hap _ HW.out).mono ?_; rintro e2 W2 ⟨v2, rfl, hr2, hs2, hf2⟩; obtain ⟨A2, c2, rfl⟩ := hr2.shape; have hS2 := hs2.get HSb.out (by simp); obtain ⟨q0, q1, q2, q3, q4, q5, q6, q7, q8, q9, q10, q11, q12, q13, q14, q15, qf⟩ := AF hS2; have ql := Af hS2; have HW2 := Kd (HW.out.trans hs2); have HS2 := Kd hS2; have Hr2 := Kd hr2; have l02 := HW2.out.cell l0 (by simp); have l12 := HW2.out.cell l1 (by simp); have ll2 := Nat.lt_of_lt_of_le ll HW2.out.size; clear hr2 hs2 hf2 hS2)))
  exact zq31
 ·have hle' : s.label.text.toList.isEmpty = false := by rw [AM]; simp [hle]
  rw [hlo] at hlc
  unfold Cz at hlc
  dsimp only at hlc
  clear hle hlo
  go_enter Tryz.func32, Tryz.ntmps32
  go_wp2_with (first | (go_at_call 59; go_must (refine (hlc _ (Ad.alloc [] _ _)).mono ?_; rintro e1 W1 ⟨rfl, hs1⟩; have hS1 := hs1.get (Aj w (stO s (.slice Aw s.words.length cw) (.slice Ap s.proof.length cp))) (by simp); obtain ⟨s0, s1, s2, s3, s4, s5, s6, s7, s8, s9, s10, s11, s12, s13, s14, s15, sf⟩ := AF hS1; have sl := Af hS1; have hW1 := (Ad.alloc [] w (stO s (.slice Aw s.words.length cw) (.slice Ap s.proof.length cp))).trans hs1; have l01 := hW1.cell l0 (by simp); have l11 := hW1.cell l1 (by simp); have n21 := hW1.cell n2 (by simp); have ll1 := Nat.lt_of_lt_of_le ll hW1.size; have nl1 := Nat.lt_of_lt_of_le nl hW1.size; have HSb := Kd hS1; have HW := Kd hW1; clear hs1 hS1 hW1)) | (go_at_call 68; go_must (refine (hap _ HW.out).mono ?_; rintro e2 W2 ⟨v2, rfl, hr2, hs2, hf2⟩; obtain ⟨A2, c2, rfl⟩ := hr2.shape; have hS2 := hs2.get HSb.out (by simp); obtain ⟨q0, q1, q2, q3, q4, q5, q6, q7, q8, q9, q10, q11, q12, q13, q14, q15, qf⟩ := AF hS2; have ql := Af hS2; have HW2 := Kd (HW.out.trans hs2); have HS2 := Kd hS2; have Hr2 := Kd hr2; have l02 := HW2.out.cell l0 (by simp); have l12 := HW2.out.cell l1 (by simp); have ll2 := Nat.lt_of_lt_of_le ll HW2.out.size; clear hr2 hs2 hf2 hS2)))
  exact zq31
theorem zq21 {P : Prop} (h : P := by
 have hr2 := Hr2.out
 have hM := H.out.ld.lt
 have hdi := fun (W : World) (hW : Ad [] W2 W) => JX W F.s F.t V.A (V.blocks F) L.scs (H.out.ld.stk.same (HW2.out.trans hW)) H.out.ok.small (fun b hb => Nat.lt_of_lt_of_le (hM b hb) (HW2.out.trans hW).size) V.TA L.tbl (H.out.ld.tbl.same (HW2.out.trans hW) (by simp)) _ v (hr2.same hW (by simp)) Hvl.out
 have HM := Kd hM
 clear hr2 hM
 refine Bg (.read 0 (.read 1 (.read 2 (.read 3 (.read 4 (.read 5 (.read 6 (.one 7 [0, 1] (.one 8 [] (.done)))))))))) (by kernel_rfl) (by kernel_rfl) ?_
 iterate 7 (refine Bv rfl (fun K hK => ?_); go_simp; (try go_bits); (try (rw [if_pos (by omega)]; go_simp)); refine hK _ ?_; clear hK K)
 refine AY rfl ?_
 go_wp2_with (go_at_call 69; go_must (refine (hdi _ (Ad.drew [] _)).mono ?_; rintro e3 W3 ⟨rfl, hst3⟩))
 have hst3' := hst3.after (HW2.out.trans (Ad.drew [] W2))
 obtain ⟨A3, hL3, hmv3⟩ := H.out.ld.setStk hst3'
 have hS3 : W3.heap[w.heap.size]? = some (stO s (.slice Aw s.words.length cw) (.slice Ap s.proof.length cp)) := by
  obtain ⟨A', k1, k2, k3⟩ := hst3
  refine k2.get ((Ad.drew [] W2).get HS2.out (by simp)) (fun hm => ?_)
  have h1 := HM.out _ (LV.mem.2 (.inr (.inr (.inr (.inr (.inr (.inr (.inr hm))))))))
  omega
 obtain ⟨z0, z1, z2, z3, z4, z5, z6, z7, z8, z9, z10, z11, z12, z13, z14, z15, zf⟩ := AF hS3
 have zl := Af hS3
 have Mv3 := Kd hmv3
 have HL3 := Kd hL3
 clear hst3 hst3' hL3 hmv3 hS3
 refine EP.A ?_
 refine AY rfl ?_
 by_cases hz : (Cj L.tbl.isVar L.scs v).1 = 0
 ·have hres : L.act s = .ok { L with scs := (Cj L.tbl.isVar L.scs v).2 } := by rw [Hact.out]; unfold Bl; rw [if_pos hz]; rfl
  have HR := Kd hres
  clear hres
  have HZ := Kd hz
  clear hz
  go_wp2_with (go_at_call 60; go_must (refine (hnok _ _ HZ.out).mono ?_; rintro e4 W4 ⟨rfl, hs4⟩))
  have hL4 := HL3.out.same hs4
  have Mv4 := Kd (Mv3.out.trans (AN.of_same hs4))
  clear hs4
  refine EP.A ?_
  refine Bz ?_
  go_wp2
  refine bodyPost_end (results_none rfl _ _ _) rfl ?_
  show LdX F V (L.act s) w _ _
  rw [HR.out]
  exact ⟨rfl, _, hL4, Mv4.out⟩
 ·have hres : L.act s = .error (s.end_, (Cj L.tbl.isVar L.scs v).1) := by rw [Hact.out]; unfold Bl; rw [if_neg hz]; rfl
  have HR := Kd hres
  clear hres
  have HZ := Kd hz
  clear hz
  go_wp2_with (go_at_call 60; go_must (refine (hnbad _ _ HZ.out).mono ?_; rintro e4 W4 ⟨b, rfl, hf, hs4⟩))
  refine ⟨rfl, fun a' ha' => ⟨ha', ?_⟩⟩
  show LdX F V (L.act s) w _ _
  rw [HR.out]
  exact ⟨b, rfl, hf, Mv3.out.same.then (hs4.mono (T := V.blocks F) (by simp)) fun _ hx => .inl hx⟩) : P := h
theorem O2 (w : World) (F : LF) (V : LV) (L : Ld) (s : St) (Aw Ap : Option Addr) (cw cp : Nat) (h : Ca w F V L s Aw Ap cw cp) (hlx : s.label.text.size = 0 ∨ (s.label.text.size ≠ 0 ∧ L.label s.label = .ok ())) (hk : s.kind = 5) (v : List Int) (he : L.apart s.words = .ok v) (hwh : s.whole = true) :
  Calls Tryz.prog 32 #[.pointer (some ⟨F.l, 0, none⟩), stV s (.slice Aw s.words.length cw) (.slice Ap s.proof.length cp)] w (LdX F V (L.act s) w) := by
 have hlc := fun (W : World) (hW : Ad [] w W) => AX W F V L (h.ld.same hW) s.label h.sin.label.max
 have H := Kd h
 have l0 := Ai (i := 0) (v := .pointer (some ⟨F.nb, 0, none⟩)) h.ld.lb
 have l1 := Ai (i := 1) (v := .pointer (some ⟨F.s, 0, none⟩)) h.ld.lb
 have ll := Af h.ld.lb
 have n2 := Ai (i := 2) (v := .pointer (some ⟨F.t, 0, none⟩)) h.ld.nbb
 have nl := Af h.ld.nbb
 have hap := fun (W : World) (hW : Ad [] w W) => E9 W F.l F.nb F.t F.s V.TA V.A (V.blocks F) L ((h.ld.lr h.ok.small).same hW) _ s.words (h.words.row.same hW (by simp)) (by have := h.sin.wl; omega)
 have hact : L.act s = (Bl s.end_ (Cj L.tbl.isVar L.scs v).1).bind fun _ => .ok { L with scs := (Cj L.tbl.isVar L.scs v).2 } := by unfold Ld.act; simp [hk, he, hwh]; rfl
 have Hact := Kd hact
 have hvl : v.length ≤ 1000000 := by
  have h1 := IR L s.words [] _ v he
  have h2 := h.sin.wl
  simp at h1
  omega
 have Hvl := Kd hvl
 have hnok := fun W n hn => C6 W s.end_ n hn
 have hnbad := fun W n hn => CI W s.end_ n hn
 unfold tkV at hnok hnbad
 rw [he] at hap
 unfold CV at hap
 rw [B0] at hwh
 clear hact he hvl
 have kb8 : ((s.kind : Int) == 8) = false := by rw [hk]; rfl
 have kb9 : ((s.kind : Int) == 9) = false := by rw [hk]; rfl
 have kb1 : ((s.kind : Int) == 1) = false := by rw [hk]; rfl
 have kb2 : ((s.kind : Int) == 2) = false := by rw [hk]; rfl
 have kb5 : ((s.kind : Int) == 5) = true := by rw [hk]; rfl
 have kb3 : ((s.kind : Int) == 3) = false := by rw [hk]; rfl
 have kb4 : ((s.kind : Int) == 4) = false := by rw [hk]; rfl
 have kb6 : ((s.kind : Int) == 6) = false := by rw [hk]; rfl
 have kb7 : ((s.kind : Int) == 7) = false := by rw [hk]; rfl
 clear hk
 unfold stV
 unfold tkV at hlc
 clear h
 rcases hlx with hle | ⟨hle, hlo⟩
 ·have hle' : s.label.text.toList.isEmpty = true := by rw [AM]; simp [hle]
  have HW := DS w s Aw Ap cw cp
  have HSb := Kd (Aj w (stO s (.slice Aw s.words.length cw) (.slice Ap s.proof.length cp)))
  clear hle hlc
  go_enter Tryz.func32, Tryz.ntmps32
  go_wp2_with ((go_at_call 68; go_must (refine (hap _ HW.out).mono ?_; rintro e2 W2 ⟨v2, rfl, hr2, hs2, hf2⟩; obtain ⟨A2, c2, rfl⟩ := hr2.shape; have hS2 := hs2.get HSb.out (by simp); obtain ⟨q0, q1, q2, q3, q4, q5, q6, q7, q8, q9, q10, q11, q12, q13, q14, q15, qf⟩ := AF hS2; have ql := Af hS2; have HW2 := Kd (HW.out.trans hs2); have HS2 := Kd hS2; have Hr2 := Kd hr2; have l02 := HW2.out.cell l0 (by simp); have l12 := HW2.out.cell l1 (by simp); have ll2 := Nat.lt_of_lt_of_le ll HW2.out.size; clear hr2 hs2 hf2 hS2)))
  exact zq21
 ·have hle' : s.label.text.toList.isEmpty = false := by rw [AM]; simp [hle]
  rw [hlo] at hlc
  unfold Cz at hlc
  dsimp only at hlc
  clear hle hlo
  go_enter Tryz.func32, Tryz.ntmps32
  go_wp2_with (first | (go_at_call 59; go_must (refine (hlc _ (Ad.alloc [] _ _)).mono ?_; rintro e1 W1 ⟨rfl, hs1⟩; have hS1 := hs1.get (Aj w (stO s (.slice Aw s.words.length cw) (.slice Ap s.proof.length cp))) (by simp); obtain ⟨s0, s1, s2, s3, s4, s5, s6, s7, s8, s9, s10, s11, s12, s13, s14, s15, sf⟩ := AF hS1; have sl := Af hS1; have hW1 := (Ad.alloc [] w (stO s (.slice Aw s.words.length cw) (.slice Ap s.proof.length cp))).trans hs1; have l01 := hW1.cell l0 (by simp); have l11 := hW1.cell l1 (by simp); have n21 := hW1.cell n2 (by simp); have ll1 := Nat.lt_of_lt_of_le ll hW1.size; have nl1 := Nat.lt_of_lt_of_le nl hW1.size; have HSb := Kd hS1; have HW := Kd hW1; clear hs1 hS1 hW1)) | (go_at_call 68; go_must (refine (hap _ HW.out).mono ?_; rintro e2 W2 ⟨v2, rfl, hr2, hs2, hf2⟩; obtain ⟨A2, c2, rfl⟩ := hr2.shape; have hS2 := hs2.get HSb.out (by simp); obtain ⟨q0, q1, q2, q3, q4, q5, q6, q7, q8, q9, q10, q11, q12, q13, q14, q15, qf⟩ := AF hS2; have ql := Af hS2; have HW2 := Kd (HW.out.trans hs2); have HS2 := Kd hS2; have Hr2 := Kd hr2; have l02 := HW2.out.cell l0 (by simp); have l12 := HW2.out.cell l1 (by simp); have ll2 := Nat.lt_of_lt_of_le ll HW2.out.size; clear hr2 hs2 hf2 hS2)))
  exact zq21
end Go.Proofs.YtbfbgfpghkijdaaGreatDoor
