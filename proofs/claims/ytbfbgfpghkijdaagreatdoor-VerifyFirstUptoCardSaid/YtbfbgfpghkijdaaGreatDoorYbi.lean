/- lemmalaw texts, part 35. -/
import Derived.Test.YtbfbgfpghkijdaaGreatDoorYbf
set_option maxRecDepth 100000
set_option linter.unusedVariables false
set_option linter.unusedSimpArgs false
set_option maxHeartbeats 32000000
namespace Go.Proofs.YtbfbgfpghkijdaaGreatDoor
open Go.RowKit
theorem Jc {w : World} {v : Value} {a b : Int} (h : Row w 3 1 v [a, b].length (Ay [a, b])) : ∃ g c, v = .slice (some ⟨g, 0, none⟩) 2 c ∧ w.cell? ⟨g, 0, none⟩ = some (.int .i64 a) ∧ w.cell? ⟨g, 1, none⟩ = some (.int .i64 b) ∧ g < w.heap.size := by
 obtain ⟨g, c, hv, h0, hg⟩ := BS h (k := 0) (by simp)
 obtain ⟨g', c', hv', h1, -⟩ := BS h (k := 1) (by simp)
 rw [hv] at hv'
 cases hv'
 exact ⟨g, c, hv, h0, h1, hg⟩
theorem zq36 {P : Prop} (h : P := by
 refine Bg (.read 0 (.read 1 (.read 2 (.read 3 (.read 4 (.read 5 (.read 6 (.read 7 (.read 8 (.read 9 (.one 10 [] (.done)))))))))))) (by kernel_rfl) (by kernel_rfl) ?_
 iterate 10 (refine Bv rfl (fun K hK => ?_); go_simp; (try go_bits); (try (rw [if_pos (by omega)]; go_simp)); refine hK _ ?_; clear hK K)
 refine AY rfl ?_
 have hI : Ds W2.drew (V.blocks F) (.slice (some ⟨g2, 0, none⟩) 2 c2) [a, b] := ⟨Row.same (xs := Ay [a, b]) Hr2.out (Ad.drew [] W2) (by simp), B1 HM.out Hf2.out⟩
 have HI := Kd hI
 clear hI
 go_wp2_with (go_at_call 71; go_must (refine (hhy _ (HW2.out.trans (Ad.drew [] _)) _ HI.out).mono ?_; rintro e3 W3 ⟨b', rfl, hf, hs⟩))
 refine ⟨rfl, fun a' ha' => ⟨ha', ?_⟩⟩
 show LdX F V (L.act s) w _ _
 rw [HR.out]
 exact E7.after ⟨b', rfl, hf, hs⟩ (AN.of_same (HW2.out.trans (Ad.drew [] _)))) : P := h
theorem zq87 {P : Prop} (h : P := by
 unfold Ld.act
 rw [if_neg (by omega), if_neg (by omega), if_neg (by omega), if_neg (by omega), if_neg (by omega), if_pos hk, he]
 simp [hwh, Except.bind]) : P := h
theorem Ke (w : World) (F : LF) (V : LV) (L : Ld) (s : St) (Aw Ap : Option Addr) (cw cp : Nat) (h : Ca w F V L s Aw Ap cw cp) (hlx : s.label.text.size = 0 ∨ (s.label.text.size ≠ 0 ∧ L.label s.label = .ok ())) (hk : s.kind = 3) (a b : Int) (he : L.floatGo s.words [] = .ok [a, b]) (hwh : s.whole = true) (t : Tk) (n : Nat) (hx : L.hyp s ⟨s.label.text, true, b, [a, b]⟩ = .error (t, n)) :
  Calls Tryz.prog 32 #[.pointer (some ⟨F.l, 0, none⟩), stV s (.slice Aw s.words.length cw) (.slice Ap s.proof.length cp)] w (LdX F V (L.act s) w) := by
 have hlc := fun (W : World) (hW : Ad [] w W) => AX W F V L (h.ld.same hW) s.label h.sin.label.max
 have H := Kd h
 have l0 := Ai (i := 0) (v := .pointer (some ⟨F.nb, 0, none⟩)) h.ld.lb
 have l1 := Ai (i := 1) (v := .pointer (some ⟨F.s, 0, none⟩)) h.ld.lb
 have ll := Af h.ld.lb
 have n2 := Ai (i := 2) (v := .pointer (some ⟨F.t, 0, none⟩)) h.ld.nbb
 have nl := Af h.ld.nbb
 have hact : L.act s = (L.hyp s ⟨s.label.text, true, b, [a, b]⟩).bind fun M => (Bl s.end_ (BW M.tbl.isVar M.scs s.label.text a b).1).bind fun _ => .ok { M with scs := (BW M.tbl.isVar M.scs s.label.text a b).2 } := by
  exact zq87
 have hres : L.act s = .error (t, n) := by rw [hact, hx]; rfl
 have HR := Kd hres
 clear hact hres
 have hap := fun (W : World) (hW : Ad [] w W) => Et W F.l F.nb F.t F.s V.TA V.A (V.blocks F) L ((h.ld.lr h.ok.small).same hW) _ s.words (h.words.row.same hW (by simp)) (by have := h.sin.wl; omega)
 have hlab : L.labels ≤ 1000000 := by have := h.ok.le; omega
 have hhy := fun (W : World) (hW : Ad [] w W) (ev : Value) (hv : Ds W (V.blocks F) ev [a, b]) => Fz W F V L (h.ld.same hW) hlab s Aw Ap s.words.length cw s.proof.length cp ⟨s.label.text, true, b, [a, b]⟩ h.sin.label.max ev hv
 rw [hx] at hhy
 unfold stV hyV LdX at hhy
 dsimp only at hhy
 rw [he] at hap
 unfold CV at hap
 rw [B0] at hwh
 have HM := Kd h.ld.lt
 clear he hx
 have kb8 : ((s.kind : Int) == 8) = false := by rw [hk]; rfl
 have kb9 : ((s.kind : Int) == 9) = false := by rw [hk]; rfl
 have kb1 : ((s.kind : Int) == 1) = false := by rw [hk]; rfl
 have kb2 : ((s.kind : Int) == 2) = false := by rw [hk]; rfl
 have kb5 : ((s.kind : Int) == 5) = false := by rw [hk]; rfl
 have kb3 : ((s.kind : Int) == 3) = true := by rw [hk]; rfl
 have kb4 : ((s.kind : Int) == 4) = false := by rw [hk]; rfl
 have kb6 : ((s.kind : Int) == 6) = false := by rw [hk]; rfl
 have kb7 : ((s.kind : Int) == 7) = false := by rw [hk]; rfl
 clear hk
 unfold stV
 unfold tkV at hlc
 clear h
 rcases hlx with hle | ⟨hle, hlo⟩
 ·have hle' : s.label.text.toList.isEmpty = true := by rw [AM]; simp [hle]
  have HW := DS w s Aw Ap cw cp
  have HSb := Kd (Aj w (stO s (.slice Aw s.words.length cw) (.slice Ap s.proof.length cp)))
  clear hle hlc
  go_enter Tryz.func32, Tryz.ntmps32
  go_wp2_with ((go_at_call 70; go_must (refine (hap _ HW.out).mono ?_; rintro e2 W2 ⟨v2, rfl, hr2, hs2, hf2⟩; obtain ⟨g2, c2, hvv, r0, r1, gl2⟩ := Jc hr2; subst hvv; have hS2 := hs2.get HSb.out (by simp); obtain ⟨q0, q1, q2, q3, q4, q5, q6, q7, q8, q9, q10, q11, q12, q13, q14, q15, qf⟩ := AF hS2; have ql := Af hS2; have HW2 := Kd (HW.out.trans hs2); have Hf2 := Kd (AH.mono hf2 HW.out.size); have HS2 := Kd hS2; have Hr2 := Kd hr2; have l02 := HW2.out.cell l0 (by simp); have l12 := HW2.out.cell l1 (by simp); have ll2 := Nat.lt_of_lt_of_le ll HW2.out.size; clear hr2 hs2 hf2 hS2)))
  exact zq36
 ·have hle' : s.label.text.toList.isEmpty = false := by rw [AM]; simp [hle]
  rw [hlo] at hlc
  unfold Cz at hlc
  dsimp only at hlc
  clear hle hlo
  go_enter Tryz.func32, Tryz.ntmps32
  go_wp2_with (first | (go_at_call 59; go_must (refine (hlc _ (Ad.alloc [] _ _)).mono ?_; rintro e1 W1 ⟨rfl, hs1⟩; have hS1 := hs1.get (Aj w (stO s (.slice Aw s.words.length cw) (.slice Ap s.proof.length cp))) (by simp); obtain ⟨s0, s1, s2, s3, s4, s5, s6, s7, s8, s9, s10, s11, s12, s13, s14, s15, sf⟩ := AF hS1; have sl := Af hS1; have hW1 := (Ad.alloc [] w (stO s (.slice Aw s.words.length cw) (.slice Ap s.proof.length cp))).trans hs1; have l01 := hW1.cell l0 (by simp); have l11 := hW1.cell l1 (by simp); have n21 := hW1.cell n2 (by simp); have ll1 := Nat.lt_of_lt_of_le ll hW1.size; have nl1 := Nat.lt_of_lt_of_le nl hW1.size; have HSb := Kd hS1; have HW := Kd hW1; clear hs1 hS1 hW1)) | (go_at_call 70; go_must (refine (hap _ HW.out).mono ?_; rintro e2 W2 ⟨v2, rfl, hr2, hs2, hf2⟩; obtain ⟨g2, c2, hvv, r0, r1, gl2⟩ := Jc hr2; subst hvv; have hS2 := hs2.get HSb.out (by simp); obtain ⟨q0, q1, q2, q3, q4, q5, q6, q7, q8, q9, q10, q11, q12, q13, q14, q15, qf⟩ := AF hS2; have ql := Af hS2; have HW2 := Kd (HW.out.trans hs2); have Hf2 := Kd (AH.mono hf2 HW.out.size); have HS2 := Kd hS2; have Hr2 := Kd hr2; have l02 := HW2.out.cell l0 (by simp); have l12 := HW2.out.cell l1 (by simp); have ll2 := Nat.lt_of_lt_of_le ll HW2.out.size; clear hr2 hs2 hf2 hS2)))
  exact zq36
theorem zq5 {P : Prop} (h : P := by
 refine Bg (.read 0 (.read 1 (.read 2 (.read 3 (.read 4 (.read 5 (.read 6 (.read 7 (.read 8 (.read 9 (.one 10 [] (.done)))))))))))) (by kernel_rfl) (by kernel_rfl) ?_
 iterate 10 (refine Bv rfl (fun K hK => ?_); go_simp; (try go_bits); (try (rw [if_pos (by omega)]; go_simp)); refine hK _ ?_; clear hK K)
 refine AY rfl ?_
 have hI : Ds W2.drew (V.blocks F) (.slice (some ⟨g2, 0, none⟩) 2 c2) [a, b] := ⟨Row.same (xs := Ay [a, b]) Hr2.out (Ad.drew [] W2) (by simp), B1 HM.out Hf2.out⟩
 have HI := Kd hI
 clear hI
 go_wp2_with (go_at_call 71; go_must (refine (hhy _ (HW2.out.trans (Ad.drew [] _)) _ HI.out).mono ?_; rintro e3 W3 ⟨rfl, V3, hL3, hmv3'⟩))
 have Hmb3 := Kd hmv3'.blocks
 have hg2 : g2 ∉ V.blocks F := B1 HM.out Hf2.out g2 rfl
 have hmv3 := (AN.of_same (M := V.blocks F) (HW2.out.trans (Ad.drew [] _))).trans hmv3'
 have HS3 := Kd (hmv3'.same.get ((Ad.drew [] W2).get HS2.out (by simp)) HnS.out)
 have p0 := hmv3'.same.cell ((Ad.drew [] W2).cell r0 (by simp)) hg2
 have p1 := hmv3'.same.cell ((Ad.drew [] W2).cell r1 (by simp)) hg2
 have pg := Nat.lt_of_lt_of_le gl2 (Nat.le_trans (Ad.drew [] W2).size hmv3'.same.size)
 clear hmv3' hg2
 refine EP.A ?_
 refine Bz ?_
 have hMlt3 := hL3.lt
 have hst := fun (W : World) (hW : Ad [] W3 W) => IX W F.s F.t V3.A (V3.blocks F) M.scs (hL3.stk.same hW) HMok.out.small (fun b hb => Nat.lt_of_lt_of_le (hMlt3 b hb) hW.size) V3.TA M.tbl (hL3.tbl.same hW (by simp)) s.label.text a b
 have hS3 := HS3.out
 have HMlt3 := Kd hMlt3
 clear l0 l1 ll n2 nl
 try clear l01 l11 n21 ll1 nl1
 have l0 := Ai (i := 0) (v := .pointer (some ⟨F.nb, 0, none⟩)) hL3.lb
 have l1 := Ai (i := 1) (v := .pointer (some ⟨F.s, 0, none⟩)) hL3.lb
 have ll := Af hL3.lb
 have n2 := Ai (i := 2) (v := .pointer (some ⟨F.t, 0, none⟩)) hL3.nbb
 have nl := Af hL3.nbb
 have HL3 := Kd hL3
 have Mv3 := Kd hmv3
 obtain ⟨z0, z1, z2, z3, z4, z5, z6, z7, z8, z9, z10, z11, z12, z13, z14, z15, zf⟩ := AF hS3
 have zl := Af hS3
 clear hMlt3 hL3 hmv3 hS3
 go_wp2
 refine Bg (.read 0 (.read 1 (.read 2 (.read 3 (.read 4 (.read 5 (.read 6 (.read 7 (.read 8 (.read 9 (.read 10 (.read 11 (.read 12 (.read 13 (.read 14 (.one 15 [0, 1] (.one 16 [] (.done)))))))))))))))))) (by kernel_rfl) (by kernel_rfl) ?_
 iterate 15 (refine Bv rfl (fun K hK => ?_); go_simp; (try go_bits); (try (rw [if_pos (by omega)]; go_simp)); refine hK _ ?_; clear hK K)
 refine AY rfl ?_
 go_wp2_with (go_at_call 72; go_must (refine (hst _ (Ad.drew [] _)).mono ?_; rintro e4 W4 ⟨rfl, hst4⟩))
 have hst4' := hst4.after (Ad.drew [] W3)
 obtain ⟨A4, hL4, hmv4⟩ := HL3.out.setStk hst4'
 have hS4 : W4.heap[w.heap.size]? = some (stO s (.slice Aw s.words.length cw) (.slice Ap s.proof.length cp)) := by
  obtain ⟨A', k1, k2, k3⟩ := hst4
  refine k2.get ((Ad.drew [] W3).get HS3.out (by simp)) (fun hm => ?_)
  rcases Hmb3.out _ (LV.mem.2 (.inr (.inr (.inr (.inr (.inr (.inr (.inr hm)))))))) with h1 | h1
  ·exact HnS.out h1
  ·have := Af HSb.out
   have h2 := HW2.out.size
   have h3 := Af HS2.out
   rw [Dw] at h1
   omega
 obtain ⟨y0, y1, y2, y3, y4, y5, y6, y7, y8, y9, y10, y11, y12, y13, y14, y15, yf⟩ := AF hS4
 have yl := Af hS4
 have Mv4 := Kd (Mv3.out.trans hmv4)
 have HL4 := Kd hL4
 clear hst4 hst4' hL4 hmv4 hS4
 refine EP.A ?_
 refine AY rfl ?_
 by_cases hz : (BW M.tbl.isVar M.scs s.label.text a b).1 = 0
 ·have hres : L.act s = .ok { M with scs := (BW M.tbl.isVar M.scs s.label.text a b).2 } := by rw [Hact.out]; unfold Bl; rw [if_pos hz]; rfl
  have HR := Kd hres
  clear hres
  have HZ := Kd hz
  clear hz
  go_wp2_with (go_at_call 60; go_must (refine (hnok _ _ HZ.out).mono ?_; rintro e5 W5 ⟨rfl, hs5⟩))
  have hL5 := HL4.out.same hs5
  have Mv5 := Kd (Mv4.out.trans (AN.of_same hs5))
  clear hs5
  refine EP.A ?_
  refine Bz ?_
  go_wp2
  refine bodyPost_end (results_none rfl _ _ _) rfl ?_
  show LdX F V (L.act s) w _ _
  rw [HR.out]
  exact ⟨rfl, _, hL5, Mv5.out⟩
 ·have hres : L.act s = .error (s.end_, (BW M.tbl.isVar M.scs s.label.text a b).1) := by rw [Hact.out]; unfold Bl; rw [if_neg hz]; rfl
  have HR := Kd hres
  clear hres
  have HZ := Kd hz
  clear hz
  go_wp2_with (go_at_call 60; go_must (refine (hnbad _ _ HZ.out).mono ?_; rintro e5 W5 ⟨b', rfl, hf, hs5⟩))
  refine ⟨rfl, fun a' ha' => ⟨ha', ?_⟩⟩
  show LdX F V (L.act s) w _ _
  rw [HR.out]
  exact ⟨b', rfl, hf, Mv4.out.same.then (hs5.mono (T := V.blocks F) (by simp)) fun _ hx => .inl hx⟩) : P := h
theorem NH (w : World) (F : LF) (V : LV) (L : Ld) (s : St) (Aw Ap : Option Addr) (cw cp : Nat) (h : Ca w F V L s Aw Ap cw cp) (hlx : s.label.text.size = 0 ∨ (s.label.text.size ≠ 0 ∧ L.label s.label = .ok ())) (hk : s.kind = 3) (a b : Int) (he : L.floatGo s.words [] = .ok [a, b]) (hwh : s.whole = true) (M : Ld) (hx : L.hyp s ⟨s.label.text, true, b, [a, b]⟩ = .ok M) :
  Calls Tryz.prog 32 #[.pointer (some ⟨F.l, 0, none⟩), stV s (.slice Aw s.words.length cw) (.slice Ap s.proof.length cp)] w (LdX F V (L.act s) w) := by
 have hlc := fun (W : World) (hW : Ad [] w W) => AX W F V L (h.ld.same hW) s.label h.sin.label.max
 have H := Kd h
 have l0 := Ai (i := 0) (v := .pointer (some ⟨F.nb, 0, none⟩)) h.ld.lb
 have l1 := Ai (i := 1) (v := .pointer (some ⟨F.s, 0, none⟩)) h.ld.lb
 have ll := Af h.ld.lb
 have n2 := Ai (i := 2) (v := .pointer (some ⟨F.t, 0, none⟩)) h.ld.nbb
 have nl := Af h.ld.nbb
 have hact : L.act s = (L.hyp s ⟨s.label.text, true, b, [a, b]⟩).bind fun M => (Bl s.end_ (BW M.tbl.isVar M.scs s.label.text a b).1).bind fun _ => .ok { M with scs := (BW M.tbl.isVar M.scs s.label.text a b).2 } := by
  exact zq87
 have hres : ∀ M', L.hyp s ⟨s.label.text, true, b, [a, b]⟩ = .ok M' → True := fun _ _ => trivial
 clear hres
 rw [hx, Ei] at hact
 have Hact := Kd hact
 have HMok := Kd (EI h.ok hx).1
 have hnok := fun W n hn => C6 W s.end_ n hn
 have hnbad := fun W n hn => CI W s.end_ n hn
 unfold tkV at hnok hnbad
 have HnS : Hid (w.heap.size ∉ V.blocks F) := Kd (fun hm => by have := h.ld.lt _ hm; omega)
 clear hact
 have hap := fun (W : World) (hW : Ad [] w W) => Et W F.l F.nb F.t F.s V.TA V.A (V.blocks F) L ((h.ld.lr h.ok.small).same hW) _ s.words (h.words.row.same hW (by simp)) (by have := h.sin.wl; omega)
 have hlab : L.labels ≤ 1000000 := by have := h.ok.le; omega
 have hhy := fun (W : World) (hW : Ad [] w W) (ev : Value) (hv : Ds W (V.blocks F) ev [a, b]) => Fz W F V L (h.ld.same hW) hlab s Aw Ap s.words.length cw s.proof.length cp ⟨s.label.text, true, b, [a, b]⟩ h.sin.label.max ev hv
 rw [hx] at hhy
 unfold stV hyV LdX at hhy
 dsimp only at hhy
 rw [he] at hap
 unfold CV at hap
 rw [B0] at hwh
 have HM := Kd h.ld.lt
 clear he hx
 have kb8 : ((s.kind : Int) == 8) = false := by rw [hk]; rfl
 have kb9 : ((s.kind : Int) == 9) = false := by rw [hk]; rfl
 have kb1 : ((s.kind : Int) == 1) = false := by rw [hk]; rfl
 have kb2 : ((s.kind : Int) == 2) = false := by rw [hk]; rfl
 have kb5 : ((s.kind : Int) == 5) = false := by rw [hk]; rfl
 have kb3 : ((s.kind : Int) == 3) = true := by rw [hk]; rfl
 have kb4 : ((s.kind : Int) == 4) = false := by rw [hk]; rfl
 have kb6 : ((s.kind : Int) == 6) = false := by rw [hk]; rfl
 have kb7 : ((s.kind : Int) == 7) = false := by rw [hk]; rfl
 clear hk
 unfold stV
 unfold tkV at hlc
 clear h
 rcases hlx with hle | ⟨hle, hlo⟩
 ·have hle' : s.label.text.toList.isEmpty = true := by rw [AM]; simp [hle]
  have HW := DS w s Aw Ap cw cp
  have HSb := Kd (Aj w (stO s (.slice Aw s.words.length cw) (.slice Ap s.proof.length cp)))
  clear hle hlc
  go_enter Tryz.func32, Tryz.ntmps32
  go_wp2_with ((go_at_call 70; go_must (refine (hap _ HW.out).mono ?_; rintro e2 W2 ⟨v2, rfl, hr2, hs2, hf2⟩; obtain ⟨g2, c2, hvv, r0, r1, gl2⟩ := Jc hr2; subst hvv; have hS2 := hs2.get HSb.out (by simp); obtain ⟨q0, q1, q2, q3, q4, q5, q6, q7, q8, q9, q10, q11, q12, q13, q14, q15, qf⟩ := AF hS2; have ql := Af hS2; have HW2 := Kd (HW.out.trans hs2); have Hf2 := Kd (AH.mono hf2 HW.out.size); have HS2 := Kd hS2; have Hr2 := Kd hr2; have l02 := HW2.out.cell l0 (by simp); have l12 := HW2.out.cell l1 (by simp); have ll2 := Nat.lt_of_lt_of_le ll HW2.out.size; clear hr2 hs2 hf2 hS2)))
  exact zq5
 ·have hle' : s.label.text.toList.isEmpty = false := by rw [AM]; simp [hle]
  rw [hlo] at hlc
  unfold Cz at hlc
  dsimp only at hlc
  clear hle hlo
  go_enter Tryz.func32, Tryz.ntmps32
  go_wp2_with (first | (go_at_call 59; go_must (refine (hlc _ (Ad.alloc [] _ _)).mono ?_; rintro e1 W1 ⟨rfl, hs1⟩; have hS1 := hs1.get (Aj w (stO s (.slice Aw s.words.length cw) (.slice Ap s.proof.length cp))) (by simp); obtain ⟨s0, s1, s2, s3, s4, s5, s6, s7, s8, s9, s10, s11, s12, s13, s14, s15, sf⟩ := AF hS1; have sl := Af hS1; have hW1 := (Ad.alloc [] w (stO s (.slice Aw s.words.length cw) (.slice Ap s.proof.length cp))).trans hs1; have l01 := hW1.cell l0 (by simp); have l11 := hW1.cell l1 (by simp); have n21 := hW1.cell n2 (by simp); have ll1 := Nat.lt_of_lt_of_le ll hW1.size; have nl1 := Nat.lt_of_lt_of_le nl hW1.size; have HSb := Kd hS1; have HW := Kd hW1; clear hs1 hS1 hW1)) | (go_at_call 70; go_must (refine (hap _ HW.out).mono ?_; rintro e2 W2 ⟨v2, rfl, hr2, hs2, hf2⟩; obtain ⟨g2, c2, hvv, r0, r1, gl2⟩ := Jc hr2; subst hvv; have hS2 := hs2.get HSb.out (by simp); obtain ⟨q0, q1, q2, q3, q4, q5, q6, q7, q8, q9, q10, q11, q12, q13, q14, q15, qf⟩ := AF hS2; have ql := Af hS2; have HW2 := Kd (HW.out.trans hs2); have Hf2 := Kd (AH.mono hf2 HW.out.size); have HS2 := Kd hS2; have Hr2 := Kd hr2; have l02 := HW2.out.cell l0 (by simp); have l12 := HW2.out.cell l1 (by simp); have ll2 := Nat.lt_of_lt_of_le ll HW2.out.size; clear hr2 hs2 hf2 hS2)))
  exact zq5
end Go.Proofs.YtbfbgfpghkijdaaGreatDoor
