/- lemmalaw texts, part 36. -/
import Derived.Test.YtbfbgfpghkijdaaGreatDoorYaa
import Derived.Test.YtbfbgfpghkijdaaGreatDoorYav
import Derived.Test.YtbfbgfpghkijdaaGreatDoorYbe
import Derived.Test.YtbfbgfpghkijdaaGreatDoorYbf
import Derived.Test.YtbfbgfpghkijdaaGreatDoorYbg
import Derived.Test.YtbfbgfpghkijdaaGreatDoorYbh
import Derived.Test.YtbfbgfpghkijdaaGreatDoorYbi
import Derived.Defers
import Derived.Recover
set_option maxRecDepth 100000
set_option linter.unusedVariables false
set_option linter.unusedSimpArgs false
set_option maxHeartbeats 32000000
namespace Go.Proofs.YtbfbgfpghkijdaaGreatDoor
open Go.RowKit
theorem zq82 {P : Prop} (h : P := by
 unfold Ld.act
 rw [if_neg (by omega), if_neg (by omega), if_neg (by omega), if_neg (by omega), if_neg (by omega), if_neg (by omega), if_pos hk, he]
 simp [hwh, Except.bind]) : P := h
theorem zq100 {P : Prop} (h : P := by
 refine ⟨rfl, ?_⟩
 show LdX F V (L.act s) w _ _
 rw [HR.out]
 exact E7.after ⟨b', rfl, hf, hs⟩ (AN.of_same HW2.out)) : P := h
theorem LE (w : World) (F : LF) (V : LV) (L : Ld) (s : St) (Aw Ap : Option Addr) (cw cp : Nat) (h : Ca w F V L s Aw Ap cw cp) (hlx : s.label.text.size = 0 ∨ (s.label.text.size ≠ 0 ∧ L.label s.label = .ok ())) (hk : s.kind = 4) (v : List Int) (he : L.exprGo s.words [] = .ok v) (hwh : s.whole = true) (t : Tk) (n : Nat) (hx : L.hyp s ⟨s.label.text, false, -1, v⟩ = .error (t, n)) :
  Calls Tryz.prog 32 #[.pointer (some ⟨F.l, 0, none⟩), stV s (.slice Aw s.words.length cw) (.slice Ap s.proof.length cp)] w (LdX F V (L.act s) w) := by
 have hlc := fun (W : World) (hW : Ad [] w W) => AX W F V L (h.ld.same hW) s.label h.sin.label.max
 have H := Kd h
 have l0 := Ai (i := 0) (v := .pointer (some ⟨F.nb, 0, none⟩)) h.ld.lb
 have l1 := Ai (i := 1) (v := .pointer (some ⟨F.s, 0, none⟩)) h.ld.lb
 have ll := Af h.ld.lb
 have n2 := Ai (i := 2) (v := .pointer (some ⟨F.t, 0, none⟩)) h.ld.nbb
 have nl := Af h.ld.nbb
 have hact : L.act s = (L.hyp s ⟨s.label.text, false, -1, v⟩).bind fun M => (Bl s.end_ (Fw M.tbl.isVar M.scs s.label.text v).1).bind fun _ => .ok { M with scs := (Fw M.tbl.isVar M.scs s.label.text v).2 } := by
  exact zq82
 have hres : L.act s = .error (t, n) := by rw [hact, hx]; rfl
 have HR := Kd hres
 clear hact hres
 have hap := fun (W : World) (hW : Ad [] w W) => B6 W F.l F.nb F.t F.s V.TA V.A (V.blocks F) L ((h.ld.lr h.ok.small).same hW) _ s.words (h.words.row.same hW (by simp)) (by have := h.sin.wl; omega)
 have hlab : L.labels ≤ 1000000 := by have := h.ok.le; omega
 have hhy := fun (W : World) (hW : Ad [] w W) (ev : Value) (hv : Ds W (V.blocks F) ev v) => Fz W F V L (h.ld.same hW) hlab s Aw Ap s.words.length cw s.proof.length cp ⟨s.label.text, false, -1, v⟩ h.sin.label.max ev hv
 rw [hx] at hhy
 unfold stV hyV LdX at hhy
 dsimp only at hhy
 rw [he] at hap
 unfold CV at hap
 rw [B0] at hwh
 have HM := Kd h.ld.lt
 clear he hx
 have kb8 : ((s.kind : Int) == 8) = false := by rw [hk]; rfl
 have kb9 : ((s.kind : Int) == 9) = false := by rw [hk]; rfl
 have kb1 : ((s.kind : Int) == 1) = false := by rw [hk]; rfl
 have kb2 : ((s.kind : Int) == 2) = false := by rw [hk]; rfl
 have kb5 : ((s.kind : Int) == 5) = false := by rw [hk]; rfl
 have kb3 : ((s.kind : Int) == 3) = false := by rw [hk]; rfl
 have kb4 : ((s.kind : Int) == 4) = true := by rw [hk]; rfl
 have kb6 : ((s.kind : Int) == 6) = false := by rw [hk]; rfl
 have kb7 : ((s.kind : Int) == 7) = false := by rw [hk]; rfl
 clear hk
 unfold stV
 unfold tkV at hlc
 clear h
 rcases hlx with hle | ⟨hle, hlo⟩
 ·have hle' : s.label.text.toList.isEmpty = true := by rw [AM]; simp [hle]
  have HW := DS w s Aw Ap cw cp
  have HSb := Kd (Aj w (stO s (.slice Aw s.words.length cw) (.slice Ap s.proof.length cp)))
  clear hle hlc
  go_enter Tryz.func32, Tryz.ntmps32
  go_wp2_with (first | (go_at_call 73; go_must (refine (hap _ HW.out).mono ?_; rintro e2 W2 ⟨v2, rfl, hr2, hs2, hf2⟩; obtain ⟨A2, c2, rfl⟩ := hr2.shape; have hS2 := hs2.get HSb.out (by simp); obtain ⟨q0, q1, q2, q3, q4, q5, q6, q7, q8, q9, q10, q11, q12, q13, q14, q15, qf⟩ := AF hS2; have ql := Af hS2; have HW2 := Kd (HW.out.trans hs2); have Hf2 := Kd (AH.mono hf2 HW.out.size); have HS2 := Kd hS2; have Hr2 := Kd hr2; have l02 := HW2.out.cell l0 (by simp); have l12 := HW2.out.cell l1 (by simp); have ll2 := Nat.lt_of_lt_of_le ll HW2.out.size; clear hr2 hs2 hf2 hS2)) | (go_at_call 71; go_must (refine (hhy _ HW2.out _ ⟨Hr2.out, B1 HM.out Hf2.out⟩).mono ?_; rintro e3 W3 ⟨b', rfl, hf, hs⟩)))
  exact zq100
 ·have hle' : s.label.text.toList.isEmpty = false := by rw [AM]; simp [hle]
  rw [hlo] at hlc
  unfold Cz at hlc
  dsimp only at hlc
  clear hle hlo
  go_enter Tryz.func32, Tryz.ntmps32
  go_wp2_with (first | (go_at_call 59; go_must (refine (hlc _ (Ad.alloc [] _ _)).mono ?_; rintro e1 W1 ⟨rfl, hs1⟩; have hS1 := hs1.get (Aj w (stO s (.slice Aw s.words.length cw) (.slice Ap s.proof.length cp))) (by simp); obtain ⟨s0, s1, s2, s3, s4, s5, s6, s7, s8, s9, s10, s11, s12, s13, s14, s15, sf⟩ := AF hS1; have sl := Af hS1; have hW1 := (Ad.alloc [] w (stO s (.slice Aw s.words.length cw) (.slice Ap s.proof.length cp))).trans hs1; have l01 := hW1.cell l0 (by simp); have l11 := hW1.cell l1 (by simp); have n21 := hW1.cell n2 (by simp); have ll1 := Nat.lt_of_lt_of_le ll hW1.size; have nl1 := Nat.lt_of_lt_of_le nl hW1.size; have HSb := Kd hS1; have HW := Kd hW1; clear hs1 hS1 hW1)) | (go_at_call 73; go_must (refine (hap _ HW.out).mono ?_; rintro e2 W2 ⟨v2, rfl, hr2, hs2, hf2⟩; obtain ⟨A2, c2, rfl⟩ := hr2.shape; have hS2 := hs2.get HSb.out (by simp); obtain ⟨q0, q1, q2, q3, q4, q5, q6, q7, q8, q9, q10, q11, q12, q13, q14, q15, qf⟩ := AF hS2; have ql := Af hS2; have HW2 := Kd (HW.out.trans hs2); have Hf2 := Kd (AH.mono hf2 HW.out.size); have HS2 := Kd hS2; have Hr2 := Kd hr2; have l02 := HW2.out.cell l0 (by simp); have l12 := HW2.out.cell l1 (by simp); have ll2 := Nat.lt_of_lt_of_le ll HW2.out.size; clear hr2 hs2 hf2 hS2)) | (go_at_call 71; go_must (refine (hhy _ HW2.out _ ⟨Hr2.out, B1 HM.out Hf2.out⟩).mono ?_; rintro e3 W3 ⟨b', rfl, hf, hs⟩)))
  exact zq100
theorem zq9 {P : Prop} (h : P := by
 have Hmb3 := Kd hmv3'.blocks
 have hmv3 := (AN.of_same (M := V.blocks F) HW2.out).trans hmv3'
 have HS3 := Kd (hmv3'.same.get HS2.out HnS.out)
 have hr3 := Hr2.out.same hmv3'.same (B1 HM.out Hf2.out)
 clear hmv3'
 have hMlt3 := hL3.lt
 have hst := fun (W : World) (hW : Ad [] W3 W) => KW W F.s F.t V3.A (V3.blocks F) M.scs (hL3.stk.same hW) HMok.out.small (fun b hb => Nat.lt_of_lt_of_le (hMlt3 b hb) hW.size) V3.TA M.tbl (hL3.tbl.same hW (by simp)) s.label.text _ v (hr3.same hW (by simp)) Hvl.out
 have hS3 := HS3.out
 have HMlt3 := Kd hMlt3
 clear l0 l1 ll n2 nl
 try clear l01 l11 n21 ll1 nl1
 have l0 := Ai (i := 0) (v := .pointer (some ⟨F.nb, 0, none⟩)) hL3.lb
 have l1 := Ai (i := 1) (v := .pointer (some ⟨F.s, 0, none⟩)) hL3.lb
 have ll := Af hL3.lb
 have n2 := Ai (i := 2) (v := .pointer (some ⟨F.t, 0, none⟩)) hL3.nbb
 have nl := Af hL3.nbb
 have HL3 := Kd hL3
 have Mv3 := Kd hmv3
 obtain ⟨z0, z1, z2, z3, z4, z5, z6, z7, z8, z9, z10, z11, z12, z13, z14, z15, zf⟩ := AF hS3
 have zl := Af hS3
 clear hMlt3 hL3 hmv3 hS3 hr3
 refine Bg (.read 0 (.read 1 (.read 2 (.read 3 (.read 4 (.read 5 (.read 6 (.read 7 (.read 8 (.read 9 (.one 10 [0, 1] (.one 11 [] (.done))))))))))))) (by kernel_rfl) (by kernel_rfl) ?_
 iterate 10 (refine Bv rfl (fun K hK => ?_); go_simp; (try go_bits); (try (rw [if_pos (by omega)]; go_simp)); refine hK _ ?_; clear hK K)
 refine AY rfl ?_
 go_wp2_with (go_at_call 74; go_must (refine (hst _ (Ad.drew [] _)).mono ?_; rintro e4 W4 ⟨rfl, hst4⟩))
 have hst4' := hst4.after (Ad.drew [] W3)
 obtain ⟨A4, hL4, hmv4⟩ := HL3.out.setStk hst4'
 have hS4 : W4.heap[w.heap.size]? = some (stO s (.slice Aw s.words.length cw) (.slice Ap s.proof.length cp)) := by
  obtain ⟨A', k1, k2, k3⟩ := hst4
  refine k2.get ((Ad.drew [] W3).get HS3.out (by simp)) (fun hm => ?_)
  rcases Hmb3.out _ (LV.mem.2 (.inr (.inr (.inr (.inr (.inr (.inr (.inr hm)))))))) with h1 | h1
  ·exact HnS.out h1
  ·have := Af HS2.out
   omega
 obtain ⟨y0, y1, y2, y3, y4, y5, y6, y7, y8, y9, y10, y11, y12, y13, y14, y15, yf⟩ := AF hS4
 have yl := Af hS4
 have Mv4 := Kd (Mv3.out.trans hmv4)
 have HL4 := Kd hL4
 clear hst4 hst4' hL4 hmv4 hS4
 refine EP.A ?_
 refine AY rfl ?_
 by_cases hz : (Fw M.tbl.isVar M.scs s.label.text v).1 = 0
 ·have hres : L.act s = .ok { M with scs := (Fw M.tbl.isVar M.scs s.label.text v).2 } := by rw [Hact.out]; unfold Bl; rw [if_pos hz]; rfl
  have HR := Kd hres
  clear hres
  have HZ := Kd hz
  clear hz
  go_wp2_with (go_at_call 60; go_must (refine (hnok _ _ HZ.out).mono ?_; rintro e5 W5 ⟨rfl, hs5⟩))
  have hL5 := HL4.out.same hs5
  have Mv5 := Kd (Mv4.out.trans (AN.of_same hs5))
  clear hs5
  refine EP.A ?_
  refine Bz ?_
  go_wp2
  refine bodyPost_end (results_none rfl _ _ _) rfl ?_
  show LdX F V (L.act s) w _ _
  rw [HR.out]
  exact ⟨rfl, _, hL5, Mv5.out⟩
 ·have hres : L.act s = .error (s.end_, (Fw M.tbl.isVar M.scs s.label.text v).1) := by rw [Hact.out]; unfold Bl; rw [if_neg hz]; rfl
  have HR := Kd hres
  clear hres
  have HZ := Kd hz
  clear hz
  go_wp2_with (go_at_call 60; go_must (refine (hnbad _ _ HZ.out).mono ?_; rintro e5 W5 ⟨b', rfl, hf, hs5⟩))
  refine ⟨rfl, fun a' ha' => ⟨ha', ?_⟩⟩
  show LdX F V (L.act s) w _ _
  rw [HR.out]
  exact ⟨b', rfl, hf, Mv4.out.same.then (hs5.mono (T := V.blocks F) (by simp)) fun _ hx => .inl hx⟩) : P := h
theorem PV (w : World) (F : LF) (V : LV) (L : Ld) (s : St) (Aw Ap : Option Addr) (cw cp : Nat) (h : Ca w F V L s Aw Ap cw cp) (hlx : s.label.text.size = 0 ∨ (s.label.text.size ≠ 0 ∧ L.label s.label = .ok ())) (hk : s.kind = 4) (v : List Int) (he : L.exprGo s.words [] = .ok v) (hwh : s.whole = true) (M : Ld) (hx : L.hyp s ⟨s.label.text, false, -1, v⟩ = .ok M) :
  Calls Tryz.prog 32 #[.pointer (some ⟨F.l, 0, none⟩), stV s (.slice Aw s.words.length cw) (.slice Ap s.proof.length cp)] w (LdX F V (L.act s) w) := by
 have hlc := fun (W : World) (hW : Ad [] w W) => AX W F V L (h.ld.same hW) s.label h.sin.label.max
 have H := Kd h
 have l0 := Ai (i := 0) (v := .pointer (some ⟨F.nb, 0, none⟩)) h.ld.lb
 have l1 := Ai (i := 1) (v := .pointer (some ⟨F.s, 0, none⟩)) h.ld.lb
 have ll := Af h.ld.lb
 have n2 := Ai (i := 2) (v := .pointer (some ⟨F.t, 0, none⟩)) h.ld.nbb
 have nl := Af h.ld.nbb
 have hact : L.act s = (L.hyp s ⟨s.label.text, false, -1, v⟩).bind fun M => (Bl s.end_ (Fw M.tbl.isVar M.scs s.label.text v).1).bind fun _ => .ok { M with scs := (Fw M.tbl.isVar M.scs s.label.text v).2 } := by
  exact zq82
 have hres : ∀ M', L.hyp s ⟨s.label.text, false, -1, v⟩ = .ok M' → True := fun _ _ => trivial
 clear hres
 rw [hx, Ei] at hact
 have Hact := Kd hact
 have HMok := Kd (EI h.ok hx).1
 have hnok := fun W n hn => C6 W s.end_ n hn
 have hnbad := fun W n hn => CI W s.end_ n hn
 unfold tkV at hnok hnbad
 have HnS : Hid (w.heap.size ∉ V.blocks F) := Kd (fun hm => by have := h.ld.lt _ hm; omega)
 clear hact
 have hvl : v.length ≤ 1000000 := by have := Cs L s.words [] v (by simp) he; omega
 have Hvl := Kd hvl
 have hap := fun (W : World) (hW : Ad [] w W) => B6 W F.l F.nb F.t F.s V.TA V.A (V.blocks F) L ((h.ld.lr h.ok.small).same hW) _ s.words (h.words.row.same hW (by simp)) (by have := h.sin.wl; omega)
 have hlab : L.labels ≤ 1000000 := by have := h.ok.le; omega
 have hhy := fun (W : World) (hW : Ad [] w W) (ev : Value) (hv : Ds W (V.blocks F) ev v) => Fz W F V L (h.ld.same hW) hlab s Aw Ap s.words.length cw s.proof.length cp ⟨s.label.text, false, -1, v⟩ h.sin.label.max ev hv
 rw [hx] at hhy
 unfold stV hyV LdX at hhy
 dsimp only at hhy
 rw [he] at hap
 unfold CV at hap
 rw [B0] at hwh
 have HM := Kd h.ld.lt
 clear he hx hvl
 have kb8 : ((s.kind : Int) == 8) = false := by rw [hk]; rfl
 have kb9 : ((s.kind : Int) == 9) = false := by rw [hk]; rfl
 have kb1 : ((s.kind : Int) == 1) = false := by rw [hk]; rfl
 have kb2 : ((s.kind : Int) == 2) = false := by rw [hk]; rfl
 have kb5 : ((s.kind : Int) == 5) = false := by rw [hk]; rfl
 have kb3 : ((s.kind : Int) == 3) = false := by rw [hk]; rfl
 have kb4 : ((s.kind : Int) == 4) = true := by rw [hk]; rfl
 have kb6 : ((s.kind : Int) == 6) = false := by rw [hk]; rfl
 have kb7 : ((s.kind : Int) == 7) = false := by rw [hk]; rfl
 clear hk
 unfold stV
 unfold tkV at hlc
 clear h
 rcases hlx with hle | ⟨hle, hlo⟩
 ·have hle' : s.label.text.toList.isEmpty = true := by rw [AM]; simp [hle]
  have HW := DS w s Aw Ap cw cp
  have HSb := Kd (Aj w (stO s (.slice Aw s.words.length cw) (.slice Ap s.proof.length cp)))
  clear hle hlc
  go_enter Tryz.func32, Tryz.ntmps32
  go_wp2_with (first | (go_at_call 73; go_must (refine (hap _ HW.out).mono ?_; rintro e2 W2 ⟨v2, rfl, hr2, hs2, hf2⟩; obtain ⟨A2, c2, rfl⟩ := hr2.shape; have hS2 := hs2.get HSb.out (by simp); obtain ⟨q0, q1, q2, q3, q4, q5, q6, q7, q8, q9, q10, q11, q12, q13, q14, q15, qf⟩ := AF hS2; have ql := Af hS2; have HW2 := Kd (HW.out.trans hs2); have Hf2 := Kd (AH.mono hf2 HW.out.size); have HS2 := Kd hS2; have Hr2 := Kd hr2; have l02 := HW2.out.cell l0 (by simp); have l12 := HW2.out.cell l1 (by simp); have ll2 := Nat.lt_of_lt_of_le ll HW2.out.size; clear hr2 hs2 hf2 hS2)) | (go_at_call 71; go_must (refine (hhy _ HW2.out _ ⟨Hr2.out, B1 HM.out Hf2.out⟩).mono ?_; rintro e3 W3 ⟨rfl, V3, hL3, hmv3'⟩)))
  exact zq9
 ·have hle' : s.label.text.toList.isEmpty = false := by rw [AM]; simp [hle]
  rw [hlo] at hlc
  unfold Cz at hlc
  dsimp only at hlc
  clear hle hlo
  go_enter Tryz.func32, Tryz.ntmps32
  go_wp2_with (first | (go_at_call 59; go_must (refine (hlc _ (Ad.alloc [] _ _)).mono ?_; rintro e1 W1 ⟨rfl, hs1⟩; have hS1 := hs1.get (Aj w (stO s (.slice Aw s.words.length cw) (.slice Ap s.proof.length cp))) (by simp); obtain ⟨s0, s1, s2, s3, s4, s5, s6, s7, s8, s9, s10, s11, s12, s13, s14, s15, sf⟩ := AF hS1; have sl := Af hS1; have hW1 := (Ad.alloc [] w (stO s (.slice Aw s.words.length cw) (.slice Ap s.proof.length cp))).trans hs1; have l01 := hW1.cell l0 (by simp); have l11 := hW1.cell l1 (by simp); have n21 := hW1.cell n2 (by simp); have ll1 := Nat.lt_of_lt_of_le ll hW1.size; have nl1 := Nat.lt_of_lt_of_le nl hW1.size; have HSb := Kd hS1; have HW := Kd hW1; clear hs1 hS1 hW1)) | (go_at_call 73; go_must (refine (hap _ HW.out).mono ?_; rintro e2 W2 ⟨v2, rfl, hr2, hs2, hf2⟩; obtain ⟨A2, c2, rfl⟩ := hr2.shape; have hS2 := hs2.get HSb.out (by simp); obtain ⟨q0, q1, q2, q3, q4, q5, q6, q7, q8, q9, q10, q11, q12, q13, q14, q15, qf⟩ := AF hS2; have ql := Af hS2; have HW2 := Kd (HW.out.trans hs2); have Hf2 := Kd (AH.mono hf2 HW.out.size); have HS2 := Kd hS2; have Hr2 := Kd hr2; have l02 := HW2.out.cell l0 (by simp); have l12 := HW2.out.cell l1 (by simp); have ll2 := Nat.lt_of_lt_of_le ll HW2.out.size; clear hr2 hs2 hf2 hS2)) | (go_at_call 71; go_must (refine (hhy _ HW2.out _ ⟨Hr2.out, B1 HM.out Hf2.out⟩).mono ?_; rintro e3 W3 ⟨rfl, V3, hL3, hmv3'⟩)))
  exact zq9
theorem Qe {v : List Int} (h : v.length = 2) : ∃ a b, v = [a, b] := by
 match v, h with
 | [a, b], _ => exact ⟨a, b, rfl⟩
theorem L9 (w : World) (F : LF) (V : LV) (L : Ld) (s : St) (Aw Ap : Option Addr) (cw cp : Nat) (h : Ca w F V L s Aw Ap cw cp) (hlx : s.label.text.size = 0 ∨ (s.label.text.size ≠ 0 ∧ L.label s.label = .ok ())) :
  Calls Tryz.prog 32 #[.pointer (some ⟨F.l, 0, none⟩), stV s (.slice Aw s.words.length cw) (.slice Ap s.proof.length cp)] w (LdX F V (L.act s) w) := by
 by_cases k8 : s.kind = 8
 ·exact Pj w F V L s Aw Ap cw cp h hlx k8
 by_cases k9 : s.kind = 9
 ·exact Om w F V L s Aw Ap cw cp h hlx k9
 by_cases k1 : s.kind = 1
 ·by_cases hd : 0 < L.tbl.scopes.length
  ·exact Kv w F V L s Aw Ap cw cp h hlx k1 hd
  ·exact NJ w F V L s Aw Ap cw cp h hlx k1 hd
 by_cases k2 : s.kind = 2
 ·exact Qn w F V L s Aw Ap cw cp h hlx k2
 by_cases k5 : s.kind = 5
 ·cases he : L.apart s.words with
  | error p => exact KF w F V L s Aw Ap cw cp h hlx k5 p.1 p.2 he
  | ok v =>
   cases hwh : s.whole with
   | false => exact JA w F V L s Aw Ap cw cp h hlx k5 v he hwh
   | true => exact O2 w F V L s Aw Ap cw cp h hlx k5 v he hwh
 by_cases k3 : s.kind = 3
 ·cases he : L.floatGo s.words [] with
  | error p => exact J0 w F V L s Aw Ap cw cp h hlx k3 p.1 p.2 he
  | ok v =>
   cases hwh : s.whole with
   | false => exact I6 w F V L s Aw Ap cw cp h hlx k3 v he hwh
   | true =>
    have hl := EE L s.words [] v he
    have hg := h.good k3 hwh
    obtain ⟨a, b, rfl⟩ := Qe (v := v) (by simp at hl; omega)
    cases hx : L.hyp s ⟨s.label.text, true, b, [a, b]⟩ with
    | error p => exact Ke w F V L s Aw Ap cw cp h hlx k3 a b he hwh p.1 p.2 hx
    | ok M => exact NH w F V L s Aw Ap cw cp h hlx k3 a b he hwh M hx
 by_cases k4 : s.kind = 4
 ·cases he : L.exprGo s.words [] with
  | error p => exact LJ w F V L s Aw Ap cw cp h hlx k4 p.1 p.2 he
  | ok v =>
   cases hwh : s.whole with
   | false => exact KG w F V L s Aw Ap cw cp h hlx k4 v he hwh
   | true =>
    cases hx : L.hyp s ⟨s.label.text, false, -1, v⟩ with
    | error p => exact LE w F V L s Aw Ap cw cp h hlx k4 v he hwh p.1 p.2 hx
    | ok M => exact PV w F V L s Aw Ap cw cp h hlx k4 v he hwh M hx
 by_cases k6 : s.kind = 6
 ·cases he : L.exprGo s.words [] with
  | error p => exact Ly w F V L s Aw Ap cw cp h hlx k6 p.1 p.2 he
  | ok v =>
   cases hwh : s.whole with
   | false => exact KA w F V L s Aw Ap cw cp h hlx k6 v he hwh
   | true =>
    cases hx : L.assert s v with
    | error p => exact LX w F V L s Aw Ap cw cp h hlx k6 v he hwh p.1 p.2 hx
    | ok M => exact ME w F V L s Aw Ap cw cp h hlx k6 v he hwh M hx
 by_cases k7 : s.kind = 7
 ·cases he : L.exprGo s.words [] with
  | error p => exact Lu w F V L s Aw Ap cw cp h hlx k7 p.1 p.2 he
  | ok v =>
   cases hwh : s.whole with
   | false => exact KJ w F V L s Aw Ap cw cp h hlx k7 v he hwh
   | true =>
    cases hx : L.assert s v with
    | error p => exact Lz w F V L s Aw Ap cw cp h hlx k7 v he hwh p.1 p.2 hx
    | ok M => exact Mz w F V L s Aw Ap cw cp h hlx k7 v he hwh M hx
 exact Pb w F V L s Aw Ap cw cp h hlx (by omega)
theorem Mk (w : World) (F : LF) (V : LV) (L : Ld) (s : St) (Aw Ap : Option Addr) (cw cp : Nat) (h : Ca w F V L s Aw Ap cw cp) :
  Calls Tryz.prog 32 #[.pointer (some ⟨F.l, 0, none⟩), stV s (.slice Aw s.words.length cw) (.slice Ap s.proof.length cp)] w (LdX F V (L.take s) w) := by
 by_cases hl : s.label.text.size = 0
 ·have : L.take s = L.act s := by unfold Ld.take; rw [if_neg (by omega)]
  rw [this]
  exact L9 w F V L s Aw Ap cw cp h (.inl hl)
 ·cases he : L.label s.label with
  | error p => exact KK w F V L s Aw Ap cw cp h hl p.1 p.2 he
  | ok u =>
   have : L.take s = L.act s := by unfold Ld.take; rw [if_pos hl, he]; rfl
   rw [this]
   exact L9 w F V L s Aw Ap cw cp h (.inr ⟨hl, he⟩)
theorem Tryz.assertFault (v : Value) (w : World) : (Instr.typeAssert (.iface 29 v) 20 29 true).run Tryz.prog w = .ok (.tuple #[v, .bool true]) w := by kernel_rfl
theorem zq64 {P : Prop} (h : P := by
 refine callsD_of_wpS Tryz.func27 rfl fun c₀ cs hu => ?_
 apply wpS_seq
 apply wpS_region
 simp [wpOpsS, go_sem, recoverD, hu, Tryz.ntmps27, Exit.thenS]
 refine wpS_of_wp ?_
 go_wp2
 cases c₀
 simp_all [bodyPostS, results, Tryz.results27, Exit.thenS]) : P := h
theorem Fs (p q : Addr) (w : World) :
  CallsD Tryz.prog 27 #[.pointer (some p), .pointer (some q)] .returning w fun e u' w' => e = .returned (.tuple #[]) ∧ u' = .returning ∧ w' = w := by
 exact zq64
theorem Ml (i j b : Nat) (hij : i ≠ j) (older : List PanicEntry) (w : World) (x y : Value) (hx : w.cell? ⟨i, 0, none⟩ = some x) (hfp : w.frozen? ⟨i, 0, none⟩ = false) (hy : w.cell? ⟨j, 0, none⟩ = some y) (hfq : w.frozen? ⟨j, 0, none⟩ = false) :
  CallsD Tryz.prog 27 #[.pointer (some ⟨i, 0, none⟩), .pointer (some ⟨j, 0, none⟩)] (.panicking ({ v := .iface 29 (.pointer (some ⟨b, 0, none⟩)), recovered := false } :: older)) w fun e u' w' =>
   e = .returned (.tuple #[]) ∧ u' = .panicking ({ v := .iface 29 (.pointer (some ⟨b, 0, none⟩)), recovered := true } :: older) ∧ w' = (w.setCell ⟨i, 0, none⟩ (.pointer none)).setCell ⟨j, 0, none⟩ (.pointer (some ⟨b, 0, none⟩)) := by
 have haf := Tryz.assertFault (.pointer (some ⟨b, 0, none⟩))
 exact zq64
theorem Qu (w : World) (t : Nat) : Calls Tryz.prog 29 #[fnV t] w fun e w' => ∃ s A, e = .returned (.pointer (some ⟨s, 0, none⟩)) ∧ (∀ M, (∀ b ∈ A.blocks s, b ∈ M) → Bq w' s t A M [⟨[], []⟩]) ∧ Ad [] w w' ∧ ∀ b ∈ A.blocks s, w.heap.size ≤ b := by
 unfold fnV
 obtain ⟨i, hi, hz0, hz1, hz2⟩ := Co Tryz.infoScope'
 go_enter Tryz.func29, Tryz.ntmps29
 go_wp2_with (at_make; go_must (refine wpList_make_full _ rfl _ _ 132 rfl 0 218 i _ 2 Tryz.underlying132 hi hz0 hz1 .i64 .i64 1 1 1 rfl rfl rfl rfl (by rw [hz2]; decide) (by decide) (Nat.zero_le _) ?_; intro w1 hr1 hg1; have hs1 := Ad.of_grown hg1; have hwl : w.heap.size < w1.heap.size := Row.lt hr1 rfl; have Hr1 := Kd hr1; have Hs1 := Kd hs1; clear hr1 hg1 hs1))
 go_ret
 have hr1 : Row w1 218 2 (.slice (some ⟨w.heap.size, 0, none⟩) 1 1) 1 [.slice none 0 0, .slice none 0 0] := by
  have hm : (madeCells (Value.agg #[.slice none 0 0, .slice none 0 0]).cells (1 * 2)).toList = [.slice none 0 0, .slice none 0 0] := by kernel_rfl
  rw [← hm]
  exact Hr1.out
 have hs1 : Ad [] w w1 := Hs1.out
 refine ⟨w1.heap.size, ⟨.slice (some ⟨w.heap.size, 0, none⟩) 1 1, [⟨.slice none 0 0, .slice none 0 0, []⟩]⟩, rfl, fun M hM => ?_, hs1.trans (Ad.alloc _ _ _), ?_⟩
 ·refine ⟨Aj _ _, hr1.same (Ad.alloc [] _ _) (by simp), ⟨⟨⟨World.ownsRow_nil _ _ _ _, trivial, by simp⟩, Fix.nil _ _ _ _⟩, trivial⟩, hM, ?_, by simp, by simp⟩
  intro i j p q b hi hj hp hq
  have := List.mem_of_getElem? hi
  simp at this
  subst this
  simp [Value.ownBlock] at hp
 ·intro b hb
  rcases SA.mem_blocks.1 hb with rfl | hb | ⟨p, hp, hb⟩
  ·exact hs1.size
  ·simp [Value.ownBlock] at hb; omega
  ·simp at hp; subst hp; simp [Value.ownBlock] at hb
theorem Qh {W : World} {F : LF} {TA : TA} {A : SA} (hl : W.heap[F.l]? = some (.cells #[.pointer (some ⟨F.nb, 0, none⟩), .pointer (some ⟨F.s, 0, none⟩), .int .i64 0] 92 (0, 0)))
  (hnb : W.heap[F.nb]? = some (.cells #[.string F.text, F.sv, .pointer (some ⟨F.t, 0, none⟩), .map (some F.mn), .slice none 0 0, .map (some F.mf), .map (some F.mh)] 89 (0, 0)))
  (hT : AW W F.t TA Tbl.empty) (hS : Bq W F.s F.t A (LV.blocks ⟨TA, A, .slice none 0 0, [], []⟩ F) [⟨[], []⟩]) (h1 : BN W F.mn []) (h2 : BN W F.mf []) (h3 : BN W F.mh []) (h4 : F.mn ≠ F.mf ∧ F.mn ≠ F.mh ∧ F.mf ≠ F.mh) (h5 : ∀ b ∈ TA.blocks F.t, b ≠ F.mn ∧ b ≠ F.mf ∧ b ≠ F.mh) :
  BR W F ⟨TA, A, .slice none 0 0, [], []⟩ Ld.new :=
 ⟨hl, hnb, hT, hS, h1, h2, h3, trivial, World.ownsRow_nil _ _ _ _, trivial, h4, h5⟩
structure BP where
 t : Nat
 mn : Nat
 mf : Nat
 mh : Nat
 sv : Value
 TA : TA
 av : Value
 aps : List AsP
 hm : List (ByteArray × Value)
structure FG (w : World) (nb : Nat) (P : BP) (B : Bs) : Prop where
 blk : w.heap[nb]? = some (.cells #[.string B.text, P.sv, .pointer (some ⟨P.t, 0, none⟩), .map (some P.mn), P.av, .map (some P.mf), .map (some P.mh)] 89 (0, 0))
 stmts : Es w P.sv B.stmts
 tbl : AW w P.t P.TA B.ld.tbl
 nums : BN w P.mn (Cd (E2 B.ld.tbl))
 finds : BN w P.mf (Cd B.ld.finds)
 hyps : BN w P.mh P.hm
 hin : Bm (E0 w []) B.ld.hyps P.hm
 asr : Row w 71 17 P.av B.ld.asserts.length (CN B.ld.asserts P.aps)
 ain : Bm (E5 w []) B.ld.asserts P.aps
theorem FG.same {w w' : World} {nb : Nat} {P : BP} {B : Bs} (h : FG w nb P B) (hs : Ad [] w w') : FG w' nb P B :=
 ⟨hs.get h.blk (by simp), h.stmts.same hs, h.tbl.same hs (by simp), h.nums.same hs (by simp), h.finds.same hs (by simp), h.hyps.same hs (by simp), h.hin.imp fun _ _ => E0.move (AN.of_same hs), h.asr.same hs (by simp), h.ain.imp fun _ _ => E5.move (AN.of_same hs)⟩
def Py (t : ByteArray) (w : World) (e : Ending) (w' : World) : Prop := Ad [] w w' ∧ match CB t with
 | .error f => ∃ v, e = .returned (.tuple #[.pointer none, v]) ∧ CR w' v (some f)
 | .ok B => ∃ nb P, e = .returned (.tuple #[.pointer (some ⟨nb, 0, none⟩), .pointer none]) ∧ FG w' nb P B
theorem Dj.same {w w' : World} (h : Dj w) (hs : Ad [] w w') : Dj w' := by obtain ⟨m, hm⟩ := h; exact ⟨m, hs.cell hm (by simp)⟩
def P1 : List (Option TypeId) := [some 92, some 89, some 71, none, some 131, some 136, some 212, some 9, some 3, some 134, some 218, some 49]
theorem Ty.mono {w : World} {ts ts' : List (Option TypeId)} {b : Nat} (h : Ty w ts b) (hd : ∀ t ∈ ts, t ∈ ts') : Ty w ts' b := by obtain ⟨t, h1, h2⟩ := h; exact ⟨t, h1, hd t h2⟩
theorem BR.tys {w : World} {F : LF} {V : LV} {L : Ld} (h : BR w F V L) : ∀ b ∈ V.blocks F, Ty w P1 b := by
 have ty := h.ty
 intro b hb
 rcases LV.mem.1 hb with rfl | rfl | rfl | rfl | rfl | hb | hb | hb
 ·exact ty.l.mono (by decide)
 ·exact ty.nb.mono (by decide)
 ·exact ty.mn.mono (by decide)
 ·exact ty.mf.mono (by decide)
 ·exact ty.mh.mono (by decide)
 ·exact (ty.av b hb).mono (by decide)
 ·exact (ty.t b hb).mono (by decide)
 ·exact (ty.s b hb).mono (by decide)
theorem BR.notRow {w : World} {F : LF} {V : LV} {L : Ld} (h : BR w F V L) {e k n : Nat} {v : Value} {xs : List Value} (hr : Row w e k v n xs) (he : some e ∉ P1) : ∀ b, v.ownBlock = some b → b ∉ V.blocks F := fun b hb hm =>
 (h.tys b hm).no (Ty.one (hr.ty hb)) fun t ht h1 => by
  have := List.mem_singleton.1 h1
  subst this
  exact he ht
theorem BR.notCells {w : World} {F : LF} {V : LV} {L : Ld} (h : BR w F V L) {b : Nat} {cs : Array Value} {t : TypeId} {fr : Nat × Nat} (hb : w.heap[b]? = some (.cells cs t fr)) (ht : some t ∉ P1) : b ∉ V.blocks F := fun hm =>
 (h.tys b hm).no (Ty.one (Du hb)) fun u hu h1 => by
  have := List.mem_singleton.1 h1
  subst this
  exact ht hu
theorem BR.setSv {w w' : World} {F : LF} {V : LV} {L : Ld} (h : BR w F V L) {v : Value} (hb : w'.heap[F.nb]? = some (.cells #[.string F.text, v, .pointer (some ⟨F.t, 0, none⟩), .map (some F.mn), V.av, .map (some F.mf), .map (some F.mh)] 89 (0, 0))) (hs : Ad [F.nb] w w') :
  BR w' { F with sv := v } V L ∧ AN (V.blocks F) (V.blocks { F with sv := v }) w w' := by
 have ty := h.ty
 have m : AN (V.blocks F) (V.blocks F) w w' := ⟨fun b hb => .inl hb, hs.mono fun b hb => .inl (LV.mem.2 (.inr (.inl (List.mem_singleton.1 hb))))⟩
 have no : ∀ {ts : List (Option TypeId)} {b : Nat}, Ty w ts b → (∀ t ∈ ts, t ∉ [some 89]) → b ∉ [F.nb] := fun {ts b} hb hd hm => by
  have := List.mem_singleton.1 hm
  subst this
  exact hb.no ty.nb hd
 exact ⟨⟨hs.get h.lb (no ty.l (by decide)), hb, h.tbl.same hs fun b hb => no (ty.t b hb) (by decide), h.stk.move m (fun b hb => hs.block b (h.stk.lt b hb) (no (ty.s b hb) (by decide))) h.stk.sub,
  h.nums.same hs (no ty.mn (by decide)), h.finds.same hs (no ty.mf (by decide)), h.hyps.same hs (no ty.mh (by decide)), h.hin.imp fun _ _ => E0.move m, h.asr.same hs fun b hb => no (ty.av b hb) (by decide), h.ain.imp fun _ _ => E5.move m, h.maps, h.mapt⟩, m⟩
structure DD (w : World) (M : List Nat) (v : Value) (sv : List (Value × Value)) (l : List St) : Prop where
 row : Fix w M 98 16 v l.length (BY l sv)
 inn : Bm (F3 w M) l sv
theorem DD.move {w w' : World} {M M' : List Nat} (m : AN M M' w w') {v : Value} {sv : List (Value × Value)} {l : List St} (h : DD w M v sv l) : DD w' M' v sv l := ⟨h.row.move m, h.inn.imp fun _ _ => F3.move m⟩
theorem BR.stmts {w : World} {F : LF} {V : LV} {L : Ld} (h : BR w F V L) {v : Value} {l : List St} (hs : Es w v l) : ∃ sv, DD w (V.blocks F) v sv l := by
 obtain ⟨sv, h1, h2⟩ := hs
 exact ⟨sv, ⟨h1, h.notRow h1 (by decide)⟩, h2.imp fun _ _ hp => ⟨⟨hp.1.row, h.notRow hp.1.row (by decide)⟩, ⟨hp.2.row, h.notRow hp.2.row (by decide)⟩⟩⟩
theorem DD.at_ {w : World} {M : List Nat} {v : Value} {sv : List (Value × Value)} {l : List St} (h : DD w M v sv l) : Es w v l := ⟨sv, h.row.row, h.inn.imp fun _ _ hp => hp.all⟩
theorem De (s : St) (p q : Value) : (s.cells p q).length = 16 := rfl
theorem IW : ∀ (l : List St) (m : List (Value × Value)) (k : Nat) (h : k < l.length) (h2 : k < m.length), ((BY l m).drop (k * 16)).take 16 = l[k].cells m[k].1 m[k].2
 | x :: l, y :: m, 0, _, _ => by
  show ((x.cells y.1 y.2 ++ BY l m).drop (0 * 16)).take 16 = x.cells y.1 y.2
  rw [Nat.zero_mul, List.drop_zero, List.take_append_of_le_length (by rw [De]; omega), List.take_of_length_le (by rw [De]; omega)]
 | x :: l, y :: m, k + 1, h, h2 => by
  have := IW l m k (by simpa using h) (by simpa using h2)
  rw [show (k + 1) * 16 = 16 + k * 16 by omega, ← List.drop_drop]
  have e : (BY (x :: l) (y :: m)).drop 16 = BY l m := by
   show (x.cells y.1 y.2 ++ BY l m).drop 16 = BY l m
   rw [List.drop_append_of_le_length (by rw [De]; omega), List.drop_of_length_le (by rw [De]; omega), List.nil_append]
  rw [e]
  simpa using this
theorem DD.get {w : World} {M : List Nat} {v : Value} {sv : List (Value × Value)} {l : List St} (h : DD w M v sv l) {k : Nat} (hk : k < l.length) :
  ∃ g c Aw cw Ap cp, v = .slice (some ⟨g, 0, none⟩) l.length c ∧ (∀ j u, (l[k].cells (.slice Aw l[k].words.length cw) (.slice Ap l[k].proof.length cp))[j]? = some u → w.cell? ⟨g, k * 16 + j, none⟩ = some u) ∧ g < w.heap.size ∧
   Fix w M 59 4 (.slice Aw l[k].words.length cw) l[k].words.length (AC l[k].words) ∧ Fix w M 59 4 (.slice Ap l[k].proof.length cp) l[k].proof.length (AC l[k].proof) := by
 have hl : k < sv.length := by rw [h.inn.len]; exact hk
 obtain ⟨p, hp, hin⟩ := h.inn.get (List.getElem?_eq_getElem hk)
 have hpe : sv[k] = p := by rw [List.getElem?_eq_getElem hl] at hp; exact Option.some.inj hp
 obtain ⟨Aw, cw, hw⟩ := hin.1.row.shape
 obtain ⟨Ap, cp, hpp⟩ := hin.2.row.shape
 obtain ⟨g, c, hv, hc⟩ := h.row.row.elem (i := k) hk (ys := l[k].cells p.1 p.2) (De _ _ _) (by rw [IW _ _ _ hk hl, hpe]) (by decide)
 have h1 := hin.1
 have h2 := hin.2
 rw [hw, hpp] at hc
 rw [hw] at h1
 rw [hpp] at h2
 refine ⟨g, c, Aw, cw, Ap, cp, hv, fun j u hj => ?_, World.block_lt_of_cell? _ _ (hc 0 (by decide)).1, h1, h2⟩
 have hj16 : j < 16 := by
  have := (List.getElem?_eq_some_iff.1 hj).1
  rw [De] at this
  exact this
 rw [(hc j hj16).1]
 simp [List.getD_eq_getElem?_getD, hj]
theorem CR.move {w w' : World} {M M' : List Nat} (m : AN M M' w w') {v : Value} {o : Option Flt} (h : CR w v o) (hn : ∀ b, v = .pointer (some ⟨b, 0, none⟩) → b ∉ M) : CR w' v o := by
 cases o with
 | none => exact h
 | some f =>
  obtain ⟨b, h1, h2⟩ := h
  exact ⟨b, h1, m.same.get h2 (hn b h1)⟩
theorem BR.notFlt {w : World} {F : LF} {V : LV} {L : Ld} (h : BR w F V L) {v : Value} {o : Option Flt} (hf : CR w v o) : ∀ b, v = .pointer (some ⟨b, 0, none⟩) → b ∉ V.blocks F := fun b hb => by
 cases o with
 | none => have : v = .pointer none := hf; rw [this] at hb; cases hb
 | some f =>
  obtain ⟨c, h1, h2⟩ := hf
  rw [h1] at hb
  cases hb
  exact h.notCells h2 (by decide)
theorem Fix.fin {w w7 : World} {M : List Nat} {m i j : Nat} (hs : Ad [m, i, j] w w7) (hm : m ∈ M) (hi : w.heap[i]? = some (.cells #[.pointer none] 28 (0, 0))) (hj : w.heap[j]? = some (.cells #[.pointer none] 29 (0, 0)))
  {e k n : Nat} {v : Value} {xs : List Value} (h : Fix w M e k v n xs) (h1 : e ≠ 28) (h2 : e ≠ 29) : Fix w7 [] e k v n xs :=
 ⟨h.row.same hs fun b hb hx => by
  simp only [List.mem_cons, List.not_mem_nil, or_false] at hx
  rcases hx with rfl | rfl | rfl
  ·exact h.not b hb hm
  ·exact h.row.ne hi h1 hb
  ·exact h.row.ne hj h2 hb, by simp⟩
theorem Bi.fin {w w7 : World} {M : List Nat} {m i j : Nat} (hs : Ad [m, i, j] w w7) (hm : m ∈ M) (hi : w.heap[i]? = some (.cells #[.pointer none] 28 (0, 0))) (hj : w.heap[j]? = some (.cells #[.pointer none] 29 (0, 0)))
  {v : Value} {evs : List Value} {l : List Hy} (h : Bi w M v evs l) (hn : ∀ b, v.ownBlock = some b → b ∉ M) : Bi w7 [] v evs l :=
 ⟨(Fix.fin hs hm hi hj ⟨h.row, hn⟩ (by decide) (by decide)).row, h.exprs.imp fun _ _ hx => Fix.fin hs hm hi hj hx (by decide) (by decide), h.flo⟩
theorem Rv {w w7 : World} {F : LF} {V : LV} {L : Ld} (h : BR w F V L) {i j : Nat} (hi : w.heap[i]? = some (.cells #[.pointer none] 28 (0, 0))) (hj : w.heap[j]? = some (.cells #[.pointer none] 29 (0, 0)))
  (hs : Ad [F.mn, i, j] w w7) (hn : BN w7 F.mn (Cd (E2 L.tbl))) {sts : List St} {sv : List (Value × Value)} (hst : DD w (V.blocks F) F.sv sv sts) :
  FG w7 F.nb ⟨F.t, F.mn, F.mf, F.mh, F.sv, V.TA, V.av, V.aps, V.hm⟩ ⟨F.text, sts, L⟩ := by
 have ty := h.ty
 have hmM : F.mn ∈ V.blocks F := LV.mem.2 (.inr (.inr (.inl rfl)))
 have hni := h.notCells hi (by decide)
 have hnj := h.notCells hj (by decide)
 have no : ∀ {b : Nat}, b ∈ V.blocks F → b ≠ F.mn → b ∉ [F.mn, i, j] := fun {b} hb h1 hx => by
  simp only [List.mem_cons, List.not_mem_nil, or_false] at hx
  rcases hx with rfl | rfl | rfl
  ·exact h1 rfl
  ·exact hni hb
  ·exact hnj hb
 have tyn : ∀ {ts : List (Option TypeId)} {b : Nat}, Ty w ts b → (∀ t ∈ ts, t ∉ [(none : Option TypeId)]) → b ≠ F.mn := fun {ts b} hb hd e => by
  subst e
  exact hb.no ty.mn hd
 refine ⟨hs.get h.nbb (no (LV.mem.2 (.inr (.inl rfl))) (tyn ty.nb (by decide))), ⟨sv, (Fix.fin hs hmM hi hj hst.row (by decide) (by decide)).row, hst.inn.imp fun _ _ hp => ⟨Fix.fin hs hmM hi hj hp.1 (by decide) (by decide), Fix.fin hs hmM hi hj hp.2 (by decide) (by decide)⟩⟩,
  h.tbl.same hs fun b hb => no (LV.mem.2 (.inr (.inr (.inr (.inr (.inr (.inr (.inl hb)))))))) (h.mapt b hb).1, hn, h.finds.same hs (no (LV.mem.2 (.inr (.inr (.inr (.inl rfl))))) h.maps.1.symm), h.hyps.same hs (no (LV.mem.2 (.inr (.inr (.inr (.inr (.inl rfl)))))) h.maps.2.1.symm),
  h.hin.imp fun a b hx => ⟨hx.1, hx.2.elim fun ev he => ⟨ev, he.1, Fix.fin hs hmM hi hj he.2 (by decide) (by decide)⟩⟩,
  h.asr.same hs fun b hb => no (LV.mem.2 (.inr (.inr (.inr (.inr (.inr (.inl hb))))))) (tyn (ty.av b hb) (by decide)),
  h.ain.imp fun a p hx => ⟨hx.fh.fin hs hmM hi hj hx.fhn, by simp, Fix.fin hs hmM hi hj hx.fp (by decide) (by decide), Fix.fin hs hmM hi hj hx.fg (by decide) (by decide), hx.sh.fin hs hmM hi hj hx.shn, by simp, Fix.fin hs hmM hi hj hx.sp (by decide) (by decide), Fix.fin hs hmM hi hj hx.pr (by decide) (by decide)⟩⟩
def OH (T : Tbl) (k : Nat) : List (ByteArray × Nat) := (T.syms.zipIdx.take k).foldl (fun m p => Bd p.1.1 p.2 m) []
theorem OJ (T : Tbl) (k : Nat) (hk : k < T.syms.length) : OH T (k + 1) = Bd T.syms[k].1 k (OH T k) := by
 unfold OH
 have hk' : k < T.syms.zipIdx.length := by simpa using hk
 rw [List.take_succ_eq_append_getElem hk', List.foldl_append]
 simp
theorem Qp (T : Tbl) : OH T T.syms.length = E2 T := by
 unfold OH E2
 rw [List.take_of_length_le (by simp)]
theorem MK (t : ByteArray) : CZ ⟨⟨t.size, 1 + Lib.countByte t.data.toList 10, (t.size - Lib.lastIndexByte t 10).toNat⟩, ⟨#[]⟩, 23⟩ =
  .cells #[.int .i64 (BK t).1, .int .i64 (BK t).2.1, .int .i64 (BK t).2.2, .string ⟨#[]⟩, .int .i64 23] 103 := by
 exact zq43
end Go.Proofs.YtbfbgfpghkijdaaGreatDoor
