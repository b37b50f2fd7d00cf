/- lemmalaw texts, part 39. -/
import Derived.Test.YtdhkmfpfbjcdiaaGreatDoorYab
import Derived.Test.YtdhkmfpfbjcdiaaGreatDoorYbh
import Derived.Test.YtdhkmfpfbjcdiaaGreatDoorYbi
import Derived.Test.YtdhkmfpfbjcdiaaGreatDoorYbj
import Derived.Test.YtdhkmfpfbjcdiaaGreatDoorYbk
import Derived.Test.YtdhkmfpfbjcdiaaGreatDoorYbl
import Derived.Defers
import Derived.Recover
set_option maxRecDepth 100000
set_option linter.unusedVariables false
set_option linter.unusedSimpArgs false
set_option maxHeartbeats 32000000
namespace Go.Proofs.YtdhkmfpfbjcdiaaGreatDoor
open Go.RowKit
theorem take_ess_err (w : World) (F : LF) (V : LV) (L : Ld) (s : St) (Aw Ap : Option Addr) (cw cp : Nat) (h : TakeH w F V L s Aw Ap cw cp) (hlx : s.label.text.size = 0 ∨ (s.label.text.size ≠ 0 ∧ L.label s.label = .ok ())) (hk : s.kind = 4) (v : List Int) (he : L.exprGo s.words [] = .ok v) (hwh : s.whole = true) (t : Tk) (n : Nat) (hx : L.hyp s ⟨s.label.text, false, -1, v⟩ = .error (t, n)) :
  Calls Tryz.prog 29 #[.pointer (some ⟨F.l, 0, none⟩), stV s (.slice Aw s.words.length cw) (.slice Ap s.proof.length cp)] w (LdX F V (L.act s) w) := by
 have hlc := fun (W : World) (hW : Same [] w W) => llabel_calls W F V L (h.ld.same hW) s.label h.sin.label.max
 have H := Kd h
 have l0 := blk_c (i := 0) (v := .pointer (some ⟨F.nb, 0, none⟩)) h.ld.lb
 have l1 := blk_c (i := 1) (v := .pointer (some ⟨F.s, 0, none⟩)) h.ld.lb
 have ll := blk_lt h.ld.lb
 have n2 := blk_c (i := 2) (v := .pointer (some ⟨F.t, 0, none⟩)) h.ld.nbb
 have nl := blk_lt h.ld.nbb
 have hact : L.act s = (L.hyp s ⟨s.label.text, false, -1, v⟩).bind fun M => (needE s.end_ (essS M.tbl.isVar M.scs s.label.text v).1).bind fun _ => .ok { M with scs := (essS M.tbl.isVar M.scs s.label.text v).2 } := by
  unfold Ld.act
  rw [if_neg (by omega), if_neg (by omega), if_neg (by omega), if_neg (by omega), if_neg (by omega), if_neg (by omega), if_pos hk, he]
  simp [hwh, Except.bind]
 have hres : L.act s = .error (t, n) := by rw [hact, hx]; rfl
 have HR := Kd hres
 clear hact hres
 have hap := fun (W : World) (hW : Same [] w W) => expr_calls W F.l F.nb F.t F.s V.TA V.A (V.blocks F) L ((h.ld.lr h.ok.small).same hW) _ s.words (h.words.row.same hW (by simp)) (by have := h.sin.wl; omega)
 have hlab : L.labels ≤ 1000000 := by have := h.ok.le; omega
 have hhy := fun (W : World) (hW : Same [] w W) (ev : Value) (hv : Ints W (V.blocks F) ev v) => lhyp_calls W F V L (h.ld.same hW) hlab s Aw Ap s.words.length cw s.proof.length cp ⟨s.label.text, false, -1, v⟩ h.sin.label.max ev hv
 rw [hx] at hhy
 unfold stV hyV LdX at hhy
 dsimp only at hhy
 rw [he] at hap
 unfold IntsX at hap
 rw [whole_iff] at hwh
 have HM := Kd h.ld.lt
 clear he hx
 have kb8 : ((s.kind : Int) == 8) = false := by rw [hk]; rfl
 have kb9 : ((s.kind : Int) == 9) = false := by rw [hk]; rfl
 have kb1 : ((s.kind : Int) == 1) = false := by rw [hk]; rfl
 have kb2 : ((s.kind : Int) == 2) = false := by rw [hk]; rfl
 have kb5 : ((s.kind : Int) == 5) = false := by rw [hk]; rfl
 have kb3 : ((s.kind : Int) == 3) = false := by rw [hk]; rfl
 have kb4 : ((s.kind : Int) == 4) = true := by rw [hk]; rfl
 have kb6 : ((s.kind : Int) == 6) = false := by rw [hk]; rfl
 have kb7 : ((s.kind : Int) == 7) = false := by rw [hk]; rfl
 clear hk
 unfold stV
 unfold tkV at hlc
 clear h
 rcases hlx with hle | ⟨hle, hlo⟩
 ·have hle' : s.label.text.toList.isEmpty = true := by rw [tl_empty]; simp [hle]
  have HW := hwT0 w s Aw Ap cw cp
  have HSb := Kd (blk_new w (stO s (.slice Aw s.words.length cw) (.slice Ap s.proof.length cp)))
  clear hle hlc
  go_enter Tryz.func29, Tryz.ntmps29
  go_wp2_with (first | (go_at_call 76; go_must (refine (hap _ HW.out).mono ?_; rintro e2 W2 ⟨v2, rfl, hr2, hs2, hf2⟩; obtain ⟨A2, c2, rfl⟩ := hr2.shape; have hS2 := hs2.get HSb.out (by simp); obtain ⟨q0, q1, q2, q3, q4, q5, q6, q7, q8, q9, q10, q11, q12, q13, q14, q15, qf⟩ := stO_cells hS2; have ql := blk_lt hS2; have HW2 := Kd (HW.out.trans hs2); have Hf2 := Kd (FreshB.mono hf2 HW.out.size); have HS2 := Kd hS2; have Hr2 := Kd hr2; have l02 := HW2.out.cell l0 (by simp); have l12 := HW2.out.cell l1 (by simp); have ll2 := Nat.lt_of_lt_of_le ll HW2.out.size; clear hr2 hs2 hf2 hS2)) | (go_at_call 74; go_must (refine (hhy _ HW2.out _ ⟨Hr2.out, fresh_not HM.out Hf2.out⟩).mono ?_; rintro e3 W3 ⟨b', rfl, hf, hs⟩)))
  refine ⟨rfl, ?_⟩
  show LdX F V (L.act s) w _ _
  rw [HR.out]
  exact StopM.after ⟨b', rfl, hf, hs⟩ (Move.of_same HW2.out)
 ·have hle' : s.label.text.toList.isEmpty = false := by rw [tl_empty]; simp [hle]
  rw [hlo] at hlc
  unfold UnitX at hlc
  dsimp only at hlc
  clear hle hlo
  go_enter Tryz.func29, Tryz.ntmps29
  go_wp2_with (first | (go_at_call 62; go_must (refine (hlc _ (Same.alloc [] _ _)).mono ?_; rintro e1 W1 ⟨rfl, hs1⟩; have hS1 := hs1.get (blk_new w (stO s (.slice Aw s.words.length cw) (.slice Ap s.proof.length cp))) (by simp); obtain ⟨s0, s1, s2, s3, s4, s5, s6, s7, s8, s9, s10, s11, s12, s13, s14, s15, sf⟩ := stO_cells hS1; have sl := blk_lt hS1; have hW1 := (Same.alloc [] w (stO s (.slice Aw s.words.length cw) (.slice Ap s.proof.length cp))).trans hs1; have l01 := hW1.cell l0 (by simp); have l11 := hW1.cell l1 (by simp); have n21 := hW1.cell n2 (by simp); have ll1 := Nat.lt_of_lt_of_le ll hW1.size; have nl1 := Nat.lt_of_lt_of_le nl hW1.size; have HSb := Kd hS1; have HW := Kd hW1; clear hs1 hS1 hW1)) | (go_at_call 76; go_must (refine (hap _ HW.out).mono ?_; rintro e2 W2 ⟨v2, rfl, hr2, hs2, hf2⟩; obtain ⟨A2, c2, rfl⟩ := hr2.shape; have hS2 := hs2.get HSb.out (by simp); obtain ⟨q0, q1, q2, q3, q4, q5, q6, q7, q8, q9, q10, q11, q12, q13, q14, q15, qf⟩ := stO_cells hS2; have ql := blk_lt hS2; have HW2 := Kd (HW.out.trans hs2); have Hf2 := Kd (FreshB.mono hf2 HW.out.size); have HS2 := Kd hS2; have Hr2 := Kd hr2; have l02 := HW2.out.cell l0 (by simp); have l12 := HW2.out.cell l1 (by simp); have ll2 := Nat.lt_of_lt_of_le ll HW2.out.size; clear hr2 hs2 hf2 hS2)) | (go_at_call 74; go_must (refine (hhy _ HW2.out _ ⟨Hr2.out, fresh_not HM.out Hf2.out⟩).mono ?_; rintro e3 W3 ⟨b', rfl, hf, hs⟩)))
  refine ⟨rfl, ?_⟩
  show LdX F V (L.act s) w _ _
  rw [HR.out]
  exact StopM.after ⟨b', rfl, hf, hs⟩ (Move.of_same HW2.out)
theorem take_ess (w : World) (F : LF) (V : LV) (L : Ld) (s : St) (Aw Ap : Option Addr) (cw cp : Nat) (h : TakeH w F V L s Aw Ap cw cp) (hlx : s.label.text.size = 0 ∨ (s.label.text.size ≠ 0 ∧ L.label s.label = .ok ())) (hk : s.kind = 4) (v : List Int) (he : L.exprGo s.words [] = .ok v) (hwh : s.whole = true) (M : Ld) (hx : L.hyp s ⟨s.label.text, false, -1, v⟩ = .ok M) :
  Calls Tryz.prog 29 #[.pointer (some ⟨F.l, 0, none⟩), stV s (.slice Aw s.words.length cw) (.slice Ap s.proof.length cp)] w (LdX F V (L.act s) w) := by
 have hlc := fun (W : World) (hW : Same [] w W) => llabel_calls W F V L (h.ld.same hW) s.label h.sin.label.max
 have H := Kd h
 have l0 := blk_c (i := 0) (v := .pointer (some ⟨F.nb, 0, none⟩)) h.ld.lb
 have l1 := blk_c (i := 1) (v := .pointer (some ⟨F.s, 0, none⟩)) h.ld.lb
 have ll := blk_lt h.ld.lb
 have n2 := blk_c (i := 2) (v := .pointer (some ⟨F.t, 0, none⟩)) h.ld.nbb
 have nl := blk_lt h.ld.nbb
 have hact : L.act s = (L.hyp s ⟨s.label.text, false, -1, v⟩).bind fun M => (needE s.end_ (essS M.tbl.isVar M.scs s.label.text v).1).bind fun _ => .ok { M with scs := (essS M.tbl.isVar M.scs s.label.text v).2 } := by
  unfold Ld.act
  rw [if_neg (by omega), if_neg (by omega), if_neg (by omega), if_neg (by omega), if_neg (by omega), if_neg (by omega), if_pos hk, he]
  simp [hwh, Except.bind]
 have hres : ∀ M', L.hyp s ⟨s.label.text, false, -1, v⟩ = .ok M' → True := fun _ _ => trivial
 clear hres
 rw [hx, bind_okk] at hact
 have Hact := Kd hact
 have HMok := Kd (hyp_ok h.ok hx).1
 have hnok := fun W n hn => need_ok W s.end_ n hn
 have hnbad := fun W n hn => need_bad W s.end_ n hn
 unfold tkV at hnok hnbad
 have HnS : Hid (w.heap.size ∉ V.blocks F) := Kd (fun hm => by have := h.ld.lt _ hm; omega)
 clear hact
 have hvl : v.length ≤ 1000000 := by have := exprGo_len L s.words [] v (by simp) he; omega
 have Hvl := Kd hvl
 have hap := fun (W : World) (hW : Same [] w W) => expr_calls W F.l F.nb F.t F.s V.TA V.A (V.blocks F) L ((h.ld.lr h.ok.small).same hW) _ s.words (h.words.row.same hW (by simp)) (by have := h.sin.wl; omega)
 have hlab : L.labels ≤ 1000000 := by have := h.ok.le; omega
 have hhy := fun (W : World) (hW : Same [] w W) (ev : Value) (hv : Ints W (V.blocks F) ev v) => lhyp_calls W F V L (h.ld.same hW) hlab s Aw Ap s.words.length cw s.proof.length cp ⟨s.label.text, false, -1, v⟩ h.sin.label.max ev hv
 rw [hx] at hhy
 unfold stV hyV LdX at hhy
 dsimp only at hhy
 rw [he] at hap
 unfold IntsX at hap
 rw [whole_iff] at hwh
 have HM := Kd h.ld.lt
 clear he hx hvl
 have kb8 : ((s.kind : Int) == 8) = false := by rw [hk]; rfl
 have kb9 : ((s.kind : Int) == 9) = false := by rw [hk]; rfl
 have kb1 : ((s.kind : Int) == 1) = false := by rw [hk]; rfl
 have kb2 : ((s.kind : Int) == 2) = false := by rw [hk]; rfl
 have kb5 : ((s.kind : Int) == 5) = false := by rw [hk]; rfl
 have kb3 : ((s.kind : Int) == 3) = false := by rw [hk]; rfl
 have kb4 : ((s.kind : Int) == 4) = true := by rw [hk]; rfl
 have kb6 : ((s.kind : Int) == 6) = false := by rw [hk]; rfl
 have kb7 : ((s.kind : Int) == 7) = false := by rw [hk]; rfl
 clear hk
 unfold stV
 unfold tkV at hlc
 clear h
 rcases hlx with hle | ⟨hle, hlo⟩
 ·have hle' : s.label.text.toList.isEmpty = true := by rw [tl_empty]; simp [hle]
  have HW := hwT0 w s Aw Ap cw cp
  have HSb := Kd (blk_new w (stO s (.slice Aw s.words.length cw) (.slice Ap s.proof.length cp)))
  clear hle hlc
  go_enter Tryz.func29, Tryz.ntmps29
  go_wp2_with (first | (go_at_call 76; go_must (refine (hap _ HW.out).mono ?_; rintro e2 W2 ⟨v2, rfl, hr2, hs2, hf2⟩; obtain ⟨A2, c2, rfl⟩ := hr2.shape; have hS2 := hs2.get HSb.out (by simp); obtain ⟨q0, q1, q2, q3, q4, q5, q6, q7, q8, q9, q10, q11, q12, q13, q14, q15, qf⟩ := stO_cells hS2; have ql := blk_lt hS2; have HW2 := Kd (HW.out.trans hs2); have Hf2 := Kd (FreshB.mono hf2 HW.out.size); have HS2 := Kd hS2; have Hr2 := Kd hr2; have l02 := HW2.out.cell l0 (by simp); have l12 := HW2.out.cell l1 (by simp); have ll2 := Nat.lt_of_lt_of_le ll HW2.out.size; clear hr2 hs2 hf2 hS2)) | (go_at_call 74; go_must (refine (hhy _ HW2.out _ ⟨Hr2.out, fresh_not HM.out Hf2.out⟩).mono ?_; rintro e3 W3 ⟨rfl, V3, hL3, hmv3'⟩)))
  have Hmb3 := Kd hmv3'.blocks
  have hmv3 := (Move.of_same (M := V.blocks F) HW2.out).trans hmv3'
  have HS3 := Kd (hmv3'.same.get HS2.out HnS.out)
  have hr3 := Hr2.out.same hmv3'.same (fresh_not HM.out Hf2.out)
  clear hmv3'
  have hMlt3 := hL3.lt
  have hst := fun (W : World) (hW : Same [] W3 W) => Ess_calls W F.s F.t V3.A (V3.blocks F) M.scs (hL3.stk.same hW) HMok.out.small (fun b hb => Nat.lt_of_lt_of_le (hMlt3 b hb) hW.size) V3.TA M.tbl (hL3.tbl.same hW (by simp)) s.label.text _ v (hr3.same hW (by simp)) Hvl.out
  have hS3 := HS3.out
  have HMlt3 := Kd hMlt3
  clear l0 l1 ll n2 nl
  try clear l01 l11 n21 ll1 nl1
  have l0 := blk_c (i := 0) (v := .pointer (some ⟨F.nb, 0, none⟩)) hL3.lb
  have l1 := blk_c (i := 1) (v := .pointer (some ⟨F.s, 0, none⟩)) hL3.lb
  have ll := blk_lt hL3.lb
  have n2 := blk_c (i := 2) (v := .pointer (some ⟨F.t, 0, none⟩)) hL3.nbb
  have nl := blk_lt hL3.nbb
  have HL3 := Kd hL3
  have Mv3 := Kd hmv3
  obtain ⟨z0, z1, z2, z3, z4, z5, z6, z7, z8, z9, z10, z11, z12, z13, z14, z15, zf⟩ := stO_cells hS3
  have zl := blk_lt hS3
  clear hMlt3 hL3 hmv3 hS3 hr3
  refine region_canonP (.read 0 (.read 1 (.read 2 (.read 3 (.read 4 (.read 5 (.read 6 (.read 7 (.read 8 (.read 9 (.one 10 [0, 1] (.one 11 [] (.done))))))))))))) (by kernel_rfl) (by kernel_rfl) ?_
  iterate 10 (refine canonP_read rfl (fun K hK => ?_); go_simp; (try go_bits); (try (rw [if_pos (by omega)]; go_simp)); refine hK _ ?_; clear hK K)
  refine canonP_oneL rfl ?_
  go_wp2_with (go_at_call 77; go_must (refine (hst _ (Same.drew [] _)).mono ?_; rintro e4 W4 ⟨rfl, hst4⟩))
  have hst4' := hst4.after (Same.drew [] W3)
  obtain ⟨A4, hL4, hmv4⟩ := HL3.out.setStk hst4'
  have hS4 : W4.heap[w.heap.size]? = some (stO s (.slice Aw s.words.length cw) (.slice Ap s.proof.length cp)) := by
   obtain ⟨A', k1, k2, k3⟩ := hst4
   refine k2.get ((Same.drew [] W3).get HS3.out (by simp)) (fun hm => ?_)
   rcases Hmb3.out _ (LV.mem.2 (.inr (.inr (.inr (.inr (.inr (.inr (.inr hm)))))))) with h1 | h1
   ·exact HnS.out h1
   ·have := blk_lt HS2.out
    omega
  obtain ⟨y0, y1, y2, y3, y4, y5, y6, y7, y8, y9, y10, y11, y12, y13, y14, y15, yf⟩ := stO_cells hS4
  have yl := blk_lt hS4
  have Mv4 := Kd (Mv3.out.trans hmv4)
  have HL4 := Kd hL4
  clear hst4 hst4' hL4 hmv4 hS4
  refine EP.A ?_
  refine canonP_oneL rfl ?_
  by_cases hz : (essS M.tbl.isVar M.scs s.label.text v).1 = 0
  ·have hres : L.act s = .ok { M with scs := (essS M.tbl.isVar M.scs s.label.text v).2 } := by rw [Hact.out]; unfold needE; rw [if_pos hz]; rfl
   have HR := Kd hres
   clear hres
   have HZ := Kd hz
   clear hz
   go_wp2_with (go_at_call 63; go_must (refine (hnok _ _ HZ.out).mono ?_; rintro e5 W5 ⟨rfl, hs5⟩))
   have hL5 := HL4.out.same hs5
   have Mv5 := Kd (Mv4.out.trans (Move.of_same hs5))
   clear hs5
   refine EP.A ?_
   refine canonP_done ?_
   go_wp2
   refine bodyPost_end (results_none rfl _ _ _) rfl ?_
   show LdX F V (L.act s) w _ _
   rw [HR.out]
   exact ⟨rfl, _, hL5, Mv5.out⟩
  ·have hres : L.act s = .error (s.end_, (essS M.tbl.isVar M.scs s.label.text v).1) := by rw [Hact.out]; unfold needE; rw [if_neg hz]; rfl
   have HR := Kd hres
   clear hres
   have HZ := Kd hz
   clear hz
   go_wp2_with (go_at_call 63; go_must (refine (hnbad _ _ HZ.out).mono ?_; rintro e5 W5 ⟨b', rfl, hf, hs5⟩))
   refine ⟨rfl, fun a' ha' => ⟨ha', ?_⟩⟩
   show LdX F V (L.act s) w _ _
   rw [HR.out]
   exact ⟨b', rfl, hf, Mv4.out.same.then (hs5.mono (T := V.blocks F) (by simp)) fun _ hx => .inl hx⟩
 ·have hle' : s.label.text.toList.isEmpty = false := by rw [tl_empty]; simp [hle]
  rw [hlo] at hlc
  unfold UnitX at hlc
  dsimp only at hlc
  clear hle hlo
  go_enter Tryz.func29, Tryz.ntmps29
  go_wp2_with (first | (go_at_call 62; go_must (refine (hlc _ (Same.alloc [] _ _)).mono ?_; rintro e1 W1 ⟨rfl, hs1⟩; have hS1 := hs1.get (blk_new w (stO s (.slice Aw s.words.length cw) (.slice Ap s.proof.length cp))) (by simp); obtain ⟨s0, s1, s2, s3, s4, s5, s6, s7, s8, s9, s10, s11, s12, s13, s14, s15, sf⟩ := stO_cells hS1; have sl := blk_lt hS1; have hW1 := (Same.alloc [] w (stO s (.slice Aw s.words.length cw) (.slice Ap s.proof.length cp))).trans hs1; have l01 := hW1.cell l0 (by simp); have l11 := hW1.cell l1 (by simp); have n21 := hW1.cell n2 (by simp); have ll1 := Nat.lt_of_lt_of_le ll hW1.size; have nl1 := Nat.lt_of_lt_of_le nl hW1.size; have HSb := Kd hS1; have HW := Kd hW1; clear hs1 hS1 hW1)) | (go_at_call 76; go_must (refine (hap _ HW.out).mono ?_; rintro e2 W2 ⟨v2, rfl, hr2, hs2, hf2⟩; obtain ⟨A2, c2, rfl⟩ := hr2.shape; have hS2 := hs2.get HSb.out (by simp); obtain ⟨q0, q1, q2, q3, q4, q5, q6, q7, q8, q9, q10, q11, q12, q13, q14, q15, qf⟩ := stO_cells hS2; have ql := blk_lt hS2; have HW2 := Kd (HW.out.trans hs2); have Hf2 := Kd (FreshB.mono hf2 HW.out.size); have HS2 := Kd hS2; have Hr2 := Kd hr2; have l02 := HW2.out.cell l0 (by simp); have l12 := HW2.out.cell l1 (by simp); have ll2 := Nat.lt_of_lt_of_le ll HW2.out.size; clear hr2 hs2 hf2 hS2)) | (go_at_call 74; go_must (refine (hhy _ HW2.out _ ⟨Hr2.out, fresh_not HM.out Hf2.out⟩).mono ?_; rintro e3 W3 ⟨rfl, V3, hL3, hmv3'⟩)))
  have Hmb3 := Kd hmv3'.blocks
  have hmv3 := (Move.of_same (M := V.blocks F) HW2.out).trans hmv3'
  have HS3 := Kd (hmv3'.same.get HS2.out HnS.out)
  have hr3 := Hr2.out.same hmv3'.same (fresh_not HM.out Hf2.out)
  clear hmv3'
  have hMlt3 := hL3.lt
  have hst := fun (W : World) (hW : Same [] W3 W) => Ess_calls W F.s F.t V3.A (V3.blocks F) M.scs (hL3.stk.same hW) HMok.out.small (fun b hb => Nat.lt_of_lt_of_le (hMlt3 b hb) hW.size) V3.TA M.tbl (hL3.tbl.same hW (by simp)) s.label.text _ v (hr3.same hW (by simp)) Hvl.out
  have hS3 := HS3.out
  have HMlt3 := Kd hMlt3
  clear l0 l1 ll n2 nl
  try clear l01 l11 n21 ll1 nl1
  have l0 := blk_c (i := 0) (v := .pointer (some ⟨F.nb, 0, none⟩)) hL3.lb
  have l1 := blk_c (i := 1) (v := .pointer (some ⟨F.s, 0, none⟩)) hL3.lb
  have ll := blk_lt hL3.lb
  have n2 := blk_c (i := 2) (v := .pointer (some ⟨F.t, 0, none⟩)) hL3.nbb
  have nl := blk_lt hL3.nbb
  have HL3 := Kd hL3
  have Mv3 := Kd hmv3
  obtain ⟨z0, z1, z2, z3, z4, z5, z6, z7, z8, z9, z10, z11, z12, z13, z14, z15, zf⟩ := stO_cells hS3
  have zl := blk_lt hS3
  clear hMlt3 hL3 hmv3 hS3 hr3
  refine region_canonP (.read 0 (.read 1 (.read 2 (.read 3 (.read 4 (.read 5 (.read 6 (.read 7 (.read 8 (.read 9 (.one 10 [0, 1] (.one 11 [] (.done))))))))))))) (by kernel_rfl) (by kernel_rfl) ?_
  iterate 10 (refine canonP_read rfl (fun K hK => ?_); go_simp; (try go_bits); (try (rw [if_pos (by omega)]; go_simp)); refine hK _ ?_; clear hK K)
  refine canonP_oneL rfl ?_
  go_wp2_with (go_at_call 77; go_must (refine (hst _ (Same.drew [] _)).mono ?_; rintro e4 W4 ⟨rfl, hst4⟩))
  have hst4' := hst4.after (Same.drew [] W3)
  obtain ⟨A4, hL4, hmv4⟩ := HL3.out.setStk hst4'
  have hS4 : W4.heap[w.heap.size]? = some (stO s (.slice Aw s.words.length cw) (.slice Ap s.proof.length cp)) := by
   obtain ⟨A', k1, k2, k3⟩ := hst4
   refine k2.get ((Same.drew [] W3).get HS3.out (by simp)) (fun hm => ?_)
   rcases Hmb3.out _ (LV.mem.2 (.inr (.inr (.inr (.inr (.inr (.inr (.inr hm)))))))) with h1 | h1
   ·exact HnS.out h1
   ·have := blk_lt HS2.out
    omega
  obtain ⟨y0, y1, y2, y3, y4, y5, y6, y7, y8, y9, y10, y11, y12, y13, y14, y15, yf⟩ := stO_cells hS4
  have yl := blk_lt hS4
  have Mv4 := Kd (Mv3.out.trans hmv4)
  have HL4 := Kd hL4
  clear hst4 hst4' hL4 hmv4 hS4
  refine EP.A ?_
  refine canonP_oneL rfl ?_
  by_cases hz : (essS M.tbl.isVar M.scs s.label.text v).1 = 0
  ·have hres : L.act s = .ok { M with scs := (essS M.tbl.isVar M.scs s.label.text v).2 } := by rw [Hact.out]; unfold needE; rw [if_pos hz]; rfl
   have HR := Kd hres
   clear hres
   have HZ := Kd hz
   clear hz
   go_wp2_with (go_at_call 63; go_must (refine (hnok _ _ HZ.out).mono ?_; rintro e5 W5 ⟨rfl, hs5⟩))
   have hL5 := HL4.out.same hs5
   have Mv5 := Kd (Mv4.out.trans (Move.of_same hs5))
   clear hs5
   refine EP.A ?_
   refine canonP_done ?_
   go_wp2
   refine bodyPost_end (results_none rfl _ _ _) rfl ?_
   show LdX F V (L.act s) w _ _
   rw [HR.out]
   exact ⟨rfl, _, hL5, Mv5.out⟩
  ·have hres : L.act s = .error (s.end_, (essS M.tbl.isVar M.scs s.label.text v).1) := by rw [Hact.out]; unfold needE; rw [if_neg hz]; rfl
   have HR := Kd hres
   clear hres
   have HZ := Kd hz
   clear hz
   go_wp2_with (go_at_call 63; go_must (refine (hnbad _ _ HZ.out).mono ?_; rintro e5 W5 ⟨b', rfl, hf, hs5⟩))
   refine ⟨rfl, fun a' ha' => ⟨ha', ?_⟩⟩
   show LdX F V (L.act s) w _ _
   rw [HR.out]
   exact ⟨b', rfl, hf, Mv4.out.same.then (hs5.mono (T := V.blocks F) (by simp)) fun _ hx => .inl hx⟩
theorem list_two {v : List Int} (h : v.length = 2) : ∃ a b, v = [a, b] := by
 match v, h with
 | [a, b], _ => exact ⟨a, b, rfl⟩
theorem take_act (w : World) (F : LF) (V : LV) (L : Ld) (s : St) (Aw Ap : Option Addr) (cw cp : Nat) (h : TakeH w F V L s Aw Ap cw cp) (hlx : s.label.text.size = 0 ∨ (s.label.text.size ≠ 0 ∧ L.label s.label = .ok ())) :
  Calls Tryz.prog 29 #[.pointer (some ⟨F.l, 0, none⟩), stV s (.slice Aw s.words.length cw) (.slice Ap s.proof.length cp)] w (LdX F V (L.act s) w) := by
 by_cases k8 : s.kind = 8
 ·exact take_open w F V L s Aw Ap cw cp h hlx k8
 by_cases k9 : s.kind = 9
 ·exact take_close w F V L s Aw Ap cw cp h hlx k9
 by_cases k1 : s.kind = 1
 ·by_cases hd : 0 < L.tbl.scopes.length
  ·exact take_constbad w F V L s Aw Ap cw cp h hlx k1 hd
  ·exact take_const w F V L s Aw Ap cw cp h hlx k1 hd
 by_cases k2 : s.kind = 2
 ·exact take_var w F V L s Aw Ap cw cp h hlx k2
 by_cases k5 : s.kind = 5
 ·cases he : L.apart s.words with
  | error p => exact take_dist_bad w F V L s Aw Ap cw cp h hlx k5 p.1 p.2 he
  | ok v =>
   cases hwh : s.whole with
   | false => exact take_dist_part w F V L s Aw Ap cw cp h hlx k5 v he hwh
   | true => exact take_dist w F V L s Aw Ap cw cp h hlx k5 v he hwh
 by_cases k3 : s.kind = 3
 ·cases he : L.floatGo s.words [] with
  | error p => exact take_float_bad w F V L s Aw Ap cw cp h hlx k3 p.1 p.2 he
  | ok v =>
   cases hwh : s.whole with
   | false => exact take_float_part w F V L s Aw Ap cw cp h hlx k3 v he hwh
   | true =>
    have hl := floatGo_len L s.words [] v he
    have hg := h.good k3 hwh
    obtain ⟨a, b, rfl⟩ := list_two (v := v) (by simp at hl; omega)
    cases hx : L.hyp s ⟨s.label.text, true, b, [a, b]⟩ with
    | error p => exact take_float_err w F V L s Aw Ap cw cp h hlx k3 a b he hwh p.1 p.2 hx
    | ok M => exact take_float w F V L s Aw Ap cw cp h hlx k3 a b he hwh M hx
 by_cases k4 : s.kind = 4
 ·cases he : L.exprGo s.words [] with
  | error p => exact take_ess_bad w F V L s Aw Ap cw cp h hlx k4 p.1 p.2 he
  | ok v =>
   cases hwh : s.whole with
   | false => exact take_ess_part w F V L s Aw Ap cw cp h hlx k4 v he hwh
   | true =>
    cases hx : L.hyp s ⟨s.label.text, false, -1, v⟩ with
    | error p => exact take_ess_err w F V L s Aw Ap cw cp h hlx k4 v he hwh p.1 p.2 hx
    | ok M => exact take_ess w F V L s Aw Ap cw cp h hlx k4 v he hwh M hx
 by_cases k6 : s.kind = 6
 ·cases he : L.exprGo s.words [] with
  | error p => exact take_as6_bad w F V L s Aw Ap cw cp h hlx k6 p.1 p.2 he
  | ok v =>
   cases hwh : s.whole with
   | false => exact take_as6_part w F V L s Aw Ap cw cp h hlx k6 v he hwh
   | true =>
    cases hx : L.assert s v with
    | error p => exact take_as6_err w F V L s Aw Ap cw cp h hlx k6 v he hwh p.1 p.2 hx
    | ok M => exact take_as6_ok w F V L s Aw Ap cw cp h hlx k6 v he hwh M hx
 by_cases k7 : s.kind = 7
 ·cases he : L.exprGo s.words [] with
  | error p => exact take_as7_bad w F V L s Aw Ap cw cp h hlx k7 p.1 p.2 he
  | ok v =>
   cases hwh : s.whole with
   | false => exact take_as7_part w F V L s Aw Ap cw cp h hlx k7 v he hwh
   | true =>
    cases hx : L.assert s v with
    | error p => exact take_as7_err w F V L s Aw Ap cw cp h hlx k7 v he hwh p.1 p.2 hx
    | ok M => exact take_as7_ok w F V L s Aw Ap cw cp h hlx k7 v he hwh M hx
 exact take_none w F V L s Aw Ap cw cp h hlx (by omega)
theorem ltake_calls (w : World) (F : LF) (V : LV) (L : Ld) (s : St) (Aw Ap : Option Addr) (cw cp : Nat) (h : TakeH w F V L s Aw Ap cw cp) :
  Calls Tryz.prog 29 #[.pointer (some ⟨F.l, 0, none⟩), stV s (.slice Aw s.words.length cw) (.slice Ap s.proof.length cp)] w (LdX F V (L.take s) w) := by
 by_cases hl : s.label.text.size = 0
 ·have : L.take s = L.act s := by unfold Ld.take; rw [if_neg (by omega)]
  rw [this]
  exact take_act w F V L s Aw Ap cw cp h (.inl hl)
 ·cases he : L.label s.label with
  | error p => exact take_badlabel w F V L s Aw Ap cw cp h hl p.1 p.2 he
  | ok u =>
   have : L.take s = L.act s := by unfold Ld.take; rw [if_pos hl, he]; rfl
   rw [this]
   exact take_act w F V L s Aw Ap cw cp h (.inr ⟨hl, he⟩)
theorem Tryz.assertFault (v : Value) (w : World) : (Instr.typeAssert (.iface 24 v) 20 24 true).run Tryz.prog w = .ok (.tuple #[v, .bool true]) w := by kernel_rfl
theorem catch_idle (p q : Addr) (w : World) :
  CallsD Tryz.prog 24 #[.pointer (some p), .pointer (some q)] .returning w fun e u' w' => e = .returned (.tuple #[]) ∧ u' = .returning ∧ w' = w := by
 refine callsD_of_wpS Tryz.func24 rfl fun c₀ cs hu => ?_
 apply wpS_seq
 apply wpS_region
 simp [wpOpsS, go_sem, recoverD, hu, Tryz.ntmps24, Exit.thenS]
 refine wpS_of_wp ?_
 go_wp2
 cases c₀
 simp_all [bodyPostS, results, Tryz.results24, Exit.thenS]
theorem catch_fault (i j b : Nat) (hij : i ≠ j) (older : List PanicEntry) (w : World) (x y : Value) (hx : w.cell? ⟨i, 0, none⟩ = some x) (hfp : w.frozen? ⟨i, 0, none⟩ = false) (hy : w.cell? ⟨j, 0, none⟩ = some y) (hfq : w.frozen? ⟨j, 0, none⟩ = false) :
  CallsD Tryz.prog 24 #[.pointer (some ⟨i, 0, none⟩), .pointer (some ⟨j, 0, none⟩)] (.panicking ({ v := .iface 24 (.pointer (some ⟨b, 0, none⟩)), recovered := false } :: older)) w fun e u' w' =>
   e = .returned (.tuple #[]) ∧ u' = .panicking ({ v := .iface 24 (.pointer (some ⟨b, 0, none⟩)), recovered := true } :: older) ∧ w' = (w.setCell ⟨i, 0, none⟩ (.pointer none)).setCell ⟨j, 0, none⟩ (.pointer (some ⟨b, 0, none⟩)) := by
 have haf := Tryz.assertFault (.pointer (some ⟨b, 0, none⟩))
 refine callsD_of_wpS Tryz.func24 rfl fun c₀ cs hu => ?_
 apply wpS_seq
 apply wpS_region
 simp [wpOpsS, go_sem, recoverD, hu, Tryz.ntmps24, Exit.thenS]
 refine wpS_of_wp ?_
 go_wp2
 cases c₀
 simp_all [bodyPostS, results, Tryz.results24, Exit.thenS]
end Go.Proofs.YtdhkmfpfbjcdiaaGreatDoor
