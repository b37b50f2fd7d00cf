/- lemmalaw texts, part 34. -/
import Derived.Test.YtdhkmfpfbjcdiaaGreatDoorZaa
import Derived.Test.YtdhkmfpfbjcdiaaGreatDoorZbc
import Derived.Test.YtdhkmfpfbjcdiaaGreatDoorZbd
import Derived.Test.YtdhkmfpfbjcdiaaGreatDoorZbe
import Derived.Test.YtdhkmfpfbjcdiaaGreatDoorZbf
import Derived.Test.YtdhkmfpfbjcdiaaGreatDoorZbg
import Derived.Defers
import Derived.Recover
set_option maxRecDepth 100000
set_option linter.unusedVariables false
set_option linter.unusedSimpArgs false
namespace Go.Proofs.YtdhkmfpfbjcdiaaGreatDoor
open Go.RowKit
set_option maxHeartbeats 4000000 in
theorem take_ess_err (w : World) (F : LF) (V : LV) (L : Ld) (s : St) (Aw Ap : Option Addr) (cw cp : Nat) (h : TakeH w F V L s Aw Ap cw cp) (hlx : s.label.text.size = 0 ∨ (s.label.text.size ≠ 0 ∧ L.label s.label = .ok ())) (hk : s.kind = 4) (v : List Int) (he : L.exprGo s.words [] = .ok v) (hwh : s.whole = true) (t : Tk) (n : Nat) (hx : L.hyp s ⟨s.label.text, false, -1, v⟩ = .error (t, n)) :
    Calls Tryz.prog 29 #[.pointer (some ⟨F.l, 0, none⟩), stV s (.slice Aw s.words.length cw) (.slice Ap s.proof.length cp)] w (LdX F V (L.act s) w) := by
  have hlc := fun (W : World) (hW : Same [] w W) => llabel_calls W F V L (h.ld.same hW) s.label h.sin.label.max
  have H := Lib.hid h
  have l0 := blk_c (i := 0) (v := .pointer (some ⟨F.nb, 0, none⟩)) h.ld.lb
  have l1 := blk_c (i := 1) (v := .pointer (some ⟨F.s, 0, none⟩)) h.ld.lb
  have ll := blk_lt h.ld.lb
  have n2 := blk_c (i := 2) (v := .pointer (some ⟨F.t, 0, none⟩)) h.ld.nbb
  have nl := blk_lt h.ld.nbb
  have hact : L.act s = (L.hyp s ⟨s.label.text, false, -1, v⟩).bind fun M => (needE s.end_ (essS M.tbl.isVar M.scs s.label.text v).1).bind fun _ => .ok { M with scs := (essS M.tbl.isVar M.scs s.label.text v).2 } := by
    unfold Ld.act
    rw [if_neg (by omega), if_neg (by omega), if_neg (by omega), if_neg (by omega), if_neg (by omega), if_neg (by omega), if_pos hk, he]
    simp [hwh, Except.bind]
  have hres : L.act s = .error (t, n) := by rw [hact, hx]; rfl
  have HR := Lib.hid hres
  clear hact hres
  have hap := fun (W : World) (hW : Same [] w W) => expr_calls W F.l F.nb F.t F.s V.TA V.A (V.blocks F) L ((h.ld.lr h.ok.small).same hW) _ s.words (h.words.row.same hW (by simp)) (by have := h.sin.wl; omega)
  have hlab : L.labels ≤ 1000000 := by have := h.ok.le; omega
  have hhy := fun (W : World) (hW : Same [] w W) (ev : Value) (hv : Ints W (V.blocks F) ev v) => lhyp_calls W F V L (h.ld.same hW) hlab s Aw Ap s.words.length cw s.proof.length cp ⟨s.label.text, false, -1, v⟩ h.sin.label.max ev hv
  rw [hx] at hhy
  unfold stV hyV LdX at hhy
  dsimp only at hhy
  rw [he] at hap
  unfold IntsX at hap
  rw [whole_iff] at hwh
  have HM := Lib.hid h.ld.lt
  clear he hx
  have kb8 : ((s.kind : Int) == 8) = false := by rw [hk]; rfl
  have kb9 : ((s.kind : Int) == 9) = false := by rw [hk]; rfl
  have kb1 : ((s.kind : Int) == 1) = false := by rw [hk]; rfl
  have kb2 : ((s.kind : Int) == 2) = false := by rw [hk]; rfl
  have kb5 : ((s.kind : Int) == 5) = false := by rw [hk]; rfl
  have kb3 : ((s.kind : Int) == 3) = false := by rw [hk]; rfl
  have kb4 : ((s.kind : Int) == 4) = true := by rw [hk]; rfl
  have kb6 : ((s.kind : Int) == 6) = false := by rw [hk]; rfl
  have kb7 : ((s.kind : Int) == 7) = false := by rw [hk]; rfl
  clear hk
  unfold stV
  unfold tkV at hlc
  clear h
  rcases hlx with hle | ⟨hle, hlo⟩
  · have hle' : s.label.text.toList.isEmpty = true := by rw [tl_empty]; simp [hle]
    have HW := Lib.hid (Same.alloc [] w (Obj.cells #[.int .i64 s.kind, .string s.label.text, .int .i64 s.label.at_.off, .int .i64 s.label.at_.line, .int .i64 s.label.at_.col, .string s.key.text, .int .i64 s.key.at_.off, .int .i64 s.key.at_.line, .int .i64 s.key.at_.col, .bool s.proving, .slice Aw s.words.length cw, .slice Ap s.proof.length cp, .string s.end_.text, .int .i64 s.end_.at_.off, .int .i64 s.end_.at_.line, .int .i64 s.end_.at_.col] 73))
    have HSb := Lib.hid (blk_new w (stO s (.slice Aw s.words.length cw) (.slice Ap s.proof.length cp)))
    clear hle hlc
    go_enter Tryz.func29, Tryz.ntmps29
    go_wp2_with (first | (go_at_call 76; go_must (refine (hap _ HW.out).mono ?_; rintro e2 W2 ⟨v2, rfl, hr2, hs2, hf2⟩; obtain ⟨A2, c2, rfl⟩ := hr2.shape; have hS2 := hs2.get HSb.out (by simp); obtain ⟨q0, q1, q2, q3, q4, q5, q6, q7, q8, q9, q10, q11, q12, q13, q14, q15, qf⟩ := stO_cells hS2; have ql := blk_lt hS2; have HW2 := Lib.hid (HW.out.trans hs2); have Hf2 := Lib.hid (FreshB.mono hf2 HW.out.size); have HS2 := Lib.hid hS2; have Hr2 := Lib.hid hr2; have l02 := HW2.out.cell l0 (by simp); have l12 := HW2.out.cell l1 (by simp); have ll2 := Nat.lt_of_lt_of_le ll HW2.out.size; clear hr2 hs2 hf2 hS2)) | (go_at_call 74; go_must (refine (hhy _ HW2.out _ ⟨Hr2.out, fresh_not HM.out Hf2.out⟩).mono ?_; rintro e3 W3 ⟨b', rfl, hf, hs⟩)))
    refine ⟨rfl, ?_⟩
    show LdX F V (L.act s) w _ _
    rw [HR.out]
    exact StopM.after ⟨b', rfl, hf, hs⟩ (Move.of_same HW2.out)
  · have hle' : s.label.text.toList.isEmpty = false := by rw [tl_empty]; simp [hle]
    rw [hlo] at hlc
    unfold UnitX at hlc
    dsimp only at hlc
    clear hle hlo
    go_enter Tryz.func29, Tryz.ntmps29
    go_wp2_with (first | (go_at_call 62; go_must (refine (hlc _ (Same.alloc [] _ _)).mono ?_; rintro e1 W1 ⟨rfl, hs1⟩; have hS1 := hs1.get (blk_new w (stO s (.slice Aw s.words.length cw) (.slice Ap s.proof.length cp))) (by simp); obtain ⟨s0, s1, s2, s3, s4, s5, s6, s7, s8, s9, s10, s11, s12, s13, s14, s15, sf⟩ := stO_cells hS1; have sl := blk_lt hS1; have hW1 := (Same.alloc [] w (stO s (.slice Aw s.words.length cw) (.slice Ap s.proof.length cp))).trans hs1; have l01 := hW1.cell l0 (by simp); have l11 := hW1.cell l1 (by simp); have n21 := hW1.cell n2 (by simp); have ll1 := Nat.lt_of_lt_of_le ll hW1.size; have nl1 := Nat.lt_of_lt_of_le nl hW1.size; have HSb := Lib.hid hS1; have HW := Lib.hid hW1; clear hs1 hS1 hW1)) | (go_at_call 76; go_must (refine (hap _ HW.out).mono ?_; rintro e2 W2 ⟨v2, rfl, hr2, hs2, hf2⟩; obtain ⟨A2, c2, rfl⟩ := hr2.shape; have hS2 := hs2.get HSb.out (by simp); obtain ⟨q0, q1, q2, q3, q4, q5, q6, q7, q8, q9, q10, q11, q12, q13, q14, q15, qf⟩ := stO_cells hS2; have ql := blk_lt hS2; have HW2 := Lib.hid (HW.out.trans hs2); have Hf2 := Lib.hid (FreshB.mono hf2 HW.out.size); have HS2 := Lib.hid hS2; have Hr2 := Lib.hid hr2; have l02 := HW2.out.cell l0 (by simp); have l12 := HW2.out.cell l1 (by simp); have ll2 := Nat.lt_of_lt_of_le ll HW2.out.size; clear hr2 hs2 hf2 hS2)) | (go_at_call 74; go_must (refine (hhy _ HW2.out _ ⟨Hr2.out, fresh_not HM.out Hf2.out⟩).mono ?_; rintro e3 W3 ⟨b', rfl, hf, hs⟩)))
    refine ⟨rfl, ?_⟩
    show LdX F V (L.act s) w _ _
    rw [HR.out]
    exact StopM.after ⟨b', rfl, hf, hs⟩ (Move.of_same HW2.out)
set_option maxHeartbeats 4000000 in
theorem take_ess (w : World) (F : LF) (V : LV) (L : Ld) (s : St) (Aw Ap : Option Addr) (cw cp : Nat) (h : TakeH w F V L s Aw Ap cw cp) (hlx : s.label.text.size = 0 ∨ (s.label.text.size ≠ 0 ∧ L.label s.label = .ok ())) (hk : s.kind = 4) (v : List Int) (he : L.exprGo s.words [] = .ok v) (hwh : s.whole = true) (M : Ld) (hx : L.hyp s ⟨s.label.text, false, -1, v⟩ = .ok M) :
    Calls Tryz.prog 29 #[.pointer (some ⟨F.l, 0, none⟩), stV s (.slice Aw s.words.length cw) (.slice Ap s.proof.length cp)] w (LdX F V (L.act s) w) := by
  have hlc := fun (W : World) (hW : Same [] w W) => llabel_calls W F V L (h.ld.same hW) s.label h.sin.label.max
  have H := Lib.hid h
  have l0 := blk_c (i := 0) (v := .pointer (some ⟨F.nb, 0, none⟩)) h.ld.lb
  have l1 := blk_c (i := 1) (v := .pointer (some ⟨F.s, 0, none⟩)) h.ld.lb
  have ll := blk_lt h.ld.lb
  have n2 := blk_c (i := 2) (v := .pointer (some ⟨F.t, 0, none⟩)) h.ld.nbb
  have nl := blk_lt h.ld.nbb
  have hact : L.act s = (L.hyp s ⟨s.label.text, false, -1, v⟩).bind fun M => (needE s.end_ (essS M.tbl.isVar M.scs s.label.text v).1).bind fun _ => .ok { M with scs := (essS M.tbl.isVar M.scs s.label.text v).2 } := by
    unfold Ld.act
    rw [if_neg (by omega), if_neg (by omega), if_neg (by omega), if_neg (by omega), if_neg (by omega), if_neg (by omega), if_pos hk, he]
    simp [hwh, Except.bind]
  have hres : ∀ M', L.hyp s ⟨s.label.text, false, -1, v⟩ = .ok M' → True := fun _ _ => trivial
  clear hres
  rw [hx, bind_okk] at hact
  have Hact := Lib.hid hact
  have HMok := Lib.hid (hyp_ok h.ok hx).1
  have hnok := fun W n hn => need_ok W s.end_ n hn
  have hnbad := fun W n hn => need_bad W s.end_ n hn
  unfold tkV at hnok hnbad
  have HnS : Hid (w.heap.size ∉ V.blocks F) := Lib.hid (fun hm => by have := h.ld.lt _ hm; omega)
  clear hact
  have hvl : v.length ≤ 1000000 := by have := exprGo_len L s.words [] v (by simp) he; omega
  have Hvl := Lib.hid hvl
  have hap := fun (W : World) (hW : Same [] w W) => expr_calls W F.l F.nb F.t F.s V.TA V.A (V.blocks F) L ((h.ld.lr h.ok.small).same hW) _ s.words (h.words.row.same hW (by simp)) (by have := h.sin.wl; omega)
  have hlab : L.labels ≤ 1000000 := by have := h.ok.le; omega
  have hhy := fun (W : World) (hW : Same [] w W) (ev : Value) (hv : Ints W (V.blocks F) ev v) => lhyp_calls W F V L (h.ld.same hW) hlab s Aw Ap s.words.length cw s.proof.length cp ⟨s.label.text, false, -1, v⟩ h.sin.label.max ev hv
  rw [hx] at hhy
  unfold stV hyV LdX at hhy
  dsimp only at hhy
  rw [he] at hap
  unfold IntsX at hap
  rw [whole_iff] at hwh
  have HM := Lib.hid h.ld.lt
  clear he hx hvl
  have kb8 : ((s.kind : Int) == 8) = false := by rw [hk]; rfl
  have kb9 : ((s.kind : Int) == 9) = false := by rw [hk]; rfl
  have kb1 : ((s.kind : Int) == 1) = false := by rw [hk]; rfl
  have kb2 : ((s.kind : Int) == 2) = false := by rw [hk]; rfl
  have kb5 : ((s.kind : Int) == 5) = false := by rw [hk]; rfl
  have kb3 : ((s.kind : Int) == 3) = false := by rw [hk]; rfl
  have kb4 : ((s.kind : Int) == 4) = true := by rw [hk]; rfl
  have kb6 : ((s.kind : Int) == 6) = false := by rw [hk]; rfl
  have kb7 : ((s.kind : Int) == 7) = false := by rw [hk]; rfl
  clear hk
  unfold stV
  unfold tkV at hlc
  clear h
  rcases hlx with hle | ⟨hle, hlo⟩
  · have hle' : s.label.text.toList.isEmpty = true := by rw [tl_empty]; simp [hle]
    have HW := Lib.hid (Same.alloc [] w (Obj.cells #[.int .i64 s.kind, .string s.label.text, .int .i64 s.label.at_.off, .int .i64 s.label.at_.line, .int .i64 s.label.at_.col, .string s.key.text, .int .i64 s.key.at_.off, .int .i64 s.key.at_.line, .int .i64 s.key.at_.col, .bool s.proving, .slice Aw s.words.length cw, .slice Ap s.proof.length cp, .string s.end_.text, .int .i64 s.end_.at_.off, .int .i64 s.end_.at_.line, .int .i64 s.end_.at_.col] 73))
    have HSb := Lib.hid (blk_new w (stO s (.slice Aw s.words.length cw) (.slice Ap s.proof.length cp)))
    clear hle hlc
    go_enter Tryz.func29, Tryz.ntmps29
    go_wp2_with (first | (go_at_call 76; go_must (refine (hap _ HW.out).mono ?_; rintro e2 W2 ⟨v2, rfl, hr2, hs2, hf2⟩; obtain ⟨A2, c2, rfl⟩ := hr2.shape; have hS2 := hs2.get HSb.out (by simp); obtain ⟨q0, q1, q2, q3, q4, q5, q6, q7, q8, q9, q10, q11, q12, q13, q14, q15, qf⟩ := stO_cells hS2; have ql := blk_lt hS2; have HW2 := Lib.hid (HW.out.trans hs2); have Hf2 := Lib.hid (FreshB.mono hf2 HW.out.size); have HS2 := Lib.hid hS2; have Hr2 := Lib.hid hr2; have l02 := HW2.out.cell l0 (by simp); have l12 := HW2.out.cell l1 (by simp); have ll2 := Nat.lt_of_lt_of_le ll HW2.out.size; clear hr2 hs2 hf2 hS2)) | (go_at_call 74; go_must (refine (hhy _ HW2.out _ ⟨Hr2.out, fresh_not HM.out Hf2.out⟩).mono ?_; rintro e3 W3 ⟨rfl, V3, hL3, hmv3'⟩)))
    have Hmb3 := Lib.hid hmv3'.blocks
    have hmv3 := (Move.of_same (M := V.blocks F) HW2.out).trans hmv3'
    have HS3 := Lib.hid (hmv3'.same.get HS2.out HnS.out)
    have hr3 := Hr2.out.same hmv3'.same (fresh_not HM.out Hf2.out)
    clear hmv3'
    have hMlt3 := hL3.lt
    have hst := fun (W : World) (hW : Same [] W3 W) => Ess_calls W F.s F.t V3.A (V3.blocks F) M.scs (hL3.stk.same hW) HMok.out.small (fun b hb => Nat.lt_of_lt_of_le (hMlt3 b hb) hW.size) V3.TA M.tbl (hL3.tbl.same hW (by simp)) s.label.text _ v (hr3.same hW (by simp)) Hvl.out
    have hS3 := HS3.out
    have HMlt3 := Lib.hid hMlt3
    clear l0 l1 ll n2 nl
    try clear l01 l11 n21 ll1 nl1
    have l0 := blk_c (i := 0) (v := .pointer (some ⟨F.nb, 0, none⟩)) hL3.lb
    have l1 := blk_c (i := 1) (v := .pointer (some ⟨F.s, 0, none⟩)) hL3.lb
    have ll := blk_lt hL3.lb
    have n2 := blk_c (i := 2) (v := .pointer (some ⟨F.t, 0, none⟩)) hL3.nbb
    have nl := blk_lt hL3.nbb
    have HL3 := Lib.hid hL3
    have Mv3 := Lib.hid hmv3
    obtain ⟨z0, z1, z2, z3, z4, z5, z6, z7, z8, z9, z10, z11, z12, z13, z14, z15, zf⟩ := stO_cells hS3
    have zl := blk_lt hS3
    clear hMlt3 hL3 hmv3 hS3 hr3
    refine region_canonP (.read 0 (.read 1 (.read 2 (.read 3 (.read 4 (.read 5 (.read 6 (.read 7 (.read 8 (.read 9 (.one 10 [0, 1] (.one 11 [] (.done))))))))))))) (by kernel_rfl) (by kernel_rfl) ?_
    iterate 10 (refine canonP_read rfl (fun K hK => ?_); go_simp; (try go_bits); (try (rw [if_pos (by omega)]; go_simp)); refine hK _ ?_; clear hK K)
    refine canonP_oneL rfl ?_
    go_wp2_with (go_at_call 77; go_must (refine (hst _ (Same.drew [] _)).mono ?_; rintro e4 W4 ⟨rfl, hst4⟩))
    have hst4' := hst4.after (Same.drew [] W3)
    obtain ⟨A4, hL4, hmv4⟩ := HL3.out.setStk hst4'
    have hS4 : W4.heap[w.heap.size]? = some (stO s (.slice Aw s.words.length cw) (.slice Ap s.proof.length cp)) := by
      obtain ⟨A', k1, k2, k3⟩ := hst4
      refine k2.get ((Same.drew [] W3).get HS3.out (by simp)) (fun hm => ?_)
      rcases Hmb3.out _ (LV.mem.2 (.inr (.inr (.inr (.inr (.inr (.inr (.inr hm)))))))) with h1 | h1
      · exact HnS.out h1
      · have := blk_lt HS2.out
        omega
    obtain ⟨y0, y1, y2, y3, y4, y5, y6, y7, y8, y9, y10, y11, y12, y13, y14, y15, yf⟩ := stO_cells hS4
    have yl := blk_lt hS4
    have Mv4 := Lib.hid (Mv3.out.trans hmv4)
    have HL4 := Lib.hid hL4
    clear hst4 hst4' hL4 hmv4 hS4
    refine EP.mk rfl ?_ ?_
    · repeat (first | exact rr_nil | (refine rr_skip rfl ?_) | (refine rr_cons rfl (by go_simp; (try go_bits); (try (rw [if_pos (by omega)]; go_simp)); (try trivial)) ?_))
    refine canonP_oneL rfl ?_
    by_cases hz : (essS M.tbl.isVar M.scs s.label.text v).1 = 0
    · have hres : L.act s = .ok { M with scs := (essS M.tbl.isVar M.scs s.label.text v).2 } := by rw [Hact.out]; unfold needE; rw [if_pos hz]; rfl
      have HR := Lib.hid hres
      clear hres
      have HZ := Lib.hid hz
      clear hz
      go_wp2_with (go_at_call 63; go_must (refine (hnok _ _ HZ.out).mono ?_; rintro e5 W5 ⟨rfl, hs5⟩))
      have hL5 := HL4.out.same hs5
      have Mv5 := Lib.hid (Mv4.out.trans (Move.of_same hs5))
      clear hs5
      refine EP.mk rfl ?_ ?_
      · repeat (first | exact rr_nil | (refine rr_skip rfl ?_) | (refine rr_cons rfl (by go_simp; (try go_bits); (try (rw [if_pos (by omega)]; go_simp)); (try trivial)) ?_))
      refine canonP_done ?_
      go_wp2
      refine bodyPost_end (results_none rfl _ _ _) rfl ?_
      show LdX F V (L.act s) w _ _
      rw [HR.out]
      exact ⟨rfl, _, hL5, Mv5.out⟩
    · have hres : L.act s = .error (s.end_, (essS M.tbl.isVar M.scs s.label.text v).1) := by rw [Hact.out]; unfold needE; rw [if_neg hz]; rfl
      have HR := Lib.hid hres
      clear hres
      have HZ := Lib.hid hz
      clear hz
      go_wp2_with (go_at_call 63; go_must (refine (hnbad _ _ HZ.out).mono ?_; rintro e5 W5 ⟨b', rfl, hf, hs5⟩))
      refine ⟨rfl, fun a' ha' => ⟨ha', ?_⟩⟩
      show LdX F V (L.act s) w _ _
      rw [HR.out]
      exact ⟨b', rfl, hf, Mv4.out.same.then (hs5.mono (T := V.blocks F) (by simp)) fun _ hx => .inl hx⟩
  · have hle' : s.label.text.toList.isEmpty = false := by rw [tl_empty]; simp [hle]
    rw [hlo] at hlc
    unfold UnitX at hlc
    dsimp only at hlc
    clear hle hlo
    go_enter Tryz.func29, Tryz.ntmps29
    go_wp2_with (first | (go_at_call 62; go_must (refine (hlc _ (Same.alloc [] _ _)).mono ?_; rintro e1 W1 ⟨rfl, hs1⟩; have hS1 := hs1.get (blk_new w (stO s (.slice Aw s.words.length cw) (.slice Ap s.proof.length cp))) (by simp); obtain ⟨s0, s1, s2, s3, s4, s5, s6, s7, s8, s9, s10, s11, s12, s13, s14, s15, sf⟩ := stO_cells hS1; have sl := blk_lt hS1; have hW1 := (Same.alloc [] w (stO s (.slice Aw s.words.length cw) (.slice Ap s.proof.length cp))).trans hs1; have l01 := hW1.cell l0 (by simp); have l11 := hW1.cell l1 (by simp); have n21 := hW1.cell n2 (by simp); have ll1 := Nat.lt_of_lt_of_le ll hW1.size; have nl1 := Nat.lt_of_lt_of_le nl hW1.size; have HSb := Lib.hid hS1; have HW := Lib.hid hW1; clear hs1 hS1 hW1)) | (go_at_call 76; go_must (refine (hap _ HW.out).mono ?_; rintro e2 W2 ⟨v2, rfl, hr2, hs2, hf2⟩; obtain ⟨A2, c2, rfl⟩ := hr2.shape; have hS2 := hs2.get HSb.out (by simp); obtain ⟨q0, q1, q2, q3, q4, q5, q6, q7, q8, q9, q10, q11, q12, q13, q14, q15, qf⟩ := stO_cells hS2; have ql := blk_lt hS2; have HW2 := Lib.hid (HW.out.trans hs2); have Hf2 := Lib.hid (FreshB.mono hf2 HW.out.size); have HS2 := Lib.hid hS2; have Hr2 := Lib.hid hr2; have l02 := HW2.out.cell l0 (by simp); have l12 := HW2.out.cell l1 (by simp); have ll2 := Nat.lt_of_lt_of_le ll HW2.out.size; clear hr2 hs2 hf2 hS2)) | (go_at_call 74; go_must (refine (hhy _ HW2.out _ ⟨Hr2.out, fresh_not HM.out Hf2.out⟩).mono ?_; rintro e3 W3 ⟨rfl, V3, hL3, hmv3'⟩)))
    have Hmb3 := Lib.hid hmv3'.blocks
    have hmv3 := (Move.of_same (M := V.blocks F) HW2.out).trans hmv3'
    have HS3 := Lib.hid (hmv3'.same.get HS2.out HnS.out)
    have hr3 := Hr2.out.same hmv3'.same (fresh_not HM.out Hf2.out)
    clear hmv3'
    have hMlt3 := hL3.lt
    have hst := fun (W : World) (hW : Same [] W3 W) => Ess_calls W F.s F.t V3.A (V3.blocks F) M.scs (hL3.stk.same hW) HMok.out.small (fun b hb => Nat.lt_of_lt_of_le (hMlt3 b hb) hW.size) V3.TA M.tbl (hL3.tbl.same hW (by simp)) s.label.text _ v (hr3.same hW (by simp)) Hvl.out
    have hS3 := HS3.out
    have HMlt3 := Lib.hid hMlt3
    clear l0 l1 ll n2 nl
    try clear l01 l11 n21 ll1 nl1
    have l0 := blk_c (i := 0) (v := .pointer (some ⟨F.nb, 0, none⟩)) hL3.lb
    have l1 := blk_c (i := 1) (v := .pointer (some ⟨F.s, 0, none⟩)) hL3.lb
    have ll := blk_lt hL3.lb
    have n2 := blk_c (i := 2) (v := .pointer (some ⟨F.t, 0, none⟩)) hL3.nbb
    have nl := blk_lt hL3.nbb
    have HL3 := Lib.hid hL3
    have Mv3 := Lib.hid hmv3
    obtain ⟨z0, z1, z2, z3, z4, z5, z6, z7, z8, z9, z10, z11, z12, z13, z14, z15, zf⟩ := stO_cells hS3
    have zl := blk_lt hS3
    clear hMlt3 hL3 hmv3 hS3 hr3
    refine region_canonP (.read 0 (.read 1 (.read 2 (.read 3 (.read 4 (.read 5 (.read 6 (.read 7 (.read 8 (.read 9 (.one 10 [0, 1] (.one 11 [] (.done))))))))))))) (by kernel_rfl) (by kernel_rfl) ?_
    iterate 10 (refine canonP_read rfl (fun K hK => ?_); go_simp; (try go_bits); (try (rw [if_pos (by omega)]; go_simp)); refine hK _ ?_; clear hK K)
    refine canonP_oneL rfl ?_
    go_wp2_with (go_at_call 77; go_must (refine (hst _ (Same.drew [] _)).mono ?_; rintro e4 W4 ⟨rfl, hst4⟩))
    have hst4' := hst4.after (Same.drew [] W3)
    obtain ⟨A4, hL4, hmv4⟩ := HL3.out.setStk hst4'
    have hS4 : W4.heap[w.heap.size]? = some (stO s (.slice Aw s.words.length cw) (.slice Ap s.proof.length cp)) := by
      obtain ⟨A', k1, k2, k3⟩ := hst4
      refine k2.get ((Same.drew [] W3).get HS3.out (by simp)) (fun hm => ?_)
      rcases Hmb3.out _ (LV.mem.2 (.inr (.inr (.inr (.inr (.inr (.inr (.inr hm)))))))) with h1 | h1
      · exact HnS.out h1
      · have := blk_lt HS2.out
        omega
    obtain ⟨y0, y1, y2, y3, y4, y5, y6, y7, y8, y9, y10, y11, y12, y13, y14, y15, yf⟩ := stO_cells hS4
    have yl := blk_lt hS4
    have Mv4 := Lib.hid (Mv3.out.trans hmv4)
    have HL4 := Lib.hid hL4
    clear hst4 hst4' hL4 hmv4 hS4
    refine EP.mk rfl ?_ ?_
    · repeat (first | exact rr_nil | (refine rr_skip rfl ?_) | (refine rr_cons rfl (by go_simp; (try go_bits); (try (rw [if_pos (by omega)]; go_simp)); (try trivial)) ?_))
    refine canonP_oneL rfl ?_
    by_cases hz : (essS M.tbl.isVar M.scs s.label.text v).1 = 0
    · have hres : L.act s = .ok { M with scs := (essS M.tbl.isVar M.scs s.label.text v).2 } := by rw [Hact.out]; unfold needE; rw [if_pos hz]; rfl
      have HR := Lib.hid hres
      clear hres
      have HZ := Lib.hid hz
      clear hz
      go_wp2_with (go_at_call 63; go_must (refine (hnok _ _ HZ.out).mono ?_; rintro e5 W5 ⟨rfl, hs5⟩))
      have hL5 := HL4.out.same hs5
      have Mv5 := Lib.hid (Mv4.out.trans (Move.of_same hs5))
      clear hs5
      refine EP.mk rfl ?_ ?_
      · repeat (first | exact rr_nil | (refine rr_skip rfl ?_) | (refine rr_cons rfl (by go_simp; (try go_bits); (try (rw [if_pos (by omega)]; go_simp)); (try trivial)) ?_))
      refine canonP_done ?_
      go_wp2
      refine bodyPost_end (results_none rfl _ _ _) rfl ?_
      show LdX F V (L.act s) w _ _
      rw [HR.out]
      exact ⟨rfl, _, hL5, Mv5.out⟩
    · have hres : L.act s = .error (s.end_, (essS M.tbl.isVar M.scs s.label.text v).1) := by rw [Hact.out]; unfold needE; rw [if_neg hz]; rfl
      have HR := Lib.hid hres
      clear hres
      have HZ := Lib.hid hz
      clear hz
      go_wp2_with (go_at_call 63; go_must (refine (hnbad _ _ HZ.out).mono ?_; rintro e5 W5 ⟨b', rfl, hf, hs5⟩))
      refine ⟨rfl, fun a' ha' => ⟨ha', ?_⟩⟩
      show LdX F V (L.act s) w _ _
      rw [HR.out]
      exact ⟨b', rfl, hf, Mv4.out.same.then (hs5.mono (T := V.blocks F) (by simp)) fun _ hx => .inl hx⟩
end Go.Proofs.YtdhkmfpfbjcdiaaGreatDoor
namespace Go.Proofs.YtdhkmfpfbjcdiaaGreatDoor
open Go.RowKit
theorem list_two {v : List Int} (h : v.length = 2) : ∃ a b, v = [a, b] := by
  match v, h with
  | [a, b], _ => exact ⟨a, b, rfl⟩
theorem take_act (w : World) (F : LF) (V : LV) (L : Ld) (s : St) (Aw Ap : Option Addr) (cw cp : Nat) (h : TakeH w F V L s Aw Ap cw cp) (hlx : s.label.text.size = 0 ∨ (s.label.text.size ≠ 0 ∧ L.label s.label = .ok ())) :
    Calls Tryz.prog 29 #[.pointer (some ⟨F.l, 0, none⟩), stV s (.slice Aw s.words.length cw) (.slice Ap s.proof.length cp)] w (LdX F V (L.act s) w) := by
  by_cases k8 : s.kind = 8
  · exact take_open w F V L s Aw Ap cw cp h hlx k8
  by_cases k9 : s.kind = 9
  · exact take_close w F V L s Aw Ap cw cp h hlx k9
  by_cases k1 : s.kind = 1
  · by_cases hd : 0 < L.tbl.scopes.length
    · exact take_constbad w F V L s Aw Ap cw cp h hlx k1 hd
    · exact take_const w F V L s Aw Ap cw cp h hlx k1 hd
  by_cases k2 : s.kind = 2
  · exact take_var w F V L s Aw Ap cw cp h hlx k2
  by_cases k5 : s.kind = 5
  · cases he : L.apart s.words with
    | error p => exact take_dist_bad w F V L s Aw Ap cw cp h hlx k5 p.1 p.2 he
    | ok v =>
      cases hwh : s.whole with
      | false => exact take_dist_part w F V L s Aw Ap cw cp h hlx k5 v he hwh
      | true => exact take_dist w F V L s Aw Ap cw cp h hlx k5 v he hwh
  by_cases k3 : s.kind = 3
  · cases he : L.floatGo s.words [] with
    | error p => exact take_float_bad w F V L s Aw Ap cw cp h hlx k3 p.1 p.2 he
    | ok v =>
      cases hwh : s.whole with
      | false => exact take_float_part w F V L s Aw Ap cw cp h hlx k3 v he hwh
      | true =>
        have hl := floatGo_len L s.words [] v he
        have hg := h.good k3 hwh
        obtain ⟨a, b, rfl⟩ := list_two (v := v) (by simp at hl; omega)
        cases hx : L.hyp s ⟨s.label.text, true, b, [a, b]⟩ with
        | error p => exact take_float_err w F V L s Aw Ap cw cp h hlx k3 a b he hwh p.1 p.2 hx
        | ok M => exact take_float w F V L s Aw Ap cw cp h hlx k3 a b he hwh M hx
  by_cases k4 : s.kind = 4
  · cases he : L.exprGo s.words [] with
    | error p => exact take_ess_bad w F V L s Aw Ap cw cp h hlx k4 p.1 p.2 he
    | ok v =>
      cases hwh : s.whole with
      | false => exact take_ess_part w F V L s Aw Ap cw cp h hlx k4 v he hwh
      | true =>
        cases hx : L.hyp s ⟨s.label.text, false, -1, v⟩ with
        | error p => exact take_ess_err w F V L s Aw Ap cw cp h hlx k4 v he hwh p.1 p.2 hx
        | ok M => exact take_ess w F V L s Aw Ap cw cp h hlx k4 v he hwh M hx
  by_cases k6 : s.kind = 6
  · cases he : L.exprGo s.words [] with
    | error p => exact take_as6_bad w F V L s Aw Ap cw cp h hlx k6 p.1 p.2 he
    | ok v =>
      cases hwh : s.whole with
      | false => exact take_as6_part w F V L s Aw Ap cw cp h hlx k6 v he hwh
      | true =>
        cases hx : L.assert s v with
        | error p => exact take_as6_err w F V L s Aw Ap cw cp h hlx k6 v he hwh p.1 p.2 hx
        | ok M => exact take_as6_ok w F V L s Aw Ap cw cp h hlx k6 v he hwh M hx
  by_cases k7 : s.kind = 7
  · cases he : L.exprGo s.words [] with
    | error p => exact take_as7_bad w F V L s Aw Ap cw cp h hlx k7 p.1 p.2 he
    | ok v =>
      cases hwh : s.whole with
      | false => exact take_as7_part w F V L s Aw Ap cw cp h hlx k7 v he hwh
      | true =>
        cases hx : L.assert s v with
        | error p => exact take_as7_err w F V L s Aw Ap cw cp h hlx k7 v he hwh p.1 p.2 hx
        | ok M => exact take_as7_ok w F V L s Aw Ap cw cp h hlx k7 v he hwh M hx
  exact take_none w F V L s Aw Ap cw cp h hlx (by omega)
theorem ltake_calls (w : World) (F : LF) (V : LV) (L : Ld) (s : St) (Aw Ap : Option Addr) (cw cp : Nat) (h : TakeH w F V L s Aw Ap cw cp) :
    Calls Tryz.prog 29 #[.pointer (some ⟨F.l, 0, none⟩), stV s (.slice Aw s.words.length cw) (.slice Ap s.proof.length cp)] w (LdX F V (L.take s) w) := by
  by_cases hl : s.label.text.size = 0
  · have : L.take s = L.act s := by unfold Ld.take; rw [if_neg (by omega)]
    rw [this]
    exact take_act w F V L s Aw Ap cw cp h (.inl hl)
  · cases he : L.label s.label with
    | error p => exact take_badlabel w F V L s Aw Ap cw cp h hl p.1 p.2 he
    | ok u =>
      have : L.take s = L.act s := by unfold Ld.take; rw [if_pos hl, he]; rfl
      rw [this]
      exact take_act w F V L s Aw Ap cw cp h (.inr ⟨hl, he⟩)
end Go.Proofs.YtdhkmfpfbjcdiaaGreatDoor
namespace Go.Proofs.YtdhkmfpfbjcdiaaGreatDoor
open Go.RowKit
theorem Tryz.assertFault (v : Value) (w : World) : (Instr.typeAssert (.iface 24 v) 20 24 true).run Tryz.prog w = .ok (.tuple #[v, .bool true]) w := by kernel_rfl
theorem catch_idle (p q : Addr) (w : World) :
    CallsD Tryz.prog 24 #[.pointer (some p), .pointer (some q)] .returning w fun e u' w' => e = .returned (.tuple #[]) ∧ u' = .returning ∧ w' = w := by
  refine callsD_of_wpS Tryz.func24 rfl fun c₀ cs hu => ?_
  apply wpS_seq
  apply wpS_region
  simp [wpOpsS, go_sem, recoverD, hu, Tryz.ntmps24, Exit.thenS]
  refine wpS_of_wp ?_
  go_wp2
  cases c₀
  simp_all [bodyPostS, results, Tryz.results24, Exit.thenS]
set_option maxHeartbeats 2000000 in
theorem catch_fault (i j b : Nat) (hij : i ≠ j) (older : List PanicEntry) (w : World) (x y : Value) (hx : w.cell? ⟨i, 0, none⟩ = some x) (hfp : w.frozen? ⟨i, 0, none⟩ = false) (hy : w.cell? ⟨j, 0, none⟩ = some y) (hfq : w.frozen? ⟨j, 0, none⟩ = false) :
    CallsD Tryz.prog 24 #[.pointer (some ⟨i, 0, none⟩), .pointer (some ⟨j, 0, none⟩)] (.panicking ({ v := .iface 24 (.pointer (some ⟨b, 0, none⟩)), recovered := false } :: older)) w fun e u' w' =>
      e = .returned (.tuple #[]) ∧ u' = .panicking ({ v := .iface 24 (.pointer (some ⟨b, 0, none⟩)), recovered := true } :: older) ∧ w' = (w.setCell ⟨i, 0, none⟩ (.pointer none)).setCell ⟨j, 0, none⟩ (.pointer (some ⟨b, 0, none⟩)) := by
  have haf := Tryz.assertFault (.pointer (some ⟨b, 0, none⟩))
  refine callsD_of_wpS Tryz.func24 rfl fun c₀ cs hu => ?_
  apply wpS_seq
  apply wpS_region
  simp [wpOpsS, go_sem, recoverD, hu, Tryz.ntmps24, Exit.thenS]
  refine wpS_of_wp ?_
  go_wp2
  cases c₀
  simp_all [bodyPostS, results, Tryz.results24, Exit.thenS]
end Go.Proofs.YtdhkmfpfbjcdiaaGreatDoor
namespace Go.Proofs.YtdhkmfpfbjcdiaaGreatDoor
open Go.RowKit
set_option maxHeartbeats 1000000 in
theorem fNew_any (w : World) (t : Nat) : Calls Tryz.prog 26 #[fnV t] w fun e w' => ∃ s A, e = .returned (.pointer (some ⟨s, 0, none⟩)) ∧ (∀ M, (∀ b ∈ A.blocks s, b ∈ M) → StkAt w' s t A M [⟨[], []⟩]) ∧ Same [] w w' ∧ ∀ b ∈ A.blocks s, w.heap.size ≤ b := by
  unfold fnV
  obtain ⟨i, hi, hz0, hz1, hz2⟩ := info_split Tryz.infoScope'
  go_enter Tryz.func26, Tryz.ntmps26
  go_wp2_with (at_make; go_must (refine wpList_make_full _ rfl _ _ 129 rfl 0 203 i _ 2 Tryz.underlying129 hi hz0 hz1 .i64 .i64 1 1 1 rfl rfl rfl rfl (by rw [hz2]; decide) (by decide) (Nat.zero_le _) ?_; intro w1 hr1 hg1; have hs1 := Same.of_grown hg1; have hwl : w.heap.size < w1.heap.size := Row.lt hr1 rfl; have Hr1 := Lib.hid hr1; have Hs1 := Lib.hid hs1; clear hr1 hg1 hs1))
  go_ret
  have hr1 : Row w1 203 2 (.slice (some ⟨w.heap.size, 0, none⟩) 1 1) 1 [.slice none 0 0, .slice none 0 0] := by
    have hm : (madeCells (Value.agg #[.slice none 0 0, .slice none 0 0]).cells (1 * 2)).toList = [.slice none 0 0, .slice none 0 0] := by kernel_rfl
    rw [← hm]
    exact Hr1.out
  have hs1 : Same [] w w1 := Hs1.out
  refine ⟨w1.heap.size, ⟨.slice (some ⟨w.heap.size, 0, none⟩) 1 1, [⟨.slice none 0 0, .slice none 0 0, []⟩]⟩, rfl, fun M hM => ?_, hs1.trans (Same.alloc _ _ _), ?_⟩
  · refine ⟨blk_new _ _, hr1.same (Same.alloc [] _ _) (by simp), ⟨⟨⟨World.ownsRow_nil _ _ _ _, trivial, by simp⟩, Fix.nil _ _ _ _⟩, trivial⟩, hM, ?_, by simp, by simp⟩
    intro i j p q b hi hj hp hq
    have := List.mem_of_getElem? hi
    simp at this
    subst this
    simp [Value.ownBlock] at hp
  · intro b hb
    rcases SA.mem_blocks.1 hb with rfl | hb | ⟨p, hp, hb⟩
    · exact hs1.size
    · simp [Value.ownBlock] at hb; omega
    · simp at hp; subst hp; simp [Value.ownBlock] at hb
theorem ld_start {W : World} {F : LF} {TA : TA} {A : SA} (hl : W.heap[F.l]? = some (.cells #[.pointer (some ⟨F.nb, 0, none⟩), .pointer (some ⟨F.s, 0, none⟩), .int .i64 0] 86 (0, 0)))
    (hnb : W.heap[F.nb]? = some (.cells #[.string F.text, F.sv, .pointer (some ⟨F.t, 0, none⟩), .map (some F.mn), .slice none 0 0, .map (some F.mf), .map (some F.mh)] 83 (0, 0)))
    (hT : TblAt W F.t TA Tbl.empty) (hS : StkAt W F.s F.t A (LV.blocks ⟨TA, A, .slice none 0 0, [], []⟩ F) [⟨[], []⟩]) (h1 : SMap W F.mn []) (h2 : SMap W F.mf []) (h3 : SMap W F.mh []) (h4 : F.mn ≠ F.mf ∧ F.mn ≠ F.mh ∧ F.mf ≠ F.mh) (h5 : ∀ b ∈ TA.blocks F.t, b ≠ F.mn ∧ b ≠ F.mf ∧ b ≠ F.mh) :
    LdAt W F ⟨TA, A, .slice none 0 0, [], []⟩ Ld.new :=
  ⟨hl, hnb, hT, hS, h1, h2, h3, trivial, World.ownsRow_nil _ _ _ _, trivial, h4, h5⟩
structure BP where
  t : Nat
  mn : Nat
  mf : Nat
  mh : Nat
  sv : Value
  TA : TA
  av : Value
  aps : List AsP
  hm : List (ByteArray × Value)
structure BsAt (w : World) (nb : Nat) (P : BP) (B : Bs) : Prop where
  blk : w.heap[nb]? = some (.cells #[.string B.text, P.sv, .pointer (some ⟨P.t, 0, none⟩), .map (some P.mn), P.av, .map (some P.mf), .map (some P.mh)] 83 (0, 0))
  stmts : StmtsAt w P.sv B.stmts
  tbl : TblAt w P.t P.TA B.ld.tbl
  nums : SMap w P.mn (natMap (numbersOf B.ld.tbl))
  finds : SMap w P.mf (natMap B.ld.finds)
  hyps : SMap w P.mh P.hm
  hin : All2 (HmIn w []) B.ld.hyps P.hm
  asr : Row w 56 17 P.av B.ld.asserts.length (asCells B.ld.asserts P.aps)
  ain : All2 (AsIn w []) B.ld.asserts P.aps
theorem BsAt.same {w w' : World} {nb : Nat} {P : BP} {B : Bs} (h : BsAt w nb P B) (hs : Same [] w w') : BsAt w' nb P B :=
  ⟨hs.get h.blk (by simp), h.stmts.same hs, h.tbl.same hs (by simp), h.nums.same hs (by simp), h.finds.same hs (by simp), h.hyps.same hs (by simp), h.hin.imp fun _ _ => HmIn.move (Move.of_same hs), h.asr.same hs (by simp), h.ain.imp fun _ _ => AsIn.move (Move.of_same hs)⟩
def LoadR (t : ByteArray) (w : World) (e : Ending) (w' : World) : Prop := Same [] w w' ∧ match loadOf t with
  | .error f => ∃ v, e = .returned (.tuple #[.pointer none, v]) ∧ FltAt w' v (some f)
  | .ok B => ∃ nb P, e = .returned (.tuple #[.pointer (some ⟨nb, 0, none⟩), .pointer none]) ∧ BsAt w' nb P B
theorem LibCell.same {w w' : World} (h : LibCell w) (hs : Same [] w w') : LibCell w' := by obtain ⟨m, hm⟩ := h; exact ⟨m, hs.cell hm (by simp)⟩
def tyAll : List (Option TypeId) := [some 86, some 83, some 56, none, some 128, some 133, some 197, some 9, some 3, some 131, some 203, some 150]
theorem Ty.mono {w : World} {ts ts' : List (Option TypeId)} {b : Nat} (h : Ty w ts b) (hd : ∀ t ∈ ts, t ∈ ts') : Ty w ts' b := by obtain ⟨t, h1, h2⟩ := h; exact ⟨t, h1, hd t h2⟩
theorem LdAt.tys {w : World} {F : LF} {V : LV} {L : Ld} (h : LdAt w F V L) : ∀ b ∈ V.blocks F, Ty w tyAll b := by
  have ty := h.ty
  intro b hb
  rcases LV.mem.1 hb with rfl | rfl | rfl | rfl | rfl | hb | hb | hb
  · exact ty.l.mono (by decide)
  · exact ty.nb.mono (by decide)
  · exact ty.mn.mono (by decide)
  · exact ty.mf.mono (by decide)
  · exact ty.mh.mono (by decide)
  · exact (ty.av b hb).mono (by decide)
  · exact (ty.t b hb).mono (by decide)
  · exact (ty.s b hb).mono (by decide)
theorem LdAt.notRow {w : World} {F : LF} {V : LV} {L : Ld} (h : LdAt w F V L) {e k n : Nat} {v : Value} {xs : List Value} (hr : Row w e k v n xs) (he : some e ∉ tyAll) : ∀ b, v.ownBlock = some b → b ∉ V.blocks F := fun b hb hm =>
  (h.tys b hm).no (Ty.one (hr.ty hb)) fun t ht h1 => by
    have := List.mem_singleton.1 h1
    subst this
    exact he ht
theorem LdAt.notCells {w : World} {F : LF} {V : LV} {L : Ld} (h : LdAt w F V L) {b : Nat} {cs : Array Value} {t : TypeId} {fr : Nat × Nat} (hb : w.heap[b]? = some (.cells cs t fr)) (ht : some t ∉ tyAll) : b ∉ V.blocks F := fun hm =>
  (h.tys b hm).no (Ty.one (tyOf_cells hb)) fun u hu h1 => by
    have := List.mem_singleton.1 h1
    subst this
    exact ht hu
theorem LdAt.setSv {w w' : World} {F : LF} {V : LV} {L : Ld} (h : LdAt w F V L) {v : Value} (hb : w'.heap[F.nb]? = some (.cells #[.string F.text, v, .pointer (some ⟨F.t, 0, none⟩), .map (some F.mn), V.av, .map (some F.mf), .map (some F.mh)] 83 (0, 0))) (hs : Same [F.nb] w w') :
    LdAt w' { F with sv := v } V L ∧ Move (V.blocks F) (V.blocks { F with sv := v }) w w' := by
  have ty := h.ty
  have m : Move (V.blocks F) (V.blocks F) w w' := ⟨fun b hb => .inl hb, hs.mono fun b hb => .inl (LV.mem.2 (.inr (.inl (List.mem_singleton.1 hb))))⟩
  have no : ∀ {ts : List (Option TypeId)} {b : Nat}, Ty w ts b → (∀ t ∈ ts, t ∉ [some 83]) → b ∉ [F.nb] := fun {ts b} hb hd hm => by
    have := List.mem_singleton.1 hm
    subst this
    exact hb.no ty.nb hd
  exact ⟨⟨hs.get h.lb (no ty.l (by decide)), hb, h.tbl.same hs fun b hb => no (ty.t b hb) (by decide), h.stk.move m (fun b hb => hs.block b (h.stk.lt b hb) (no (ty.s b hb) (by decide))) h.stk.sub,
    h.nums.same hs (no ty.mn (by decide)), h.finds.same hs (no ty.mf (by decide)), h.hyps.same hs (no ty.mh (by decide)), h.hin.imp fun _ _ => HmIn.move m, h.asr.same hs fun b hb => no (ty.av b hb) (by decide), h.ain.imp fun _ _ => AsIn.move m, h.maps, h.mapt⟩, m⟩
structure StmtsIn (w : World) (M : List Nat) (v : Value) (sv : List (Value × Value)) (l : List St) : Prop where
  row : Fix w M 73 16 v l.length (outCells l sv)
  inn : All2 (StIn w M) l sv
theorem StmtsIn.move {w w' : World} {M M' : List Nat} (m : Move M M' w w') {v : Value} {sv : List (Value × Value)} {l : List St} (h : StmtsIn w M v sv l) : StmtsIn w' M' v sv l := ⟨h.row.move m, h.inn.imp fun _ _ => StIn.move m⟩
theorem LdAt.stmts {w : World} {F : LF} {V : LV} {L : Ld} (h : LdAt w F V L) {v : Value} {l : List St} (hs : StmtsAt w v l) : ∃ sv, StmtsIn w (V.blocks F) v sv l := by
  obtain ⟨sv, h1, h2⟩ := hs
  exact ⟨sv, ⟨h1, h.notRow h1 (by decide)⟩, h2.imp fun _ _ hp => ⟨⟨hp.1.row, h.notRow hp.1.row (by decide)⟩, ⟨hp.2.row, h.notRow hp.2.row (by decide)⟩⟩⟩
theorem StmtsIn.at_ {w : World} {M : List Nat} {v : Value} {sv : List (Value × Value)} {l : List St} (h : StmtsIn w M v sv l) : StmtsAt w v l := ⟨sv, h.row.row, h.inn.imp fun _ _ hp => hp.all⟩
theorem stCells_len (s : St) (p q : Value) : (s.cells p q).length = 16 := rfl
theorem outCells_at : ∀ (l : List St) (m : List (Value × Value)) (k : Nat) (h : k < l.length) (h2 : k < m.length), ((outCells l m).drop (k * 16)).take 16 = l[k].cells m[k].1 m[k].2
  | x :: l, y :: m, 0, _, _ => by
    show ((x.cells y.1 y.2 ++ outCells l m).drop (0 * 16)).take 16 = x.cells y.1 y.2
    rw [Nat.zero_mul, List.drop_zero, List.take_append_of_le_length (by rw [stCells_len]; omega), List.take_of_length_le (by rw [stCells_len]; omega)]
  | x :: l, y :: m, k + 1, h, h2 => by
    have := outCells_at l m k (by simpa using h) (by simpa using h2)
    rw [show (k + 1) * 16 = 16 + k * 16 by omega, ← List.drop_drop]
    have e : (outCells (x :: l) (y :: m)).drop 16 = outCells l m := by
      show (x.cells y.1 y.2 ++ outCells l m).drop 16 = outCells l m
      rw [List.drop_append_of_le_length (by rw [stCells_len]; omega), List.drop_of_length_le (by rw [stCells_len]; omega), List.nil_append]
    rw [e]
    simpa using this
theorem StmtsIn.get {w : World} {M : List Nat} {v : Value} {sv : List (Value × Value)} {l : List St} (h : StmtsIn w M v sv l) {k : Nat} (hk : k < l.length) :
    ∃ g c Aw cw Ap cp, v = .slice (some ⟨g, 0, none⟩) l.length c ∧ (∀ j u, (l[k].cells (.slice Aw l[k].words.length cw) (.slice Ap l[k].proof.length cp))[j]? = some u → w.cell? ⟨g, k * 16 + j, none⟩ = some u) ∧ g < w.heap.size ∧
      Fix w M 54 4 (.slice Aw l[k].words.length cw) l[k].words.length (tkCells l[k].words) ∧ Fix w M 54 4 (.slice Ap l[k].proof.length cp) l[k].proof.length (tkCells l[k].proof) := by
  have hl : k < sv.length := by rw [h.inn.len]; exact hk
  obtain ⟨p, hp, hin⟩ := h.inn.get (List.getElem?_eq_getElem hk)
  have hpe : sv[k] = p := by rw [List.getElem?_eq_getElem hl] at hp; exact Option.some.inj hp
  obtain ⟨Aw, cw, hw⟩ := hin.1.row.shape
  obtain ⟨Ap, cp, hpp⟩ := hin.2.row.shape
  obtain ⟨g, c, hv, hc⟩ := h.row.row.elem (i := k) hk (ys := l[k].cells p.1 p.2) (stCells_len _ _ _) (by rw [outCells_at _ _ _ hk hl, hpe]) (by decide)
  have h1 := hin.1
  have h2 := hin.2
  rw [hw, hpp] at hc
  rw [hw] at h1
  rw [hpp] at h2
  refine ⟨g, c, Aw, cw, Ap, cp, hv, fun j u hj => ?_, World.block_lt_of_cell? _ _ (hc 0 (by decide)).1, h1, h2⟩
  have hj16 : j < 16 := by
    have := (List.getElem?_eq_some_iff.1 hj).1
    rw [stCells_len] at this
    exact this
  rw [(hc j hj16).1]
  simp [List.getD_eq_getElem?_getD, hj]
theorem FltAt.move {w w' : World} {M M' : List Nat} (m : Move M M' w w') {v : Value} {o : Option Flt} (h : FltAt w v o) (hn : ∀ b, v = .pointer (some ⟨b, 0, none⟩) → b ∉ M) : FltAt w' v o := by
  cases o with
  | none => exact h
  | some f =>
    obtain ⟨b, h1, h2⟩ := h
    exact ⟨b, h1, m.same.get h2 (hn b h1)⟩
theorem LdAt.notFlt {w : World} {F : LF} {V : LV} {L : Ld} (h : LdAt w F V L) {v : Value} {o : Option Flt} (hf : FltAt w v o) : ∀ b, v = .pointer (some ⟨b, 0, none⟩) → b ∉ V.blocks F := fun b hb => by
  cases o with
  | none => have : v = .pointer none := hf; rw [this] at hb; cases hb
  | some f =>
    obtain ⟨c, h1, h2⟩ := hf
    rw [h1] at hb
    cases hb
    exact h.notCells h2 (by decide)
theorem Fix.fin {w w7 : World} {M : List Nat} {m i j : Nat} (hs : Same [m, i, j] w w7) (hm : m ∈ M) (hi : w.heap[i]? = some (.cells #[.pointer none] 27 (0, 0))) (hj : w.heap[j]? = some (.cells #[.pointer none] 24 (0, 0)))
    {e k n : Nat} {v : Value} {xs : List Value} (h : Fix w M e k v n xs) (h1 : e ≠ 27) (h2 : e ≠ 24) : Fix w7 [] e k v n xs :=
  ⟨h.row.same hs fun b hb hx => by
    simp only [List.mem_cons, List.not_mem_nil, or_false] at hx
    rcases hx with rfl | rfl | rfl
    · exact h.not b hb hm
    · exact h.row.ne hi h1 hb
    · exact h.row.ne hj h2 hb, by simp⟩
theorem HypsIn.fin {w w7 : World} {M : List Nat} {m i j : Nat} (hs : Same [m, i, j] w w7) (hm : m ∈ M) (hi : w.heap[i]? = some (.cells #[.pointer none] 27 (0, 0))) (hj : w.heap[j]? = some (.cells #[.pointer none] 24 (0, 0)))
    {v : Value} {evs : List Value} {l : List Hy} (h : HypsIn w M v evs l) (hn : ∀ b, v.ownBlock = some b → b ∉ M) : HypsIn w7 [] v evs l :=
  ⟨(Fix.fin hs hm hi hj ⟨h.row, hn⟩ (by decide) (by decide)).row, h.exprs.imp fun _ _ hx => Fix.fin hs hm hi hj hx (by decide) (by decide), h.flo⟩
theorem bs_end {w w7 : World} {F : LF} {V : LV} {L : Ld} (h : LdAt w F V L) {i j : Nat} (hi : w.heap[i]? = some (.cells #[.pointer none] 27 (0, 0))) (hj : w.heap[j]? = some (.cells #[.pointer none] 24 (0, 0)))
    (hs : Same [F.mn, i, j] w w7) (hn : SMap w7 F.mn (natMap (numbersOf L.tbl))) {sts : List St} {sv : List (Value × Value)} (hst : StmtsIn w (V.blocks F) F.sv sv sts) :
    BsAt w7 F.nb ⟨F.t, F.mn, F.mf, F.mh, F.sv, V.TA, V.av, V.aps, V.hm⟩ ⟨F.text, sts, L⟩ := by
  have ty := h.ty
  have hmM : F.mn ∈ V.blocks F := LV.mem.2 (.inr (.inr (.inl rfl)))
  have hni := h.notCells hi (by decide)
  have hnj := h.notCells hj (by decide)
  have no : ∀ {b : Nat}, b ∈ V.blocks F → b ≠ F.mn → b ∉ [F.mn, i, j] := fun {b} hb h1 hx => by
    simp only [List.mem_cons, List.not_mem_nil, or_false] at hx
    rcases hx with rfl | rfl | rfl
    · exact h1 rfl
    · exact hni hb
    · exact hnj hb
  have tyn : ∀ {ts : List (Option TypeId)} {b : Nat}, Ty w ts b → (∀ t ∈ ts, t ∉ [(none : Option TypeId)]) → b ≠ F.mn := fun {ts b} hb hd e => by
    subst e
    exact hb.no ty.mn hd
  refine ⟨hs.get h.nbb (no (LV.mem.2 (.inr (.inl rfl))) (tyn ty.nb (by decide))), ⟨sv, (Fix.fin hs hmM hi hj hst.row (by decide) (by decide)).row, hst.inn.imp fun _ _ hp => ⟨Fix.fin hs hmM hi hj hp.1 (by decide) (by decide), Fix.fin hs hmM hi hj hp.2 (by decide) (by decide)⟩⟩,
    h.tbl.same hs fun b hb => no (LV.mem.2 (.inr (.inr (.inr (.inr (.inr (.inr (.inl hb)))))))) (h.mapt b hb).1, hn, h.finds.same hs (no (LV.mem.2 (.inr (.inr (.inr (.inl rfl))))) h.maps.1.symm), h.hyps.same hs (no (LV.mem.2 (.inr (.inr (.inr (.inr (.inl rfl)))))) h.maps.2.1.symm),
    h.hin.imp fun a b hx => ⟨hx.1, hx.2.elim fun ev he => ⟨ev, he.1, Fix.fin hs hmM hi hj he.2 (by decide) (by decide)⟩⟩,
    h.asr.same hs fun b hb => no (LV.mem.2 (.inr (.inr (.inr (.inr (.inr (.inl hb))))))) (tyn (ty.av b hb) (by decide)),
    h.ain.imp fun a p hx => ⟨hx.fh.fin hs hmM hi hj hx.fhn, by simp, Fix.fin hs hmM hi hj hx.fp (by decide) (by decide), Fix.fin hs hmM hi hj hx.fg (by decide) (by decide), hx.sh.fin hs hmM hi hj hx.shn, by simp, Fix.fin hs hmM hi hj hx.sp (by decide) (by decide), Fix.fin hs hmM hi hj hx.pr (by decide) (by decide)⟩⟩
def numT (T : Tbl) (k : Nat) : List (ByteArray × Nat) := (T.syms.zipIdx.take k).foldl (fun m p => aput p.1.1 p.2 m) []
theorem numT_succ (T : Tbl) (k : Nat) (hk : k < T.syms.length) : numT T (k + 1) = aput T.syms[k].1 k (numT T k) := by
  unfold numT
  have hk' : k < T.syms.zipIdx.length := by simpa using hk
  rw [List.take_succ_eq_append_getElem hk', List.foldl_append]
  simp
theorem numT_all (T : Tbl) : numT T T.syms.length = numbersOf T := by
  unfold numT numbersOf
  rw [List.take_of_length_le (by simp)]
theorem endOf_flt23 (t : ByteArray) : fltBlk ⟨⟨t.size, 1 + Lib.countByte t.data.toList 10, (t.size - Lib.lastIndexByte t 10).toNat⟩, ⟨#[]⟩, 23⟩ =
    .cells #[.int .i64 (endOf t).1, .int .i64 (endOf t).2.1, .int .i64 (endOf t).2.2, .string ⟨#[]⟩, .int .i64 23] 76 := by
  have hlb : Lib.lastIndexByte t 10 < t.size ∨ Lib.lastIndexByte t 10 = -1 := by
    rcases Lib.lastIdx_spec t 10 t.size with h | ⟨i, hi, h, _⟩
    · exact .inr h.1
    · have : Lib.lastIndexByte t 10 = i := h
      omega
  have h1 : (((t.size : Int) - Lib.lastIndexByte t 10).toNat : Int) = t.size - Lib.lastIndexByte t 10 := by omega
  have h2 : ((1 + Lib.countByte t.data.toList 10 : Nat) : Int) = 1 + (Lib.countByte t.data.toList 10 : Int) := by omega
  unfold fltBlk endOf
  dsimp only
  rw [h1, h2]
end Go.Proofs.YtdhkmfpfbjcdiaaGreatDoor
