/- lemmalaw texts, part 48. -/
import Derived.Test.YtbfbgfpghkijdaaGreatDoorYaz
import Derived.Test.YtbfbgfpghkijdaaGreatDoorYbs
import Derived.Test.YtbfbgfpghkijdaaGreatDoorYbu
set_option maxRecDepth 100000
set_option linter.unusedVariables false
set_option linter.unusedSimpArgs false
set_option maxHeartbeats 32000000
namespace Go.Proofs.YtbfbgfpghkijdaaGreatDoor
open Go.RowKit
theorem O5 : R3 (CB NN) Rw = true := by kernel_rfl
structure P7 (B : Bs) : Prop where
 h4 : 4 < B.ld.asserts.length
 h3 : 3 < B.ld.asserts.length
 thm : B.ld.asserts[4].isThm = true
 not : B.ld.asserts[3].isThm = false
 lab : B.ld.asserts[4].label = ⟨#[105, 100]⟩
 pl : plB B.ld.asserts[4].proof = true
 run : B.run B.ld.tbl.isVar (B.ld.asserts[4].cx 4) B.ld.asserts[4].proof B.ld.asserts[4].end_ = ⟨0, Tk.none, 17, 9⟩
 c1 : (B.run B.ld.tbl.isVar (B.ld.asserts[4].cx 4) (wi3.map CQ) dot).code = 119
 c2 : (B.run B.ld.tbl.isVar (B.ld.asserts[4].cx 4) (wi3.map CQ) dot).count = 1
theorem Qz {B : Bs} (h : Rw B = true) : P7 B := by
 unfold Rw at h
 split at h
 ·rename_i a m ha hm
  obtain ⟨k4, e4⟩ := List.getElem?_eq_some_iff.1 ha
  obtain ⟨k3, e3⟩ := List.getElem?_eq_some_iff.1 hm
  simp only [Bool.and_eq_true, decide_eq_true_eq, Bool.not_eq_true'] at h
  obtain ⟨⟨⟨⟨⟨⟨h1, h2⟩, h3⟩, h4⟩, h5⟩, h6⟩, h7⟩ := h
  subst e4 e3
  exact ⟨k4, k3, h1, h2, K1 h3, h4, QJ h5, h6, h7⟩
 ·cases h
theorem QL (t : ByteArray) (w : World) (ht : t.size < 4611686018427387904) (hb : BF w) (hl : Dj w) {B : Bs} (hB : CB t = .ok B) : Calls Tryz.prog 8 #[.string t] w fun e w' => Ad [] w w' ∧ ∃ nb P, e = .returned (.tuple #[.pointer (some ⟨nb, 0, none⟩), .pointer none]) ∧ CF w' nb P B := by
 have h := JI t w ht hb hl
 unfold Py at h
 rw [hB] at h
 exact h.mono fun _ _ ⟨h1, nb, P, h2, h3⟩ => ⟨h1, nb, P, h2, ⟨h3, (K7 hB).1, OC hB⟩⟩
theorem IF (w : World) (nb : Nat) (P : BP) (B : Bs) (h : CF w nb P B) (c : Cx) (hv pv mv gv : Value) (hc : Kr w c hv pv gv) (va : Value) (ws : List Tk) (hw : Row w 59 4 va ws.length (AC ws)) (hn : ws.length ≤ 10000000) (en : Tk) (hp : ws = [] ∨ ∃ x r, ws = x :: r ∧ (x.text.toList == [40]) = false) (R : Vd → Prop) (hR : R (B.run B.ld.tbl.isVar c ws en)) :
  Calls Tryz.prog 20 #[.pointer (some ⟨nb, 0, none⟩), cxV hv pv mv c.before gv, va, tkV en] w (Qx R w) :=
 (Fi w nb P B h c hv pv mv gv hc va ws hw hn en hp).mono fun _ _ ⟨e1, e2⟩ => ⟨B.run B.ld.tbl.isVar c ws en, e1, hR, e2⟩
theorem OE {B : Bs} (hA : P7 B) (W : World) (nb : Nat) (P : BP) (hI : CF W nb P B) :
  Calls Tryz.prog 21 #[.pointer (some ⟨nb, 0, none⟩), .int .i64 4] W fun e w' => e = .returned (.tuple #[.agg #[.string ⟨#[105, 100]⟩, .int .i64 0, .string ⟨#[]⟩, .int .i64 0, .int .i64 0, .int .i64 0, .int .i64 17, .int .i64 9], .int .i64 0]) ∧ Ad [] W w' := by
 obtain ⟨h4, h3, thm, hnot, lab, pl, run, c1, c2⟩ := hA
 have hpl := QR pl
 have hpn := hI.nice.pl _ (List.getElem_mem h4)
 have h := NI W nb P B hI 4 h4 thm (fun d => d = ⟨0, Tk.none, 17, 9⟩) fun W' hW hv pv mv gv va hc hr => IF W' nb P B (hI.same hW) _ hv pv mv gv hc va _ hr (Nat.le_trans hpn (by omega)) _ hpl _ run
 rw [lab] at h
 exact h.mono fun _ _ ⟨d, h1, h2, h3⟩ => ⟨by rw [h1, h2]; rfl, h3⟩
theorem O4 {B : Bs} (hA : P7 B) (W : World) (nb : Nat) (P : BP) (hI : CF W nb P B) (hv pv mv gv : Value) (hc : Kr W ((B.ld.asserts[4]'hA.h4).cx 4) hv pv gv) (va : Value) (hr : Row W 59 4 va 3 (AC (wi3.map CQ))) :
  Calls Tryz.prog 20 #[.pointer (some ⟨nb, 0, none⟩), .agg #[hv, pv, mv, .int .i64 4, gv], va, .agg #[.string ⟨#[36, 46]⟩, .int .i64 0, .int .i64 0, .int .i64 0]] W fun e w' => ∃ (tk : Tk) (pk : Int), e = .returned (.agg #[.string ⟨#[]⟩, .int .i64 119, .string tk.text, .int .i64 tk.at_.off, .int .i64 tk.at_.line, .int .i64 tk.at_.col, .int .i64 1, .int .i64 pk]) ∧ Ad [] W w' :=
 (IF W nb P B hI _ hv pv mv gv hc va (wi3.map CQ) hr (by decide) dot (.inr ⟨_, _, rfl, by kernel_rfl⟩) (fun d => d.code = 119 ∧ d.count = 1) ⟨hA.c1, hA.c2⟩).mono fun _ _ ⟨d, h1, ⟨h2, h3⟩, h4⟩ => ⟨d.at_, d.peak, by rw [h1, h2, h3]; rfl, h4⟩
theorem OI {B : Bs} (hA : P7 B) (W : World) (nb : Nat) (P : BP) (hI : CF W nb P B) : Calls Tryz.prog 18 #[.pointer (some ⟨nb, 0, none⟩), .int .i64 4] W fun e w' => ∃ p : AsP, e = .returned (.tuple #[.agg #[p.sh, p.sp, p.fh, .int .i64 4, p.fg], .int .i64 0]) ∧ ET W (B.ld.asserts[4]'hA.h4) p w' ∧ Ad [] W w' := EM W nb P B hI.at_ hI.nice 4 hA.h4
theorem Pv {B : Bs} (hA : P7 B) (W : World) (nb : Nat) (P : BP) (hI : CF W nb P B) : Calls Tryz.prog 21 #[.pointer (some ⟨nb, 0, none⟩), .int .i64 3] W fun e w' => e = .returned (.tuple #[.agg #[.string ⟨#[]⟩, .int .i64 0, .string ⟨#[]⟩, .int .i64 0, .int .i64 0, .int .i64 0, .int .i64 0, .int .i64 0], .int .i64 140]) ∧ Ad [] W w' := Qg W nb P B hI 3 hA.h3 hA.not
theorem Ip (W : World) (b : Nat) (hb : W.heap[b]? = some (.cells #[.string ⟨#[119, 112]⟩, .string ⟨#[119, 112]⟩, .string ⟨#[119, 105]⟩] 9)) : Calls Tryz.prog 45 #[.slice (some ⟨b, 0, none⟩) 3 3] W (Lt wi3 W) :=
 Lf W _ wi3 (.inr ⟨rfl, b, 0, 3, rfl, Nat.le_refl _, Af hb, fun j u hj => by rw [Nat.zero_add, Cc hb]; simpa [wi3, DP] using hj⟩) (by decide)
theorem zq40 {P : Prop} (h : P := by
 intro W9 hR9 hs9
 have HR9 := Kd hR9
 have Hs9 := Kd hs9
 clear hR9 hs9
 go_wp2
 refine EQ.mk rfl ?_ ?_
 ·repeat (first | exact BJ | (refine Br rfl ?_))
 refine AB ?_
 go_wp2
 go_meet
 have z1 := Hd.out.size
 have z2 := Hs7.out.size
 have z3 := Hs6.out.size
 exact ⟨_, tk, pk, rfl, HR9.out, ((Hd.out.trans Hs7.out)).then Hs9.out fun x hx => .inr (by simp at hx; omega)⟩) : P := h
theorem Kw (w : World) (hb : BF w) (hl : Dj w) : Calls Tryz.prog 17 #[] w fun e w' => e = .returned (.bool true) ∧ Ad [] w w' := by
 obtain ⟨B, hB, hf⟩ := QQ O5
 have hA := Qz hf
 have hld := fun (W : World) (hW : Ad [] w W) => QL NN W (of_decide_eq_true (by kernel_rfl)) (hb.same hW) (hl.same hW) hB
 clear hf hB hb hl
 have hth4 := fun (W : World) (nb : Nat) (P : BP) (hI : CF W nb P B) => OE hA W nb P hI
 have hth3 := fun (W : World) (nb : Nat) (P : BP) (hI : CF W nb P B) => Pv hA W nb P hI
 have hcx := fun (W : World) (nb : Nat) (P : BP) (hI : CF W nb P B) => OI hA W nb P hI
 have htx := fun (W : World) (nb : Nat) (P : BP) (hI : CF W nb P B) => O4 hA W nb P hI
 have hsm := fun (W : World) (nb : Nat) (P : BP) (hI : CF W nb P B) => hI.nice.small _ (List.getElem_mem hA.h4)
 obtain ⟨a, ha⟩ : ∃ a, B.ld.asserts[4]'hA.h4 = a := ⟨_, rfl⟩
 simp only [ha] at hcx htx hsm
 have Hld := Kd hld
 have Hth4 := Kd hth4
 have Hth3 := Kd hth3
 have Hcx := Kd hcx
 have Htx := Kd htx
 have Hsm := Kd hsm
 clear hld hth4 hth3 hcx htx hsm ha hA
 go_enter Tryz.func17, Tryz.ntmps17
 go_upto_region 5 with (first
  | (go_at_call 44; go_must (refine (MN _).mono ?_; rintro e0 W0 ⟨rfl, hw0⟩; have hw5 := hw0.symm; subst hw5; clear hw0))
  | (go_at_call 8; go_must (refine (Hld.out _ (Ad.refl _ _)).mono ?_; rintro e1 W1 ⟨hs1, nb, P, rfl, hI⟩; have HI := Kd hI; have Hs1 := Kd hs1; clear hI hs1))
  | (go_at_call 21; go_must (refine (Hth4.out _ nb P HI.out).mono ?_; rintro e2 W2 ⟨rfl, hs2⟩; have Hs2 := Kd hs2; clear hs2)))
 go_upto_region 7 with (first
  | (go_at_call 21; go_must (refine (Hth3.out _ nb P (HI.out.same (Hs2.out.trans (Ad.alloc [] _ _)))).mono ?_; rintro e3 W3 ⟨rfl, hs3⟩; have Hs3 := Kd hs3; clear hs3))
  | (go_at_call 18; go_must (refine (Hcx.out _ nb P (HI.out.same ((Hs2.out.trans (Ad.alloc [] _ _)).trans (Hs3.out.trans (Ad.alloc [] _ _))))).mono ?_; rintro e4 W4 ⟨⟨fh, fp, fg, sh, sp, pr, fes, ses⟩, rfl, hnw, hs4⟩; obtain ⟨A1, c1, A2, c2, A3, c3, A4, c4, A5, c5, A6, c6, r1, r2, r3, r4, r5, r6⟩ := hnw.inn.six; dsimp only at r1 r2 r3 r4 r5 r6; subst r1 r2 r3 r4 r5 r6; dsimp only; have Hs4 := Kd hs4; have Hnw := Kd hnw; clear hs4 hnw)))
 have hb1 := ((Ad.alloc [] W3 _).trans Hs4.out).get (Hs3.out.get (Aj W2 _) (by simp)) (by simp)
 have hb2 := Hs4.out.get (Aj W3 _) (by simp)
 have hb3 := Aj W4 (.cells #[.slice A4 a.shyps.length c4, .slice A5 a.spairs.length c5, .slice A1 a.hyps.length c1, .int .i64 4, .slice A3 a.goal.length c3] 35)
 have hs45 := Ad.alloc [] W4 (.cells #[.slice A4 a.shyps.length c4, .slice A5 a.spairs.length c5, .slice A1 a.hyps.length c1, .int .i64 4, .slice A3 a.goal.length c3] 35)
 have hsI := (Hs2.out.trans (Ad.alloc [] _ _)).trans (Hs3.out.trans ((Ad.alloc [] _ _).trans (Hs4.out.trans hs45)))
 have hwI := Hs1.out.trans hsI
 generalize W4.alloc (.cells #[.slice A4 a.shyps.length c4, .slice A5 a.spairs.length c5, .slice A1 a.hyps.length c1, .int .i64 4, .slice A3 a.goal.length c3] 35) = W5 at hb3 hs45 hsI hwI ⊢
 have HI5 := Kd (HI.out.same hsI)
 have Hcx5 := Kd ((Hnw.out.cxIn (Hsm.out _ nb P HI.out) 4).same hs45)
 have HV1 := Kd (hs45.get hb1 (by simp))
 have HV2 := Kd (hs45.get hb2 (by simp))
 have HX5 := Kd hb3
 have HwI := Kd hwI
 clear hb1 hb2 hb3 hs45 hsI hwI Hs2 Hs3 Hs4 Hnw HI Hs1
 go_cut [9] (fun v wx => ∃ (b : Nat) (tk : Tk) (pk : Int), v = .pointer (some ⟨b, 0, none⟩) ∧ wx.heap[b]? = some (.cells #[.string ⟨#[]⟩, .int .i64 119, .string tk.text, .int .i64 tk.at_.off, .int .i64 tk.at_.line, .int .i64 tk.at_.col, .int .i64 1, .int .i64 pk] 61 (0, 0)) ∧ Ad [] W5 wx)
 case first =>
  obtain ⟨x0, x1, x2, x3, x4, xf⟩ := Ee ((Ad.drew [] W5).get HX5.out (by simp))
  have xl := Af ((Ad.drew [] W5).get HX5.out (by simp))
  have HI := Kd (HI5.out.same (Ad.drew [] W5))
  have Hcx4 := Kd (Hcx5.out.same (Ad.drew [] W5))
  have HX := Kd ((Ad.drew [] W5).get HX5.out (by simp))
  have Hd := Kd (Ad.drew [] W5)
  refine AD (.read 0 (.read 1 (.read 4 (.two 2 [0, 1, 4] (.two 3 [0, 1, 4] (.two 5 [] (.one 6 [0, 1, 4, 2, 3, 5] (.one 7 [] (.done))) 6 [0, 1, 4, 2, 3] (.one 5 [6] (.one 7 [] (.done)))) 6 [0, 1, 4, 2] (.one 3 [0, 1, 4, 6] (.one 5 [6] (.one 7 [] (.done))))) 6 [0, 1, 4] (.one 2 [0, 1, 4, 6] (.one 3 [0, 1, 4, 6] (.one 5 [6] (.one 7 [] (.done))))))))) (by kernel_rfl) (by kernel_rfl) ?_
  generalize W5.drew = Wd at x0 x1 x2 x3 x4 xf xl HI Hcx4 HX Hd ⊢
  iterate 3 (refine An rfl (fun K hK => ?_); go_simp; (try go_bits); (try (rw [if_pos (by omega)]; go_simp)); refine hK _ ?_; clear hK K)
  refine By rfl rfl ?_ ?_
  ·go_wp2
   refine EQ.A ?_
   refine By rfl rfl ?_ ?_
   ·go_wp2_with (go_at_call 45; go_must (refine (Ip _ _ (Aj Wd (.cells #[.string ⟨#[119, 112]⟩, .string ⟨#[119, 112]⟩, .string ⟨#[119, 105]⟩] 9))).mono ?_; rintro e6 W6 ⟨v6, rfl, hr6, hf6, hs6, -⟩; obtain ⟨A7, c7, rfl⟩ := hr6.shape; have Hs6 := Kd (((Ad.alloc [] Wd (.cells #[.string ⟨#[119, 112]⟩, .string ⟨#[119, 112]⟩, .string ⟨#[119, 105]⟩] 9))).trans hs6); have Hr6 := Kd hr6; have hx6 := Hs6.out.get HX.out (by simp); clear x0 x1 x2 x3 x4 xf xl; obtain ⟨x0, x1, x2, x3, x4, xf⟩ := Ee hx6; have xl := Af hx6; have HB6 := Kd hs6; clear hr6 hf6 hs6 hx6))
    refine EQ.A ?_
    refine By rfl rfl ?_ ?_
    ·go_wp2_with (go_at_call 20; go_must (refine (Htx.out _ nb P (HI.out.same (Hs6.out)) _ _ _ _ ((Hcx4.out).same (Hs6.out)) _ (Hr6.out)).mono ?_; rintro e7 W7 ⟨tk, pk, rfl, hs7⟩; have Hs7 := Kd ((Hs6.out).trans hs7); have HB7 := Kd hs7; have hx7 := Hs7.out.get HX.out (by simp); clear x0 x1 x2 x3 x4 xf xl; obtain ⟨x0, x1, x2, x3, x4, xf⟩ := Ee hx7; have xl := Af hx7; clear hs7 hx7))
     refine EQ.A ?_
     with_reducible refine Ak rfl ?_
     go_wp2
     refine EQ.A ?_
     with_reducible refine Ak rfl ?_
     refine AU rfl 61 _ _ rfl W7.heap.size #[.string ⟨#[]⟩, .int .i64 119, .string tk.text, .int .i64 tk.at_.off, .int .i64 tk.at_.line, .int .i64 tk.at_.col, .int .i64 1, .int .i64 pk] (by go_simp) (by go_simp) 61 #[.string ⟨#[]⟩, .int .i64 0, .string ⟨#[]⟩, .int .i64 0, .int .i64 0, .int .i64 0, .int .i64 0, .int .i64 0] ?_ (by kernel_rfl) rfl (by simp [Value.oneCell']) ?_
     ·exact (Aj W7 _)
     intro W9 hR9 hs9
     have HR9 := Kd hR9
     have Hs9 := Kd hs9
     clear hR9 hs9
     go_wp2
     refine EQ.mk rfl ?_ ?_
     ·repeat (first | exact BJ | (refine Br rfl ?_))
     refine AB ?_
     go_wp2
     go_meet
     have z1 := Hd.out.size
     have z2 := Hs7.out.size
     have z3 := Hs6.out.size
     exact ⟨_, tk, pk, rfl, HR9.out, (((Hd.out.trans Hs7.out).trans (Ad.alloc [] _ _))).then Hs9.out fun x hx => .inr (by simp at hx; omega)⟩
    ·go_wp2
     refine EQ.A ?_
     with_reducible refine Ak rfl ?_
     go_wp2_with (go_at_call 20; go_must (refine (Htx.out _ nb P (HI.out.same ((Hs6.out.trans (Ad.alloc [] _ _)))) _ _ _ _ ((Hcx4.out).same ((Hs6.out.trans (Ad.alloc [] _ _)))) _ ((Hr6.out.same (Ad.alloc [] _ _) (by simp)))).mono ?_; rintro e7 W7 ⟨tk, pk, rfl, hs7⟩; have Hs7 := Kd (((Hs6.out.trans (Ad.alloc [] _ _))).trans hs7); have HB7 := Kd hs7; have hx7 := Hs7.out.get HX.out (by simp); clear x0 x1 x2 x3 x4 xf xl; obtain ⟨x0, x1, x2, x3, x4, xf⟩ := Ee hx7; have xl := Af hx7; clear hs7 hx7))
     refine EQ.A ?_
     with_reducible refine Ak rfl ?_
     refine AU rfl 61 _ _ rfl W6.heap.size #[.string ⟨#[]⟩, .int .i64 119, .string tk.text, .int .i64 tk.at_.off, .int .i64 tk.at_.line, .int .i64 tk.at_.col, .int .i64 1, .int .i64 pk] (by go_simp) (by go_simp) 61 #[.string ⟨#[]⟩, .int .i64 0, .string ⟨#[]⟩, .int .i64 0, .int .i64 0, .int .i64 0, .int .i64 0, .int .i64 0] ?_ (by kernel_rfl) rfl (by simp [Value.oneCell']) ?_
     ·exact (HB7.out.get (Aj W6 _) (by simp))
     exact zq40
   ·go_wp2
    refine EQ.A ?_
    with_reducible refine Ak rfl ?_
    go_wp2_with (go_at_call 45; go_must (refine (Ip _ _ (AR (Aj Wd (.cells #[.string ⟨#[119, 112]⟩, .string ⟨#[119, 112]⟩, .string ⟨#[119, 105]⟩] 9)) (.cells #[.string ⟨#[]⟩, .int .i64 0, .string ⟨#[]⟩, .int .i64 0, .int .i64 0, .int .i64 0, .int .i64 0, .int .i64 0] 61))).mono ?_; rintro e6 W6 ⟨v6, rfl, hr6, hf6, hs6, -⟩; obtain ⟨A7, c7, rfl⟩ := hr6.shape; have Hs6 := Kd ((((Ad.alloc [] Wd (.cells #[.string ⟨#[119, 112]⟩, .string ⟨#[119, 112]⟩, .string ⟨#[119, 105]⟩] 9)).trans (Ad.alloc [] _ (.cells #[.string ⟨#[]⟩, .int .i64 0, .string ⟨#[]⟩, .int .i64 0, .int .i64 0, .int .i64 0, .int .i64 0, .int .i64 0] 61)))).trans hs6); have Hr6 := Kd hr6; have hx6 := Hs6.out.get HX.out (by simp); clear x0 x1 x2 x3 x4 xf xl; obtain ⟨x0, x1, x2, x3, x4, xf⟩ := Ee hx6; have xl := Af hx6; have HB6 := Kd hs6; clear hr6 hf6 hs6 hx6))
    refine EQ.A ?_
    with_reducible refine Ak rfl ?_
    go_wp2_with (go_at_call 20; go_must (refine (Htx.out _ nb P (HI.out.same (Hs6.out)) _ _ _ _ ((Hcx4.out).same (Hs6.out)) _ (Hr6.out)).mono ?_; rintro e7 W7 ⟨tk, pk, rfl, hs7⟩; have Hs7 := Kd ((Hs6.out).trans hs7); have HB7 := Kd hs7; have hx7 := Hs7.out.get HX.out (by simp); clear x0 x1 x2 x3 x4 xf xl; obtain ⟨x0, x1, x2, x3, x4, xf⟩ := Ee hx7; have xl := Af hx7; clear hs7 hx7))
    refine EQ.A ?_
    with_reducible refine Ak rfl ?_
    refine AU rfl 61 _ _ rfl (Wd.heap.size + 1) #[.string ⟨#[]⟩, .int .i64 119, .string tk.text, .int .i64 tk.at_.off, .int .i64 tk.at_.line, .int .i64 tk.at_.col, .int .i64 1, .int .i64 pk] (by go_simp) (by go_simp) 61 #[.string ⟨#[]⟩, .int .i64 0, .string ⟨#[]⟩, .int .i64 0, .int .i64 0, .int .i64 0, .int .i64 0, .int .i64 0] ?_ (by kernel_rfl) rfl (by simp [Value.oneCell']) ?_
    ·exact ((HB6.out.trans HB7.out).get (Eb Wd (.cells #[.string ⟨#[119, 112]⟩, .string ⟨#[119, 112]⟩, .string ⟨#[119, 105]⟩] 9) (.cells #[.string ⟨#[]⟩, .int .i64 0, .string ⟨#[]⟩, .int .i64 0, .int .i64 0, .int .i64 0, .int .i64 0, .int .i64 0] 61)) (by simp))
    exact zq40
  ·go_wp2
   refine EQ.A ?_
   with_reducible refine Ak rfl ?_
   go_wp2
   refine EQ.A ?_
   with_reducible refine Ak rfl ?_
   go_wp2_with (go_at_call 45; go_must (refine (Ip _ _ (Eb Wd (.cells #[.string ⟨#[]⟩, .int .i64 0, .string ⟨#[]⟩, .int .i64 0, .int .i64 0, .int .i64 0, .int .i64 0, .int .i64 0] 61) (.cells #[.string ⟨#[119, 112]⟩, .string ⟨#[119, 112]⟩, .string ⟨#[119, 105]⟩] 9))).mono ?_; rintro e6 W6 ⟨v6, rfl, hr6, hf6, hs6, -⟩; obtain ⟨A7, c7, rfl⟩ := hr6.shape; have Hs6 := Kd ((((Ad.alloc [] Wd (.cells #[.string ⟨#[]⟩, .int .i64 0, .string ⟨#[]⟩, .int .i64 0, .int .i64 0, .int .i64 0, .int .i64 0, .int .i64 0] 61)).trans (Ad.alloc [] _ (.cells #[.string ⟨#[119, 112]⟩, .string ⟨#[119, 112]⟩, .string ⟨#[119, 105]⟩] 9)))).trans hs6); have Hr6 := Kd hr6; have hx6 := Hs6.out.get HX.out (by simp); clear x0 x1 x2 x3 x4 xf xl; obtain ⟨x0, x1, x2, x3, x4, xf⟩ := Ee hx6; have xl := Af hx6; have HB6 := Kd hs6; clear hr6 hf6 hs6 hx6))
   refine EQ.A ?_
   with_reducible refine Ak rfl ?_
   go_wp2_with (go_at_call 20; go_must (refine (Htx.out _ nb P (HI.out.same (Hs6.out)) _ _ _ _ ((Hcx4.out).same (Hs6.out)) _ (Hr6.out)).mono ?_; rintro e7 W7 ⟨tk, pk, rfl, hs7⟩; have Hs7 := Kd ((Hs6.out).trans hs7); have HB7 := Kd hs7; have hx7 := Hs7.out.get HX.out (by simp); clear x0 x1 x2 x3 x4 xf xl; obtain ⟨x0, x1, x2, x3, x4, xf⟩ := Ee hx7; have xl := Af hx7; clear hs7 hx7))
   refine EQ.A ?_
   with_reducible refine Ak rfl ?_
   refine AU rfl 61 _ _ rfl Wd.heap.size #[.string ⟨#[]⟩, .int .i64 119, .string tk.text, .int .i64 tk.at_.off, .int .i64 tk.at_.line, .int .i64 tk.at_.col, .int .i64 1, .int .i64 pk] (by go_simp) (by go_simp) 61 #[.string ⟨#[]⟩, .int .i64 0, .string ⟨#[]⟩, .int .i64 0, .int .i64 0, .int .i64 0, .int .i64 0, .int .i64 0] ?_ (by kernel_rfl) rfl (by simp [Value.oneCell']) ?_
   ·exact ((HB6.out.trans HB7.out).get (AR (Aj Wd (.cells #[.string ⟨#[]⟩, .int .i64 0, .string ⟨#[]⟩, .int .i64 0, .int .i64 0, .int .i64 0, .int .i64 0, .int .i64 0] 61)) (.cells #[.string ⟨#[119, 112]⟩, .string ⟨#[119, 112]⟩, .string ⟨#[119, 105]⟩] 9)) (by simp))
   exact zq40
 obtain ⟨b, tk, pk, rfl, hbv, hs9⟩ := hcut
 generalize wc = W9 at hbv hs9 ⊢
 obtain ⟨x0, x1, x2, x3, x4, x5, x6, x7, xf⟩ := Nv (hs9.get HV1.out (by simp))
 have xl := Af (hs9.get HV1.out (by simp))
 obtain ⟨y0, y1, y2, y3, y4, y5, y6, y7, yf⟩ := Nv (hs9.get HV2.out (by simp))
 have yl := Af (hs9.get HV2.out (by simp))
 obtain ⟨z0, z1, z2, z3, z4, z5, z6, z7, zf⟩ := Nv hbv
 have zl := Af hbv
 have Hs9 := Kd hs9
 clear hbv hs9
 go_wp2
 go_ret
 exact ⟨rfl, HwI.out.trans Hs9.out⟩
end Go.Proofs.YtbfbgfpghkijdaaGreatDoor
namespace Go.Proofs.YtbfbgfpghkijdaaGreatDoor
def Gk : ByteArray := ⟨#[110, 111, 32, 108, 97, 98, 101, 108]⟩
def Cx.plus (c : Cx) : Cx := ⟨c.hyps ++ [⟨Gk, false, -1, []⟩], c.pairs ++ [(-5, -4)], c.before + 1048576, c.goal⟩
theorem Mw : CA Gk = false := by decide
theorem Cx.plus_more {B : Bs} (h : B.ld.Lb) (c : Cx) : c.More B c.plus := by
 refine ⟨fun s hf hs => ?_, fun s x hf => ?_, fun p hp => ?_, ?_, rfl⟩
 ·show (c.hyps ++ [_]).find? _ = none
  rw [List.find?_append, hf, Option.none_or, List.find?_cons]
  have : decide (Gk = s) = false := decide_eq_false fun e => by
   subst e
   have := h.nm _ hs
   rw [Mw] at this
   cases this
  rw [this]
  rfl
 ·show (c.hyps ++ [_]).find? _ = some x
  rw [List.find?_append, hf]
  rfl
 ·show (c.pairs ++ [_]).any _ = true
  rw [List.any_append, Bool.or_eq_true]
  exact .inl hp
 ·show c.before ≤ c.before + 1048576
  omega
def B7 (l : List ByteArray) (k : Nat) : List Tk := l.mapIdx fun i s => ⟨s, ⟨if i < k then i + 1 else 0, 0, 0⟩⟩
theorem Ck (l : List ByteArray) (k : Nat) : (B7 l k).length = l.length := by simp [B7]
theorem Jb (l : List ByteArray) (k i : Nat) (h : i < (B7 l k).length) : (B7 l k)[i] = ⟨l[i]'(by rw [← Ck l k]; exact h), ⟨if i < k then i + 1 else 0, 0, 0⟩⟩ := by simp [B7]
theorem Pe (l : List ByteArray) : B7 l 0 = l.map fun s => ⟨s, ⟨0, 0, 0⟩⟩ := by
 apply List.ext_getElem
 ·simp [B7]
 ·intro i h1 h2
  simp [B7]
theorem Qj (l : List ByteArray) (k : Nat) (h : k < l.length) : B7 l (k + 1) = (B7 l k).set k ⟨l[k], ⟨k + 1, 0, 0⟩⟩ := by
 apply List.ext_getElem
 ·simp [B7]
 ·intro i h1 h2
  rw [List.getElem_set]
  simp only [B7, List.getElem_mapIdx]
  by_cases hik : k = i
  ·subst hik; simp
  ·rw [if_neg hik]
   by_cases h3 : i < k
   ·rw [if_pos h3, if_pos (by omega)]
   ·rw [if_neg h3, if_neg (by omega)]
theorem Rs {B : Bs} {vars : Int → Bool} {c : Cx} {l : List ByteArray} {en en' : Tk} (h : (B.run vars c (B7 l l.length) en).code ≠ 0) (l' : List Tk) :
  (∃ k, ∃ hk : k < l.length, (B.run vars c (B7 l l.length) en).at_ = ⟨l[k], ⟨k + 1, 0, 0⟩⟩ ∧ B.run vars c ((B7 l l.length).take (k + 1) ++ l') en' = B.run vars c (B7 l l.length) en) ∨ (B.run vars c (B7 l l.length) en).at_ = en := by
 rcases IJ (e' := en') (B7 l l.length) 0 ⟨[], 0, 0⟩ l' h with ⟨k, hk, h1, h2⟩ | h1
 ·have hk' : k < l.length := by rw [← Ck l l.length]; exact hk
  refine .inl ⟨k, hk', ?_, h2⟩
  unfold Bs.run
  rw [h1, Jb]
  simp [hk']
 ·exact .inr h1
end Go.Proofs.YtbfbgfpghkijdaaGreatDoor
namespace Go.Proofs.YtbfbgfpghkijdaaGreatDoor
open Go.RowKit
theorem bz5 : Tryz.prog.built 35 [] = some #[.slice none 0 0, .slice none 0 0, .slice none 0 0, .int .i64 0, .slice none 0 0] := by kernel_rfl
theorem zq26 {P : Prop} (h : P := by
 clear hn
 go_enter Tryz.func22, Tryz.ntmps22
 go_wp2_with (first
  | (with_reducible refine Bt rfl 71 _ rfl O9 ?_)
  | (refine AU rfl 71 _ _ rfl w.heap.size #[.int .i64 0, .string ⟨#[]⟩, .bool false, .slice none 0 0, .slice none 0 0, .slice none 0 0, .slice none 0 0, .slice none 0 0, .slice none 0 0, .string ⟨#[]⟩, .int .i64 0, .int .i64 0, .int .i64 0, .string ⟨#[]⟩, .int .i64 0, .int .i64 0, .int .i64 0] (by go_simp) (by go_simp) 71 #[.int .i64 0, .string ⟨#[]⟩, .bool false, .slice none 0 0, .slice none 0 0, .slice none 0 0, .slice none 0 0, .slice none 0 0, .slice none 0 0, .string ⟨#[]⟩, .int .i64 0, .int .i64 0, .int .i64 0, .string ⟨#[]⟩, .int .i64 0, .int .i64 0, .int .i64 0] HZ.out EO rfl (by simp [Value.oneCell']) ?_; intro W3 hR3 hs3; have HR3 := Kd hR3; have Hs3 := Kd hs3; clear hR3 hs3))
 refine bodyPost_ret_by (v := .tuple #[.agg #[.int .i64 0, .string ⟨#[]⟩, .bool false, .slice none 0 0, .slice none 0 0, .slice none 0 0, .slice none 0 0, .slice none 0 0, .slice none 0 0, .string ⟨#[]⟩, .int .i64 0, .int .i64 0, .int .i64 0, .string ⟨#[]⟩, .int .i64 0, .int .i64 0, .int .i64 0], .int .i64 140]) (Dd (p := 4) (r := 5) rfl _ W3 w.heap.size _ _ rfl _ rfl HR3.out Tryz.underlying71 rfl EO) rfl ?_
 exact ⟨rfl, (Ad.alloc [] w _).then Hs3.out fun x hx => .inr (by simp at hx; omega)⟩) : P := h
theorem Ry (w : World) (nb : Nat) (P : BP) (B : Bs) (h : FG w nb P B) (n : Int) (hn : n < 0 ∨ (B.ld.asserts.length : Int) ≤ n) :
  Calls Tryz.prog 22 #[.pointer (some ⟨nb, 0, none⟩), .int .i64 n] w fun e w' => e = .returned (.tuple #[asZ, .int .i64 140]) ∧ Ad [] w w' := by
 obtain ⟨Av, cv, hav⟩ := h.asr.shape
 have n4 := Ai (i := 4) (v := P.av) h.blk
 rw [hav] at n4
 have nl := Af h.blk
 have HZ := Kd (Aj w (.cells #[.int .i64 0, .string ⟨#[]⟩, .bool false, .slice none 0 0, .slice none 0 0, .slice none 0 0, .slice none 0 0, .slice none 0 0, .slice none 0 0, .string ⟨#[]⟩, .int .i64 0, .int .i64 0, .int .i64 0, .string ⟨#[]⟩, .int .i64 0, .int .i64 0, .int .i64 0] 71))
 unfold asZ
 clear h hav
 by_cases h0 : n < 0
 ·exact zq26
 ·have h1 : (B.ld.asserts.length : Int) ≤ n := by omega
  exact zq26
theorem Mr (w : World) (nb : Nat) (P : BP) (B : Bs) (h : FG w nb P B) (n : Int) (hn : n < 0 ∨ (B.ld.asserts.length : Int) ≤ n) :
  Calls Tryz.prog 18 #[.pointer (some ⟨nb, 0, none⟩), .int .i64 n] w fun e w' => e = .returned (.tuple #[.agg #[.slice none 0 0, .slice none 0 0, .slice none 0 0, .int .i64 0, .slice none 0 0], .int .i64 140]) ∧ Ad [] w w' := by
 have hat := fun (W : World) (hW : Ad [] w W) => Ry W nb P B (h.same hW) n hn
 have HZ := Kd (Aj w (.cells #[.slice none 0 0, .slice none 0 0, .slice none 0 0, .int .i64 0, .slice none 0 0] 35))
 have Hat := Kd hat
 clear h hat
 go_enter Tryz.func18, Tryz.ntmps18
 go_wp2_with (first
  | (go_at_call 22; go_must (refine (Hat.out _ (Ad.alloc [] _ _)).mono ?_; rintro e1 W1 ⟨rfl, hs1⟩; have Hs1 := Kd hs1; unfold asZ; clear hs1))
  | (refine AU rfl 71 _ _ rfl W1.heap.size #[.int .i64 0, .string ⟨#[]⟩, .bool false, .slice none 0 0, .slice none 0 0, .slice none 0 0, .slice none 0 0, .slice none 0 0, .slice none 0 0, .string ⟨#[]⟩, .int .i64 0, .int .i64 0, .int .i64 0, .string ⟨#[]⟩, .int .i64 0, .int .i64 0, .int .i64 0] (by go_simp) (by go_simp) 71 #[.int .i64 0, .string ⟨#[]⟩, .bool false, .slice none 0 0, .slice none 0 0, .slice none 0 0, .slice none 0 0, .slice none 0 0, .slice none 0 0, .string ⟨#[]⟩, .int .i64 0, .int .i64 0, .int .i64 0, .string ⟨#[]⟩, .int .i64 0, .int .i64 0, .int .i64 0] (Aj W1 (.cells #[.int .i64 0, .string ⟨#[]⟩, .bool false, .slice none 0 0, .slice none 0 0, .slice none 0 0, .slice none 0 0, .slice none 0 0, .slice none 0 0, .string ⟨#[]⟩, .int .i64 0, .int .i64 0, .int .i64 0, .string ⟨#[]⟩, .int .i64 0, .int .i64 0, .int .i64 0] 71)) EO rfl (by simp [Value.oneCell']) ?_; intro W2 hB2 hs2; have Hs12 : Hid (Ad [] W1 W2) := Kd ((Ad.alloc [] W1 _).then hs2 fun x hx => .inr (by simp at hx; omega)); clear hB2 hs2)
  | (with_reducible refine Bt rfl 35 _ rfl bz5 ?_)
  | (refine AU rfl 35 _ _ rfl w.heap.size #[.slice none 0 0, .slice none 0 0, .slice none 0 0, .int .i64 0, .slice none 0 0] (by go_simp) (by go_simp) 35 #[.slice none 0 0, .slice none 0 0, .slice none 0 0, .int .i64 0, .slice none 0 0] ((Hs1.out.trans Hs12.out).get HZ.out (by simp)) (by kernel_rfl) rfl (by simp [Value.oneCell']) ?_; intro W3 hR3 hs3; have HR3 := Kd hR3; have Hs3 := Kd hs3; clear hR3 hs3))
 refine bodyPost_ret_by (v := .tuple #[.agg #[.slice none 0 0, .slice none 0 0, .slice none 0 0, .int .i64 0, .slice none 0 0], .int .i64 140]) (Dd (p := 4) (r := 5) rfl _ W3 w.heap.size _ _ rfl _ rfl HR3.out Tryz.underlying35 rfl (by kernel_rfl)) rfl ?_
 exact ⟨rfl, (((Ad.alloc [] w _).trans Hs1.out).trans Hs12.out).then Hs3.out fun x hx => .inr (by simp at hx; omega)⟩
end Go.Proofs.YtbfbgfpghkijdaaGreatDoor
