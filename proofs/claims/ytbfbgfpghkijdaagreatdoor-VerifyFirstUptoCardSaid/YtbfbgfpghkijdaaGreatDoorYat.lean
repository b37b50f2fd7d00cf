/- lemmalaw texts, part 20. -/
import Derived.Test.YtbfbgfpghkijdaaGreatDoorYap
import Derived.Test.YtbfbgfpghkijdaaGreatDoorYaq
import Derived.Deep.DeepFit
set_option maxRecDepth 100000
set_option linter.unusedVariables false
set_option linter.unusedSimpArgs false
set_option maxHeartbeats 32000000
namespace Go.Proofs.YtbfbgfpghkijdaaGreatDoor
open Go.RowKit
theorem zq117 {P : Prop} (h : P := by
 have := hr.same hset (fun b hb hm => by simp at hm; subst hm; exact hv1B hb)
 simpa [AC] using this) : P := h
theorem BD.pushWord {w w1 : World} {r : Nat} {A : RA} {R : Rd} {s : St} {t : Tk} {B : Nat} {v1 : Value} (h : BD w r A R) (hnow : R.now = some s) (hnv : A.nv = .pointer (some ⟨B, 0, none⟩))
  (hr : Row w1 59 4 v1 (s.words.length + 1) (AC s.words ++ t.cells)) (hs : Ad A.nw.ownBlock.toList w w1) (ho : v1.ownBlock = A.nw.ownBlock ∨ ∃ b, v1.ownBlock = some b ∧ w.heap.size ≤ b) :
  BD (w1.setCell ⟨B, 10, none⟩ v1) r { A with nw := v1 } ⟨R.out, R.label, some { s with words := s.words ++ [t] }, R.what, R.proves⟩ ∧ AN (A.blocks r) (RA.blocks { A with nw := v1 } r) w (w1.setCell ⟨B, 10, none⟩ v1) := by
 obtain ⟨B', Aw, cw, Ap, cp, hnv', hnw, hnp, hB, hBr, d1, d2, d3, d4, d5, d6, rw1, rp1, d7, d8, d9⟩ := h.nowFacts hnow
 have : B' = B := by rw [hnv] at hnv'; cases hnv'; rfl
 subst this
 have hb1 := hs.get h.blk (by simpa using d1)
 have hB1 := hs.get hB (by simpa using d3)
 have hBl := Af hB
 have hv1B : v1.ownBlock ≠ some B' := by
  rcases ho with ho | ⟨b, hb, hle⟩
  ·rw [ho]; exact d3
  ·rw [hb]; intro e; cases e; omega
 have hset : Ad [B'] w1 (w1.setCell ⟨B', 10, none⟩ v1) := Ad.setCell _ _ _ (by simp)
 have hoth : Row (w1.setCell ⟨B', 10, none⟩ v1) 59 4 A.np s.proof.length (AC s.proof) :=
  (rp1.same hs (fun b hb hm => d7 b (Option.mem_toList.1 hm) hb)).same hset (fun b hb hm => by simp at hm; subst hm; exact d4 hb)
 have hmine : Row (w1.setCell ⟨B', 10, none⟩ v1) 59 4 v1 (s.words ++ [t]).length (AC (s.words ++ [t])) := by
  exact zq117
 have hap : ∀ b, v1.ownBlock = some b → A.np.ownBlock ≠ some b := by
  intro b hb hb'
  rcases ho with ho | ⟨c, hc, hle⟩
  ·rw [ho] at hb; exact d7 b hb hb'
  ·rw [hc] at hb; cases hb; have := rp1.lt hb'; omega
 refine h.nowUpd (s' := { s with words := s.words ++ [t] }) hnow hnv ?_ ?_ ?_ hmine hoth hap ho (.inl rfl)
 ·refine Ad.set (hs.mono (fun x hx => .inl ?_)) _ _ (by simp)
  simp only [List.mem_cons, List.mem_append]
  exact .inr (.inr (.inl hx))
 ·rw [AG _ _ (fun e => hBr e.symm)]; exact hb1
 ·rw [AI hB1]; rfl
theorem BD.pushProof {w w1 : World} {r : Nat} {A : RA} {R : Rd} {s : St} {t : Tk} {B : Nat} {v1 : Value} (h : BD w r A R) (hnow : R.now = some s) (hnv : A.nv = .pointer (some ⟨B, 0, none⟩))
  (hr : Row w1 59 4 v1 (s.proof.length + 1) (AC s.proof ++ t.cells)) (hs : Ad A.np.ownBlock.toList w w1) (ho : v1.ownBlock = A.np.ownBlock ∨ ∃ b, v1.ownBlock = some b ∧ w.heap.size ≤ b) :
  BD (w1.setCell ⟨B, 11, none⟩ v1) r { A with np := v1 } ⟨R.out, R.label, some { s with proof := s.proof ++ [t] }, R.what, R.proves⟩ ∧ AN (A.blocks r) (RA.blocks { A with np := v1 } r) w (w1.setCell ⟨B, 11, none⟩ v1) := by
 obtain ⟨B', Aw, cw, Ap, cp, hnv', hnw, hnp, hB, hBr, d1, d2, d3, d4, d5, d6, rw1, rp1, d7, d8, d9⟩ := h.nowFacts hnow
 have : B' = B := by rw [hnv] at hnv'; cases hnv'; rfl
 subst this
 have hb1 := hs.get h.blk (by simpa using d2)
 have hB1 := hs.get hB (by simpa using d4)
 have hBl := Af hB
 have hv1B : v1.ownBlock ≠ some B' := by
  rcases ho with ho | ⟨b, hb, hle⟩
  ·rw [ho]; exact d4
  ·rw [hb]; intro e; cases e; omega
 have hset : Ad [B'] w1 (w1.setCell ⟨B', 11, none⟩ v1) := Ad.setCell _ _ _ (by simp)
 have hoth : Row (w1.setCell ⟨B', 11, none⟩ v1) 59 4 A.nw s.words.length (AC s.words) :=
  (rw1.same hs (fun b hb hm => d7 b hb (Option.mem_toList.1 hm))).same hset (fun b hb hm => by simp at hm; subst hm; exact d3 hb)
 have hmine : Row (w1.setCell ⟨B', 11, none⟩ v1) 59 4 v1 (s.proof ++ [t]).length (AC (s.proof ++ [t])) := by
  exact zq117
 have hap : ∀ b, v1.ownBlock = some b → A.nw.ownBlock ≠ some b := by
  intro b hb hb'
  rcases ho with ho | ⟨c, hc, hle⟩
  ·rw [ho] at hb; exact d7 b hb' hb
  ·rw [hc] at hb; cases hb; have := rw1.lt hb'; omega
 refine h.nowUpd (s' := { s with proof := s.proof ++ [t] }) hnow hnv ?_ ?_ ?_ hoth hmine (fun b hb hb' => hap b hb' hb) (.inl rfl) ho
 ·refine Ad.set (hs.mono (fun x hx => .inl ?_)) _ _ (by simp)
  simp only [List.mem_cons, List.mem_append]
  exact .inr (.inr (.inr hx))
 ·rw [AG _ _ (fun e => hBr e.symm)]; exact hb1
 ·rw [AI hB1]; rfl
theorem zq2 {P : Prop} (h : P := by
 go_enter Tryz.func57, Tryz.ntmps57
 go_wp2_with (first
  | (go_at_call 105; refine (hpc _).mono ?_; rintro e w' ⟨rfl, hw⟩; obtain rfl := hw.symm)
  | (go_at_call 107; go_must (refine (hbd _).mono ?_; rintro e W2 ⟨rfl, hs2⟩; have hs02 := (Ad.alloc [] w (AP t)).trans hs2; have H2 := Kd (H.out.same hs02); have hB2 := hs02.get HB.out (by simp); have hb2 := hs2.get (Aj w (AP t)) (by simp); obtain ⟨c0, c1, c2, c3, c4, cf⟩ := H2.out.facts; rw [hnv] at c2; rw [hvo] at c0; rw [Hpr.out] at c4; obtain ⟨g0, ⟨g1, g2, g3, g4⟩, ⟨g5, g6, g7, g8⟩, ⟨g9, g10, g11⟩, ⟨g12, g13, g14, g15⟩, gf⟩ := AS hB2; rw [hnw] at g10; rw [hnp] at g11; obtain ⟨k0, k1, k2, k3, kf⟩ := At hb2; have hr2 := Af H2.out.blk; have hBl2 := Af hB2; have hw2 := Af hb2; have HB2 := Kd hB2; have Hb2 := Kd hb2; clear hs2 hB2 hb2))
  )
 go_ret
 exact RdR.stay H.out hs02) : P := h
theorem MY (w : World) (r : Nat) (A : RA) (R : Rd) (h : BD w r A R) (t : Tk) (s : St) (hnow : R.now = some s) (h9 : R.what < 7) (hp : BG t.text = true) (hpr : R.proves = false) (hm : s.words.length = HH R.what) :
  Calls Tryz.prog 57 #[.pointer (some ⟨r, 0, none⟩), .agg #[.string t.text, .int .i64 t.at_.off, .int .i64 t.at_.line, .int .i64 t.at_.col]] w (RdR r A (R.within s t) w) := by
 have hpc := Bc t.text
 have H := Kd h
 have hbd := fun w => Bb w R.what (by omega)
 obtain ⟨B, Aw, cw, Ap, cp, hnv, hnw, hnp, hB, hBr, d1, d2, d3, d4, d5, d6, rw1, rp1, d7, d8, d9⟩ := h.nowFacts hnow
 obtain ⟨Av, cv, hvo⟩ := h.out.shape
 have HB := Kd hB
 have hlt := Af h.blk
 have hBl := Af hB
 obtain ⟨c0, c1, c2, c3, c4, cf⟩ := h.facts
 rw [hnv] at c2
 rw [hvo] at c0
 have hrB : r ≠ B := fun e => hBr e.symm
 have Hnow := Kd hnow
 have hx : R.within s t = (62, R) := by simp [Rd.within, B5, hp, hpr, hm]
 rw [hx]
 rw [hp] at hpc
 have Hpr := Kd hpr
 have hm' : ((s.words.length : Int) == (HH R.what : Int)) = true := beq_iff_eq.2 (by omega)
 rw [hpr] at c4
 clear h hp hpr hx hm hnow hB rw1 rp1
 exact zq2
theorem MT (w : World) (r : Nat) (A : RA) (R : Rd) (h : BD w r A R) (t : Tk) (s : St) (hnow : R.now = some s) (h9 : R.what < 7) (hp : BG t.text = true) (hpr : R.proves = false) (hm : s.words.length ≠ HH R.what) (hn : s.words.length < 1000000) :
  Calls Tryz.prog 57 #[.pointer (some ⟨r, 0, none⟩), .agg #[.string t.text, .int .i64 t.at_.off, .int .i64 t.at_.line, .int .i64 t.at_.col]] w (RdR r A (R.within s t) w) := by
 have hpc := Bc t.text
 have H := Kd h
 have hbd := fun w => Bb w R.what (by omega)
 obtain ⟨B, Aw, cw, Ap, cp, hnv, hnw, hnp, hB, hBr, d1, d2, d3, d4, d5, d6, rw1, rp1, d7, d8, d9⟩ := h.nowFacts hnow
 obtain ⟨Av, cv, hvo⟩ := h.out.shape
 have HB := Kd hB
 have hlt := Af h.blk
 have hBl := Af hB
 obtain ⟨c0, c1, c2, c3, c4, cf⟩ := h.facts
 rw [hnv] at c2
 rw [hvo] at c0
 have hrB : r ≠ B := fun e => hBr e.symm
 have Hnow := Kd hnow
 have hx : R.within s t = (0, ⟨R.out, R.label, some { s with words := s.words ++ [t] }, R.what, R.proves⟩) := by simp [Rd.within, B5, hp, hpr, hm]
 have Hx := Kd hx
 rw [hp] at hpc
 have Hpr := Kd hpr
 have hm' : ((s.words.length : Int) == (HH R.what : Int)) = false := beq_eq_false_iff_ne.2 (by omega)
 have Hsv := Kd hnw
 have Hrw := Kd rw1
 rw [hpr] at c4
 clear h hp hpr hx hm hnow hB rw1 rp1
 go_enter Tryz.func57, Tryz.ntmps57
 go_wp2_with (first
  | (go_at_call 105; refine (hpc _).mono ?_; rintro e w' ⟨rfl, hw⟩; obtain rfl := hw.symm)
  | (go_at_call 107; go_must (refine (hbd _).mono ?_; rintro e W2 ⟨rfl, hs2⟩; have hs02 := (Ad.alloc [] w (AP t)).trans hs2; have H2 := Kd (H.out.same hs02); have hB2 := hs02.get HB.out (by simp); have hb2 := hs2.get (Aj w (AP t)) (by simp); obtain ⟨c0, c1, c2, c3, c4, cf⟩ := H2.out.facts; rw [hnv] at c2; rw [hvo] at c0; rw [Hpr.out] at c4; obtain ⟨g0, ⟨g1, g2, g3, g4⟩, ⟨g5, g6, g7, g8⟩, ⟨g9, g10, g11⟩, ⟨g12, g13, g14, g15⟩, gf⟩ := AS hB2; rw [hnw] at g10; rw [hnp] at g11; obtain ⟨k0, k1, k2, k3, kf⟩ := At hb2; have hr2 := Af H2.out.blk; have hBl2 := Af hB2; have hw2 := Af hb2; have HB2 := Kd hB2; have Hb2 := Kd hb2; clear hs2 hB2 hb2))
  )
 have hrow2 := Hrw.out.same hs02 (by simp)
 rw [hnw] at hrow2
 refine AD (.read 0 (.read 1 (.read 2 (.read 3 (.read 4 (.read 5 (.one 6 [0, 1, 2, 3, 4] (.one 7 [0] (.read 8 (.read 9 (.one 10 [] (.done)))))))))))) (by kernel_rfl) (by kernel_rfl) ?_
 iterate 6 (refine An rfl (fun K hK => ?_); go_simp; (try go_bits); (try (rw [if_pos (by omega)]; go_simp)); refine hK _ ?_; clear hK K)
 refine Ak rfl ?_
 go_wp2
 refine EQ.A ?_
 refine Ak rfl ?_
 refine Bh rfl _ _ 54 rfl 59 4 40 _ Tryz.underlying54 Tryz.infoToken rfl (by decide) (.slice Aw s.words.length cw) _ _ rfl (hrow2.same (Ad.drew [] _) (by simp)) t.cells rfl rfl (LZ t) (by omega) (by decide) ?_
 intro v6 W6 hrow6 hsm6 hor6
 obtain ⟨A6, c6, rfl⟩ := hrow6.shape
 rw [← Hsv.out] at hsm6 hor6
 have hb6 := hsm6.get (w := W2.drew) H2.out.blk (by simpa using d1)
 have hB6 := hsm6.get (w := W2.drew) HB2.out (by simpa using d3)
 clear g0 g1 g2 g3 g4 g5 g6 g7 g8 g9 g10 g11 g12 g13 g14 g15 gf
 obtain ⟨g0, ⟨g1, g2, g3, g4⟩, ⟨g5, g6, g7, g8⟩, ⟨g9, g10, g11⟩, ⟨g12, g13, g14, g15⟩, gf⟩ := AS hB6
 go_wp2
 refine EQ.A ?_
 iterate 2 (refine An rfl (fun K hK => ?_); go_simp; (try go_bits); (try (rw [if_pos (by omega)]; go_simp)); refine hK _ ?_; clear hK K)
 refine Ak rfl ?_
 go_wp2
 refine EQ.A ?_
 refine AB ?_
 go_wp2
 go_ret
 rw [Hx.out]
 have hfin := (H2.out.same (Ad.drew [] W2)).pushWord Hnow.out hnv hrow6 hsm6 hor6
 exact ⟨rfl, _, hfin.1, (AN.of_same (hs02.trans (Ad.drew [] W2))).trans hfin.2⟩
theorem LS (w : World) (r : Nat) (A : RA) (R : Rd) (h : BD w r A R) (t : Tk) (s : St) (hnow : R.now = some s) (h9 : R.what < 7) (hp : BG t.text = true) (hpr : R.proves = true) (hn : s.proof.length < 1000000) :
  Calls Tryz.prog 57 #[.pointer (some ⟨r, 0, none⟩), .agg #[.string t.text, .int .i64 t.at_.off, .int .i64 t.at_.line, .int .i64 t.at_.col]] w (RdR r A (R.within s t) w) := by
 have hpc := Bc t.text
 have H := Kd h
 have hbd := fun w => Bb w R.what (by omega)
 obtain ⟨B, Aw, cw, Ap, cp, hnv, hnw, hnp, hB, hBr, d1, d2, d3, d4, d5, d6, rw1, rp1, d7, d8, d9⟩ := h.nowFacts hnow
 obtain ⟨Av, cv, hvo⟩ := h.out.shape
 have HB := Kd hB
 have hlt := Af h.blk
 have hBl := Af hB
 obtain ⟨c0, c1, c2, c3, c4, cf⟩ := h.facts
 rw [hnv] at c2
 rw [hvo] at c0
 have hrB : r ≠ B := fun e => hBr e.symm
 have Hnow := Kd hnow
 have hx : R.within s t = (0, ⟨R.out, R.label, some { s with proof := s.proof ++ [t] }, R.what, R.proves⟩) := by simp [Rd.within, B5, hp, hpr]
 have Hx := Kd hx
 rw [hp] at hpc
 have Hpr := Kd hpr
 have Hsv := Kd hnp
 have Hrw := Kd rp1
 rw [hpr] at c4
 clear h hp hpr hx hnow hB rw1 rp1
 go_enter Tryz.func57, Tryz.ntmps57
 go_wp2_with (first
  | (go_at_call 105; refine (hpc _).mono ?_; rintro e w' ⟨rfl, hw⟩; obtain rfl := hw.symm)
  | (go_at_call 107; go_must (refine (hbd _).mono ?_; rintro e W2 ⟨rfl, hs2⟩; have hs02 := (Ad.alloc [] w (AP t)).trans hs2; have H2 := Kd (H.out.same hs02); have hB2 := hs02.get HB.out (by simp); have hb2 := hs2.get (Aj w (AP t)) (by simp); obtain ⟨c0, c1, c2, c3, c4, cf⟩ := H2.out.facts; rw [hnv] at c2; rw [hvo] at c0; rw [Hpr.out] at c4; obtain ⟨g0, ⟨g1, g2, g3, g4⟩, ⟨g5, g6, g7, g8⟩, ⟨g9, g10, g11⟩, ⟨g12, g13, g14, g15⟩, gf⟩ := AS hB2; rw [hnw] at g10; rw [hnp] at g11; obtain ⟨k0, k1, k2, k3, kf⟩ := At hb2; have hr2 := Af H2.out.blk; have hBl2 := Af hB2; have hw2 := Af hb2; have HB2 := Kd hB2; have Hb2 := Kd hb2; clear hs2 hB2 hb2))
  )
 have hrow2 := Hrw.out.same hs02 (by simp)
 rw [hnp] at hrow2
 have d1' := d1
 have d3' := d3
 clear d1 d3
 have d1 := d2
 have d3 := d4
 refine AD (.read 0 (.read 1 (.read 2 (.read 3 (.read 4 (.read 5 (.one 6 [0, 1, 2, 3, 4] (.one 7 [0] (.read 8 (.read 9 (.one 10 [] (.done)))))))))))) (by kernel_rfl) (by kernel_rfl) ?_
 iterate 6 (refine An rfl (fun K hK => ?_); go_simp; (try go_bits); (try (rw [if_pos (by omega)]; go_simp)); refine hK _ ?_; clear hK K)
 refine Ak rfl ?_
 go_wp2
 refine EQ.A ?_
 refine Ak rfl ?_
 refine Bh rfl _ _ 54 rfl 59 4 40 _ Tryz.underlying54 Tryz.infoToken rfl (by decide) (.slice Ap s.proof.length cp) _ _ rfl (hrow2.same (Ad.drew [] _) (by simp)) t.cells rfl rfl (LZ t) (by omega) (by decide) ?_
 intro v6 W6 hrow6 hsm6 hor6
 obtain ⟨A6, c6, rfl⟩ := hrow6.shape
 rw [← Hsv.out] at hsm6 hor6
 have hb6 := hsm6.get (w := W2.drew) H2.out.blk (by simpa using d1)
 have hB6 := hsm6.get (w := W2.drew) HB2.out (by simpa using d3)
 clear g0 g1 g2 g3 g4 g5 g6 g7 g8 g9 g10 g11 g12 g13 g14 g15 gf
 obtain ⟨g0, ⟨g1, g2, g3, g4⟩, ⟨g5, g6, g7, g8⟩, ⟨g9, g10, g11⟩, ⟨g12, g13, g14, g15⟩, gf⟩ := AS hB6
 go_wp2
 refine EQ.A ?_
 iterate 2 (refine An rfl (fun K hK => ?_); go_simp; (try go_bits); (try (rw [if_pos (by omega)]; go_simp)); refine hK _ ?_; clear hK K)
 refine Ak rfl ?_
 go_wp2
 refine EQ.A ?_
 refine AB ?_
 go_wp2
 go_ret
 rw [Hx.out]
 have hfin := (H2.out.same (Ad.drew [] W2)).pushProof Hnow.out hnv hrow6 hsm6 hor6
 exact ⟨rfl, _, hfin.1, (AN.of_same (hs02.trans (Ad.drew [] W2))).trans hfin.2⟩
theorem MU (w : World) (r : Nat) (A : RA) (R : Rd) (h : BD w r A R) (t : Tk) (s : St) (hnow : R.now = some s) (h9 : R.what < 7) (hp : BG t.text = false) (q1 : t.text.toList ≠ [36, 61]) (q2 : t.text.toList ≠ [36, 46]) (pr : Bool) (hpr : R.proves = pr) :
  Calls Tryz.prog 57 #[.pointer (some ⟨r, 0, none⟩), .agg #[.string t.text, .int .i64 t.at_.off, .int .i64 t.at_.line, .int .i64 t.at_.col]] w (RdR r A (R.within s t) w) := by
 have hpc := Bc t.text
 have H := Kd h
 have hbd := fun w => Bb w R.what (by omega)
 obtain ⟨B, Aw, cw, Ap, cp, hnv, hnw, hnp, hB, hBr, d1, d2, d3, d4, d5, d6, rw1, rp1, d7, d8, d9⟩ := h.nowFacts hnow
 obtain ⟨Av, cv, hvo⟩ := h.out.shape
 have HB := Kd hB
 have hlt := Af h.blk
 have hBl := Af hB
 obtain ⟨c0, c1, c2, c3, c4, cf⟩ := h.facts
 rw [hnv] at c2
 rw [hvo] at c0
 have hrB : r ≠ B := fun e => hBr e.symm
 have Hnow := Kd hnow
 have hx : R.within s t = (60, R) := by simp [Rd.within, B5, hp, q1, q2]
 rw [hx]
 rw [hp] at hpc
 have Hpr := Kd hpr
 rw [hpr] at c4
 have e1 : (t.text.toList == [36, 61]) = false := beq_eq_false_iff_ne.2 q1
 have e2 : (t.text.toList == [36, 46]) = false := beq_eq_false_iff_ne.2 q2
 clear h hp hpr hx hnow hB rw1 rp1 q1 q2
 exact zq2
theorem Lj (w : World) (r : Nat) (A : RA) (R : Rd) (h : BD w r A R) (t : Tk) (s : St) (hnow : R.now = some s) (h9 : R.what < 7) (hp : BG t.text = false) (q1 : t.text.toList = [36, 61]) (pr : Bool) (hpr : R.proves = pr) (hno : ¬ (R.what = 6 ∧ R.proves = false)) :
  Calls Tryz.prog 57 #[.pointer (some ⟨r, 0, none⟩), .agg #[.string t.text, .int .i64 t.at_.off, .int .i64 t.at_.line, .int .i64 t.at_.col]] w (RdR r A (R.within s t) w) := by
 have hpc := Bc t.text
 have H := Kd h
 have hbd := fun w => Bb w R.what (by omega)
 obtain ⟨B, Aw, cw, Ap, cp, hnv, hnw, hnp, hB, hBr, d1, d2, d3, d4, d5, d6, rw1, rp1, d7, d8, d9⟩ := h.nowFacts hnow
 obtain ⟨Av, cv, hvo⟩ := h.out.shape
 have HB := Kd hB
 have hlt := Af h.blk
 have hBl := Af hB
 obtain ⟨c0, c1, c2, c3, c4, cf⟩ := h.facts
 rw [hnv] at c2
 rw [hvo] at c0
 have hrB : r ≠ B := fun e => hBr e.symm
 have Hnow := Kd hnow
 have hx : R.within s t = (60, R) := by
  have : ¬ t.text.toList = [36, 46] := by rw [q1]; decide
  simp only [Rd.within, B5, hp, q1]
  simp at hno ⊢
  exact fun h h' => absurd h' (by simp [hno h])
 rw [hx]
 rw [hp] at hpc
 have Hpr := Kd hpr
 rw [hpr] at c4
 have e1 : (t.text.toList == [36, 61]) = true := by rw [q1]; rfl
 have e2 : (t.text.toList == [36, 46]) = false := by rw [q1]; rfl
 by_cases h6 : R.what = 6
 ·have h6' : (R.what == 6) = true := by simpa using h6
  have hpt : pr = true := by
   cases pr with
   | true => rfl
   | false => exact absurd ⟨h6, hpr⟩ hno
  subst hpt
  rw [h6'] at hbd
  clear h hp hpr hx hnow hB rw1 rp1 q1 hno h6 h6'
  exact zq2
 ·have h6' : (R.what == 6) = false := by simpa using h6
  rw [h6'] at hbd
  clear h hp hpr hx hnow hB rw1 rp1 q1 hno h6 h6'
  exact zq2
theorem KE (w : World) (r : Nat) (A : RA) (R : Rd) (h : BD w r A R) (t : Tk) (s : St) (hnow : R.now = some s) (h9 : R.what < 7) (hp : BG t.text = false) (q1 : t.text.toList = [36, 61]) (hpr : R.proves = false) (h6 : R.what = 6) (hl : s.words.length < FC R.what) :
  Calls Tryz.prog 57 #[.pointer (some ⟨r, 0, none⟩), .agg #[.string t.text, .int .i64 t.at_.off, .int .i64 t.at_.line, .int .i64 t.at_.col]] w (RdR r A (R.within s t) w) := by
 have hpc := Bc t.text
 have H := Kd h
 have hbd := fun w => Bb w R.what (by omega)
 obtain ⟨B, Aw, cw, Ap, cp, hnv, hnw, hnp, hB, hBr, d1, d2, d3, d4, d5, d6, rw1, rp1, d7, d8, d9⟩ := h.nowFacts hnow
 obtain ⟨Av, cv, hvo⟩ := h.out.shape
 have HB := Kd hB
 have hlt := Af h.blk
 have hBl := Af hB
 obtain ⟨c0, c1, c2, c3, c4, cf⟩ := h.facts
 rw [hnv] at c2
 rw [hvo] at c0
 have hrB : r ≠ B := fun e => hBr e.symm
 have Hnow := Kd hnow
 have hx : R.within s t = (62, R) := by
  simp [Rd.within, B5, hp, q1, h6, hpr]
  rw [h6] at hl
  omega
 rw [hx]
 rw [hp] at hpc
 have Hpr := Kd hpr
 rw [hpr] at c4
 have e1 : (t.text.toList == [36, 61]) = true := by rw [q1]; rfl
 have h6' : (R.what == 6) = true := by simpa using h6
 rw [h6'] at hbd
 clear h hp hpr hx hnow hB rw1 rp1 q1 h6 h6'
 exact zq2
theorem Pm (w : World) (r : Nat) (A : RA) (R : Rd) (h : BD w r A R) (t : Tk) (s : St) (hnow : R.now = some s) (h9 : R.what < 7) (hp : BG t.text = false) (q1 : t.text.toList = [36, 61]) (hpr : R.proves = false) (h6 : R.what = 6) (hl : ¬ s.words.length < FC R.what) :
  Calls Tryz.prog 57 #[.pointer (some ⟨r, 0, none⟩), .agg #[.string t.text, .int .i64 t.at_.off, .int .i64 t.at_.line, .int .i64 t.at_.col]] w (RdR r A (R.within s t) w) := by
 have hpc := Bc t.text
 have H := Kd h
 have hbd := fun w => Bb w R.what (by omega)
 obtain ⟨B, Aw, cw, Ap, cp, hnv, hnw, hnp, hB, hBr, d1, d2, d3, d4, d5, d6, rw1, rp1, d7, d8, d9⟩ := h.nowFacts hnow
 obtain ⟨Av, cv, hvo⟩ := h.out.shape
 have HB := Kd hB
 have hlt := Af h.blk
 have hBl := Af hB
 obtain ⟨c0, c1, c2, c3, c4, cf⟩ := h.facts
 rw [hnv] at c2
 rw [hvo] at c0
 have hrB : r ≠ B := fun e => hBr e.symm
 have Hnow := Kd hnow
 have hx : R.within s t = (0, ⟨R.out, R.label, some { s with proving := true }, R.what, true⟩) := by
  rw [h6] at hl
  simp [Rd.within, B5, hp, q1, h6, hpr]
  omega
 have Hx := Kd hx
 rw [hp] at hpc
 have Hpr := Kd hpr
 rw [hpr] at c4
 have e1 : (t.text.toList == [36, 61]) = true := by rw [q1]; rfl
 have h6' : (R.what == 6) = true := by simpa using h6
 rw [h6'] at hbd
 have Hrw := Kd rw1
 have Hrp := Kd rp1
 clear h hp hpr hx hnow hB rw1 rp1 q1 h6 h6'
 go_enter Tryz.func57, Tryz.ntmps57
 go_wp2_with (first
  | (go_at_call 105; refine (hpc _).mono ?_; rintro e w' ⟨rfl, hw⟩; obtain rfl := hw.symm)
  | (go_at_call 107; go_must (refine (hbd _).mono ?_; rintro e W2 ⟨rfl, hs2⟩; have hs02 := (Ad.alloc [] w (AP t)).trans hs2; have H2 := Kd (H.out.same hs02); have hB2 := hs02.get HB.out (by simp); have hb2 := hs2.get (Aj w (AP t)) (by simp); obtain ⟨c0, c1, c2, c3, c4, cf⟩ := H2.out.facts; rw [hnv] at c2; rw [hvo] at c0; rw [Hpr.out] at c4; obtain ⟨g0, ⟨g1, g2, g3, g4⟩, ⟨g5, g6, g7, g8⟩, ⟨g9, g10, g11⟩, ⟨g12, g13, g14, g15⟩, gf⟩ := AS hB2; rw [hnw] at g10; rw [hnp] at g11; obtain ⟨k0, k1, k2, k3, kf⟩ := At hb2; have hr2 := Af H2.out.blk; have hBl2 := Af hB2; have hw2 := Af hb2; have HB2 := Kd hB2; have Hb2 := Kd hb2; clear hs2 hB2 hb2))
  )
 go_ret
 rw [Hx.out]
 have hb2 := H2.out.blk
 have hfin := H2.out.nowUpd (w' := (W2.setCell ⟨r, 4, none⟩ (.bool true)).setCell ⟨B, 9, none⟩ (.bool true)) (s' := { s with proving := true }) (nw' := A.nw) (np' := A.np) (pr := true) Hnow.out hnv ?_ ?_ ?_ ?_ ?_ d7 (.inl rfl) (.inl rfl)
 ·exact ⟨rfl, _, hfin.1, (AN.of_same hs02).trans hfin.2⟩
 ·exact zq34
 ·simp only [Az, ↓reduceIte, if_neg hrB, hb2, Option.map_some, AV]; rfl
 ·simp only [Az, ↓reduceIte, if_neg hBr, HB2.out, Option.map_some, AV]; rfl
 ·refine (Hrw.out.same hs02 (by simp)).same (S := [r, B]) ?_ (fun b hb hm => ?_)
  ·exact zq34
  ·simp at hm; rcases hm with rfl | rfl
   ·exact d1 hb
   ·exact d3 hb
 ·refine (Hrp.out.same hs02 (by simp)).same (S := [r, B]) ?_ (fun b hb hm => ?_)
  ·exact zq34
  ·simp at hm; rcases hm with rfl | rfl
   ·exact d2 hb
   ·exact d4 hb
theorem I1 (w : World) (r : Nat) (A : RA) (R : Rd) (h : BD w r A R) (t : Tk) (s : St) (hnow : R.now = some s) (h9 : R.what < 7) (hp : BG t.text = false) (q1 : t.text.toList = [36, 46]) (pr : Bool) (hpr : R.proves = pr) (hl : s.words.length < FC R.what) :
  Calls Tryz.prog 57 #[.pointer (some ⟨r, 0, none⟩), .agg #[.string t.text, .int .i64 t.at_.off, .int .i64 t.at_.line, .int .i64 t.at_.col]] w (RdR r A (R.within s t) w) := by
 have hpc := Bc t.text
 have H := Kd h
 have hbd := fun w => Bb w R.what (by omega)
 obtain ⟨B, Aw, cw, Ap, cp, hnv, hnw, hnp, hB, hBr, d1, d2, d3, d4, d5, d6, rw1, rp1, d7, d8, d9⟩ := h.nowFacts hnow
 obtain ⟨Av, cv, hvo⟩ := h.out.shape
 have HB := Kd hB
 have hlt := Af h.blk
 have hBl := Af hB
 obtain ⟨c0, c1, c2, c3, c4, cf⟩ := h.facts
 rw [hnv] at c2
 rw [hvo] at c0
 have hrB : r ≠ B := fun e => hBr e.symm
 have Hnow := Kd hnow
 have hx : R.within s t = (62, R) := by
  have : ¬ t.text.toList = [36, 61] := by rw [q1]; decide
  simp [Rd.within, B5, hp, q1, hl]
 rw [hx]
 rw [hp] at hpc
 have Hpr := Kd hpr
 rw [hpr] at c4
 have e1 : (t.text.toList == [36, 61]) = false := by rw [q1]; rfl
 have e2 : (t.text.toList == [36, 46]) = true := by rw [q1]; rfl
 clear h hp hpr hx hnow hB rw1 rp1 q1
 exact zq2
theorem I4 (w : World) (r : Nat) (A : RA) (R : Rd) (h : BD w r A R) (t : Tk) (s : St) (hnow : R.now = some s) (h9 : R.what < 7) (hp : BG t.text = false) (q1 : t.text.toList = [36, 46]) (hpr : R.proves = false) (hl : ¬ s.words.length < FC R.what) (h6 : R.what = 6) :
  Calls Tryz.prog 57 #[.pointer (some ⟨r, 0, none⟩), .agg #[.string t.text, .int .i64 t.at_.off, .int .i64 t.at_.line, .int .i64 t.at_.col]] w (RdR r A (R.within s t) w) := by
 have hpc := Bc t.text
 have H := Kd h
 have hbd := fun w => Bb w R.what (by omega)
 obtain ⟨B, Aw, cw, Ap, cp, hnv, hnw, hnp, hB, hBr, d1, d2, d3, d4, d5, d6, rw1, rp1, d7, d8, d9⟩ := h.nowFacts hnow
 obtain ⟨Av, cv, hvo⟩ := h.out.shape
 have HB := Kd hB
 have hlt := Af h.blk
 have hBl := Af hB
 obtain ⟨c0, c1, c2, c3, c4, cf⟩ := h.facts
 rw [hnv] at c2
 rw [hvo] at c0
 have hrB : r ≠ B := fun e => hBr e.symm
 have Hnow := Kd hnow
 have hx : R.within s t = (62, R) := by
  simp [Rd.within, B5, hp, q1, h6, hpr]
 rw [hx]
 rw [hp] at hpc
 have Hpr := Kd hpr
 rw [hpr] at c4
 have e1 : (t.text.toList == [36, 61]) = false := by rw [q1]; rfl
 have e2 : (t.text.toList == [36, 46]) = true := by rw [q1]; rfl
 have h6' : (R.what == 6) = true := by simpa using h6
 rw [h6'] at hbd
 clear h hp hpr hx hnow hB rw1 rp1 q1 h6 h6'
 exact zq2
end Go.Proofs.YtbfbgfpghkijdaaGreatDoor
