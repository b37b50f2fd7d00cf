/- lemmalaw texts, part 23. -/
import Derived.Test.YtdhkmfpfbjcdiaaGreatDoorYas
import Derived.Deep.DeepFit
set_option maxRecDepth 100000
set_option linter.unusedVariables false
set_option linter.unusedSimpArgs false
set_option maxHeartbeats 32000000
namespace Go.Proofs.YtdhkmfpfbjcdiaaGreatDoor
open Go.RowKit
theorem RdAt.pushWord {w w1 : World} {r : Nat} {A : RA} {R : Rd} {s : St} {t : Tk} {B : Nat} {v1 : Value} (h : RdAt w r A R) (hnow : R.now = some s) (hnv : A.nv = .pointer (some ⟨B, 0, none⟩))
  (hr : Row w1 54 4 v1 (s.words.length + 1) (tkCells s.words ++ t.cells)) (hs : Same A.nw.ownBlock.toList w w1) (ho : v1.ownBlock = A.nw.ownBlock ∨ ∃ b, v1.ownBlock = some b ∧ w.heap.size ≤ b) :
  RdAt (w1.setCell ⟨B, 10, none⟩ v1) r { A with nw := v1 } ⟨R.out, R.label, some { s with words := s.words ++ [t] }, R.what, R.proves⟩ ∧ Move (A.blocks r) (RA.blocks { A with nw := v1 } r) w (w1.setCell ⟨B, 10, none⟩ v1) := by
 obtain ⟨B', Aw, cw, Ap, cp, hnv', hnw, hnp, hB, hBr, d1, d2, d3, d4, d5, d6, rw1, rp1, d7, d8, d9⟩ := h.nowFacts hnow
 have : B' = B := by rw [hnv] at hnv'; cases hnv'; rfl
 subst this
 have hb1 := hs.get h.blk (by simpa using d1)
 have hB1 := hs.get hB (by simpa using d3)
 have hBl := blk_lt hB
 have hv1B : v1.ownBlock ≠ some B' := by
  rcases ho with ho | ⟨b, hb, hle⟩
  ·rw [ho]; exact d3
  ·rw [hb]; intro e; cases e; omega
 have hset : Same [B'] w1 (w1.setCell ⟨B', 10, none⟩ v1) := Same.setCell _ _ _ (by simp)
 have hoth : Row (w1.setCell ⟨B', 10, none⟩ v1) 54 4 A.np s.proof.length (tkCells s.proof) :=
  (rp1.same hs (fun b hb hm => d7 b (Option.mem_toList.1 hm) hb)).same hset (fun b hb hm => by simp at hm; subst hm; exact d4 hb)
 have hmine : Row (w1.setCell ⟨B', 10, none⟩ v1) 54 4 v1 (s.words ++ [t]).length (tkCells (s.words ++ [t])) := by
  have := hr.same hset (fun b hb hm => by simp at hm; subst hm; exact hv1B hb)
  simpa [tkCells] using this
 have hap : ∀ b, v1.ownBlock = some b → A.np.ownBlock ≠ some b := by
  intro b hb hb'
  rcases ho with ho | ⟨c, hc, hle⟩
  ·rw [ho] at hb; exact d7 b hb hb'
  ·rw [hc] at hb; cases hb; have := rp1.lt hb'; omega
 refine h.nowUpd (s' := { s with words := s.words ++ [t] }) hnow hnv ?_ ?_ ?_ hmine hoth hap ho (.inl rfl)
 ·refine Same.set (hs.mono (fun x hx => .inl ?_)) _ _ (by simp)
  simp only [List.mem_cons, List.mem_append]
  exact .inr (.inr (.inl hx))
 ·rw [blk_set_other _ _ (fun e => hBr e.symm)]; exact hb1
 ·rw [blk_set hB1]; rfl
theorem RdAt.pushProof {w w1 : World} {r : Nat} {A : RA} {R : Rd} {s : St} {t : Tk} {B : Nat} {v1 : Value} (h : RdAt w r A R) (hnow : R.now = some s) (hnv : A.nv = .pointer (some ⟨B, 0, none⟩))
  (hr : Row w1 54 4 v1 (s.proof.length + 1) (tkCells s.proof ++ t.cells)) (hs : Same A.np.ownBlock.toList w w1) (ho : v1.ownBlock = A.np.ownBlock ∨ ∃ b, v1.ownBlock = some b ∧ w.heap.size ≤ b) :
  RdAt (w1.setCell ⟨B, 11, none⟩ v1) r { A with np := v1 } ⟨R.out, R.label, some { s with proof := s.proof ++ [t] }, R.what, R.proves⟩ ∧ Move (A.blocks r) (RA.blocks { A with np := v1 } r) w (w1.setCell ⟨B, 11, none⟩ v1) := by
 obtain ⟨B', Aw, cw, Ap, cp, hnv', hnw, hnp, hB, hBr, d1, d2, d3, d4, d5, d6, rw1, rp1, d7, d8, d9⟩ := h.nowFacts hnow
 have : B' = B := by rw [hnv] at hnv'; cases hnv'; rfl
 subst this
 have hb1 := hs.get h.blk (by simpa using d2)
 have hB1 := hs.get hB (by simpa using d4)
 have hBl := blk_lt hB
 have hv1B : v1.ownBlock ≠ some B' := by
  rcases ho with ho | ⟨b, hb, hle⟩
  ·rw [ho]; exact d4
  ·rw [hb]; intro e; cases e; omega
 have hset : Same [B'] w1 (w1.setCell ⟨B', 11, none⟩ v1) := Same.setCell _ _ _ (by simp)
 have hoth : Row (w1.setCell ⟨B', 11, none⟩ v1) 54 4 A.nw s.words.length (tkCells s.words) :=
  (rw1.same hs (fun b hb hm => d7 b hb (Option.mem_toList.1 hm))).same hset (fun b hb hm => by simp at hm; subst hm; exact d3 hb)
 have hmine : Row (w1.setCell ⟨B', 11, none⟩ v1) 54 4 v1 (s.proof ++ [t]).length (tkCells (s.proof ++ [t])) := by
  have := hr.same hset (fun b hb hm => by simp at hm; subst hm; exact hv1B hb)
  simpa [tkCells] using this
 have hap : ∀ b, v1.ownBlock = some b → A.nw.ownBlock ≠ some b := by
  intro b hb hb'
  rcases ho with ho | ⟨c, hc, hle⟩
  ·rw [ho] at hb; exact d7 b hb' hb
  ·rw [hc] at hb; cases hb; have := rw1.lt hb'; omega
 refine h.nowUpd (s' := { s with proof := s.proof ++ [t] }) hnow hnv ?_ ?_ ?_ hoth hmine (fun b hb hb' => hap b hb' hb) (.inl rfl) ho
 ·refine Same.set (hs.mono (fun x hx => .inl ?_)) _ _ (by simp)
  simp only [List.mem_cons, List.mem_append]
  exact .inr (.inr (.inr hx))
 ·rw [blk_set_other _ _ (fun e => hBr e.symm)]; exact hb1
 ·rw [blk_set hB1]; rfl
theorem within_full (w : World) (r : Nat) (A : RA) (R : Rd) (h : RdAt w r A R) (t : Tk) (s : St) (hnow : R.now = some s) (h9 : R.what < 7) (hp : plainB t.text = true) (hpr : R.proves = false) (hm : s.words.length = formM R.what) :
  Calls Tryz.prog 60 #[.pointer (some ⟨r, 0, none⟩), .agg #[.string t.text, .int .i64 t.at_.off, .int .i64 t.at_.line, .int .i64 t.at_.col]] w (RdR r A (R.within s t) w) := by
 have hpc := plain_calls t.text
 have H := Kd h
 have hbd := fun w => bounds_calls w R.what (by omega)
 obtain ⟨B, Aw, cw, Ap, cp, hnv, hnw, hnp, hB, hBr, d1, d2, d3, d4, d5, d6, rw1, rp1, d7, d8, d9⟩ := h.nowFacts hnow
 obtain ⟨Av, cv, hvo⟩ := h.out.shape
 have HB := Kd hB
 have hlt := blk_lt h.blk
 have hBl := blk_lt hB
 obtain ⟨c0, c1, c2, c3, c4, cf⟩ := h.facts
 rw [hnv] at c2
 rw [hvo] at c0
 have hrB : r ≠ B := fun e => hBr e.symm
 have Hnow := Kd hnow
 have hx : R.within s t = (62, R) := by simp [Rd.within, plainT, hp, hpr, hm]
 rw [hx]
 rw [hp] at hpc
 have Hpr := Kd hpr
 have hm' : ((s.words.length : Int) == (formM R.what : Int)) = true := beq_iff_eq.2 (by omega)
 rw [hpr] at c4
 clear h hp hpr hx hm hnow hB rw1 rp1
 go_enter Tryz.func60, Tryz.ntmps60
 go_wp2_with (first
  | (go_at_call 112; refine (hpc _).mono ?_; rintro e w' ⟨rfl, hw⟩; obtain rfl := hw.symm)
  | (go_at_call 114; go_must (refine (hbd _).mono ?_; rintro e W2 ⟨rfl, hs2⟩; have hs02 := (Same.alloc [] w (tokBlk t)).trans hs2; have H2 := Kd (H.out.same hs02); have hB2 := hs02.get HB.out (by simp); have hb2 := hs2.get (blk_new w (tokBlk t)) (by simp); obtain ⟨c0, c1, c2, c3, c4, cf⟩ := H2.out.facts; rw [hnv] at c2; rw [hvo] at c0; rw [Hpr.out] at c4; obtain ⟨g0, ⟨g1, g2, g3, g4⟩, ⟨g5, g6, g7, g8⟩, ⟨g9, g10, g11⟩, ⟨g12, g13, g14, g15⟩, gf⟩ := stBlk_cells hB2; rw [hnw] at g10; rw [hnp] at g11; obtain ⟨k0, k1, k2, k3, kf⟩ := tokBlk_cells hb2; have hr2 := blk_lt H2.out.blk; have hBl2 := blk_lt hB2; have hw2 := blk_lt hb2; have HB2 := Kd hB2; have Hb2 := Kd hb2; clear hs2 hB2 hb2))
  )
 go_ret
 exact RdR.stay H.out hs02
theorem within_word (w : World) (r : Nat) (A : RA) (R : Rd) (h : RdAt w r A R) (t : Tk) (s : St) (hnow : R.now = some s) (h9 : R.what < 7) (hp : plainB t.text = true) (hpr : R.proves = false) (hm : s.words.length ≠ formM R.what) (hn : s.words.length < 1000000) :
  Calls Tryz.prog 60 #[.pointer (some ⟨r, 0, none⟩), .agg #[.string t.text, .int .i64 t.at_.off, .int .i64 t.at_.line, .int .i64 t.at_.col]] w (RdR r A (R.within s t) w) := by
 have hpc := plain_calls t.text
 have H := Kd h
 have hbd := fun w => bounds_calls w R.what (by omega)
 obtain ⟨B, Aw, cw, Ap, cp, hnv, hnw, hnp, hB, hBr, d1, d2, d3, d4, d5, d6, rw1, rp1, d7, d8, d9⟩ := h.nowFacts hnow
 obtain ⟨Av, cv, hvo⟩ := h.out.shape
 have HB := Kd hB
 have hlt := blk_lt h.blk
 have hBl := blk_lt hB
 obtain ⟨c0, c1, c2, c3, c4, cf⟩ := h.facts
 rw [hnv] at c2
 rw [hvo] at c0
 have hrB : r ≠ B := fun e => hBr e.symm
 have Hnow := Kd hnow
 have hx : R.within s t = (0, ⟨R.out, R.label, some { s with words := s.words ++ [t] }, R.what, R.proves⟩) := by simp [Rd.within, plainT, hp, hpr, hm]
 have Hx := Kd hx
 rw [hp] at hpc
 have Hpr := Kd hpr
 have hm' : ((s.words.length : Int) == (formM R.what : Int)) = false := beq_eq_false_iff_ne.2 (by omega)
 have Hsv := Kd hnw
 have Hrw := Kd rw1
 rw [hpr] at c4
 clear h hp hpr hx hm hnow hB rw1 rp1
 go_enter Tryz.func60, Tryz.ntmps60
 go_wp2_with (first
  | (go_at_call 112; refine (hpc _).mono ?_; rintro e w' ⟨rfl, hw⟩; obtain rfl := hw.symm)
  | (go_at_call 114; go_must (refine (hbd _).mono ?_; rintro e W2 ⟨rfl, hs2⟩; have hs02 := (Same.alloc [] w (tokBlk t)).trans hs2; have H2 := Kd (H.out.same hs02); have hB2 := hs02.get HB.out (by simp); have hb2 := hs2.get (blk_new w (tokBlk t)) (by simp); obtain ⟨c0, c1, c2, c3, c4, cf⟩ := H2.out.facts; rw [hnv] at c2; rw [hvo] at c0; rw [Hpr.out] at c4; obtain ⟨g0, ⟨g1, g2, g3, g4⟩, ⟨g5, g6, g7, g8⟩, ⟨g9, g10, g11⟩, ⟨g12, g13, g14, g15⟩, gf⟩ := stBlk_cells hB2; rw [hnw] at g10; rw [hnp] at g11; obtain ⟨k0, k1, k2, k3, kf⟩ := tokBlk_cells hb2; have hr2 := blk_lt H2.out.blk; have hBl2 := blk_lt hB2; have hw2 := blk_lt hb2; have HB2 := Kd hB2; have Hb2 := Kd hb2; clear hs2 hB2 hb2))
  )
 have hrow2 := Hrw.out.same hs02 (by simp)
 rw [hnw] at hrow2
 refine region_canon (.read 0 (.read 1 (.read 2 (.read 3 (.read 4 (.read 5 (.one 6 [0, 1, 2, 3, 4] (.one 7 [0] (.read 8 (.read 9 (.one 10 [] (.done)))))))))))) (by kernel_rfl) (by kernel_rfl) ?_
 iterate 6 (refine canon_read rfl (fun K hK => ?_); go_simp; (try go_bits); (try (rw [if_pos (by omega)]; go_simp)); refine hK _ ?_; clear hK K)
 refine canon_oneL rfl ?_
 go_wp2
 refine EQ.A ?_
 refine canon_oneL rfl ?_
 refine wp_push rfl _ _ 50 rfl 54 4 40 _ Tryz.underlying50 Tryz.infoToken rfl (by decide) (.slice Aw s.words.length cw) _ _ rfl (hrow2.same (Same.drew [] _) (by simp)) t.cells rfl rfl (tk_one t) (by omega) (by decide) ?_
 intro v6 W6 hrow6 hsm6 hor6
 obtain ⟨A6, c6, rfl⟩ := hrow6.shape
 rw [← Hsv.out] at hsm6 hor6
 have hb6 := hsm6.get (w := W2.drew) H2.out.blk (by simpa using d1)
 have hB6 := hsm6.get (w := W2.drew) HB2.out (by simpa using d3)
 clear g0 g1 g2 g3 g4 g5 g6 g7 g8 g9 g10 g11 g12 g13 g14 g15 gf
 obtain ⟨g0, ⟨g1, g2, g3, g4⟩, ⟨g5, g6, g7, g8⟩, ⟨g9, g10, g11⟩, ⟨g12, g13, g14, g15⟩, gf⟩ := stBlk_cells hB6
 go_wp2
 refine EQ.A ?_
 iterate 2 (refine canon_read rfl (fun K hK => ?_); go_simp; (try go_bits); (try (rw [if_pos (by omega)]; go_simp)); refine hK _ ?_; clear hK K)
 refine canon_oneL rfl ?_
 go_wp2
 refine EQ.A ?_
 refine canon_done ?_
 go_wp2
 go_ret
 rw [Hx.out]
 have hfin := (H2.out.same (Same.drew [] W2)).pushWord Hnow.out hnv hrow6 hsm6 hor6
 exact ⟨rfl, _, hfin.1, (Move.of_same (hs02.trans (Same.drew [] W2))).trans hfin.2⟩
theorem within_proof (w : World) (r : Nat) (A : RA) (R : Rd) (h : RdAt w r A R) (t : Tk) (s : St) (hnow : R.now = some s) (h9 : R.what < 7) (hp : plainB t.text = true) (hpr : R.proves = true) (hn : s.proof.length < 1000000) :
  Calls Tryz.prog 60 #[.pointer (some ⟨r, 0, none⟩), .agg #[.string t.text, .int .i64 t.at_.off, .int .i64 t.at_.line, .int .i64 t.at_.col]] w (RdR r A (R.within s t) w) := by
 have hpc := plain_calls t.text
 have H := Kd h
 have hbd := fun w => bounds_calls w R.what (by omega)
 obtain ⟨B, Aw, cw, Ap, cp, hnv, hnw, hnp, hB, hBr, d1, d2, d3, d4, d5, d6, rw1, rp1, d7, d8, d9⟩ := h.nowFacts hnow
 obtain ⟨Av, cv, hvo⟩ := h.out.shape
 have HB := Kd hB
 have hlt := blk_lt h.blk
 have hBl := blk_lt hB
 obtain ⟨c0, c1, c2, c3, c4, cf⟩ := h.facts
 rw [hnv] at c2
 rw [hvo] at c0
 have hrB : r ≠ B := fun e => hBr e.symm
 have Hnow := Kd hnow
 have hx : R.within s t = (0, ⟨R.out, R.label, some { s with proof := s.proof ++ [t] }, R.what, R.proves⟩) := by simp [Rd.within, plainT, hp, hpr]
 have Hx := Kd hx
 rw [hp] at hpc
 have Hpr := Kd hpr
 have Hsv := Kd hnp
 have Hrw := Kd rp1
 rw [hpr] at c4
 clear h hp hpr hx hnow hB rw1 rp1
 go_enter Tryz.func60, Tryz.ntmps60
 go_wp2_with (first
  | (go_at_call 112; refine (hpc _).mono ?_; rintro e w' ⟨rfl, hw⟩; obtain rfl := hw.symm)
  | (go_at_call 114; go_must (refine (hbd _).mono ?_; rintro e W2 ⟨rfl, hs2⟩; have hs02 := (Same.alloc [] w (tokBlk t)).trans hs2; have H2 := Kd (H.out.same hs02); have hB2 := hs02.get HB.out (by simp); have hb2 := hs2.get (blk_new w (tokBlk t)) (by simp); obtain ⟨c0, c1, c2, c3, c4, cf⟩ := H2.out.facts; rw [hnv] at c2; rw [hvo] at c0; rw [Hpr.out] at c4; obtain ⟨g0, ⟨g1, g2, g3, g4⟩, ⟨g5, g6, g7, g8⟩, ⟨g9, g10, g11⟩, ⟨g12, g13, g14, g15⟩, gf⟩ := stBlk_cells hB2; rw [hnw] at g10; rw [hnp] at g11; obtain ⟨k0, k1, k2, k3, kf⟩ := tokBlk_cells hb2; have hr2 := blk_lt H2.out.blk; have hBl2 := blk_lt hB2; have hw2 := blk_lt hb2; have HB2 := Kd hB2; have Hb2 := Kd hb2; clear hs2 hB2 hb2))
  )
 have hrow2 := Hrw.out.same hs02 (by simp)
 rw [hnp] at hrow2
 have d1' := d1
 have d3' := d3
 clear d1 d3
 have d1 := d2
 have d3 := d4
 refine region_canon (.read 0 (.read 1 (.read 2 (.read 3 (.read 4 (.read 5 (.one 6 [0, 1, 2, 3, 4] (.one 7 [0] (.read 8 (.read 9 (.one 10 [] (.done)))))))))))) (by kernel_rfl) (by kernel_rfl) ?_
 iterate 6 (refine canon_read rfl (fun K hK => ?_); go_simp; (try go_bits); (try (rw [if_pos (by omega)]; go_simp)); refine hK _ ?_; clear hK K)
 refine canon_oneL rfl ?_
 go_wp2
 refine EQ.A ?_
 refine canon_oneL rfl ?_
 refine wp_push rfl _ _ 50 rfl 54 4 40 _ Tryz.underlying50 Tryz.infoToken rfl (by decide) (.slice Ap s.proof.length cp) _ _ rfl (hrow2.same (Same.drew [] _) (by simp)) t.cells rfl rfl (tk_one t) (by omega) (by decide) ?_
 intro v6 W6 hrow6 hsm6 hor6
 obtain ⟨A6, c6, rfl⟩ := hrow6.shape
 rw [← Hsv.out] at hsm6 hor6
 have hb6 := hsm6.get (w := W2.drew) H2.out.blk (by simpa using d1)
 have hB6 := hsm6.get (w := W2.drew) HB2.out (by simpa using d3)
 clear g0 g1 g2 g3 g4 g5 g6 g7 g8 g9 g10 g11 g12 g13 g14 g15 gf
 obtain ⟨g0, ⟨g1, g2, g3, g4⟩, ⟨g5, g6, g7, g8⟩, ⟨g9, g10, g11⟩, ⟨g12, g13, g14, g15⟩, gf⟩ := stBlk_cells hB6
 go_wp2
 refine EQ.A ?_
 iterate 2 (refine canon_read rfl (fun K hK => ?_); go_simp; (try go_bits); (try (rw [if_pos (by omega)]; go_simp)); refine hK _ ?_; clear hK K)
 refine canon_oneL rfl ?_
 go_wp2
 refine EQ.A ?_
 refine canon_done ?_
 go_wp2
 go_ret
 rw [Hx.out]
 have hfin := (H2.out.same (Same.drew [] W2)).pushProof Hnow.out hnv hrow6 hsm6 hor6
 exact ⟨rfl, _, hfin.1, (Move.of_same (hs02.trans (Same.drew [] W2))).trans hfin.2⟩
theorem within_else (w : World) (r : Nat) (A : RA) (R : Rd) (h : RdAt w r A R) (t : Tk) (s : St) (hnow : R.now = some s) (h9 : R.what < 7) (hp : plainB t.text = false) (q1 : t.text.toList ≠ [36, 61]) (q2 : t.text.toList ≠ [36, 46]) (pr : Bool) (hpr : R.proves = pr) :
  Calls Tryz.prog 60 #[.pointer (some ⟨r, 0, none⟩), .agg #[.string t.text, .int .i64 t.at_.off, .int .i64 t.at_.line, .int .i64 t.at_.col]] w (RdR r A (R.within s t) w) := by
 have hpc := plain_calls t.text
 have H := Kd h
 have hbd := fun w => bounds_calls w R.what (by omega)
 obtain ⟨B, Aw, cw, Ap, cp, hnv, hnw, hnp, hB, hBr, d1, d2, d3, d4, d5, d6, rw1, rp1, d7, d8, d9⟩ := h.nowFacts hnow
 obtain ⟨Av, cv, hvo⟩ := h.out.shape
 have HB := Kd hB
 have hlt := blk_lt h.blk
 have hBl := blk_lt hB
 obtain ⟨c0, c1, c2, c3, c4, cf⟩ := h.facts
 rw [hnv] at c2
 rw [hvo] at c0
 have hrB : r ≠ B := fun e => hBr e.symm
 have Hnow := Kd hnow
 have hx : R.within s t = (60, R) := by simp [Rd.within, plainT, hp, q1, q2]
 rw [hx]
 rw [hp] at hpc
 have Hpr := Kd hpr
 rw [hpr] at c4
 have e1 : (t.text.toList == [36, 61]) = false := beq_eq_false_iff_ne.2 q1
 have e2 : (t.text.toList == [36, 46]) = false := beq_eq_false_iff_ne.2 q2
 clear h hp hpr hx hnow hB rw1 rp1 q1 q2
 go_enter Tryz.func60, Tryz.ntmps60
 go_wp2_with (first
  | (go_at_call 112; refine (hpc _).mono ?_; rintro e w' ⟨rfl, hw⟩; obtain rfl := hw.symm)
  | (go_at_call 114; go_must (refine (hbd _).mono ?_; rintro e W2 ⟨rfl, hs2⟩; have hs02 := (Same.alloc [] w (tokBlk t)).trans hs2; have H2 := Kd (H.out.same hs02); have hB2 := hs02.get HB.out (by simp); have hb2 := hs2.get (blk_new w (tokBlk t)) (by simp); obtain ⟨c0, c1, c2, c3, c4, cf⟩ := H2.out.facts; rw [hnv] at c2; rw [hvo] at c0; rw [Hpr.out] at c4; obtain ⟨g0, ⟨g1, g2, g3, g4⟩, ⟨g5, g6, g7, g8⟩, ⟨g9, g10, g11⟩, ⟨g12, g13, g14, g15⟩, gf⟩ := stBlk_cells hB2; rw [hnw] at g10; rw [hnp] at g11; obtain ⟨k0, k1, k2, k3, kf⟩ := tokBlk_cells hb2; have hr2 := blk_lt H2.out.blk; have hBl2 := blk_lt hB2; have hw2 := blk_lt hb2; have HB2 := Kd hB2; have Hb2 := Kd hb2; clear hs2 hB2 hb2))
  )
 go_ret
 exact RdR.stay H.out hs02
theorem within_eqBad (w : World) (r : Nat) (A : RA) (R : Rd) (h : RdAt w r A R) (t : Tk) (s : St) (hnow : R.now = some s) (h9 : R.what < 7) (hp : plainB t.text = false) (q1 : t.text.toList = [36, 61]) (pr : Bool) (hpr : R.proves = pr) (hno : ¬ (R.what = 6 ∧ R.proves = false)) :
  Calls Tryz.prog 60 #[.pointer (some ⟨r, 0, none⟩), .agg #[.string t.text, .int .i64 t.at_.off, .int .i64 t.at_.line, .int .i64 t.at_.col]] w (RdR r A (R.within s t) w) := by
 have hpc := plain_calls t.text
 have H := Kd h
 have hbd := fun w => bounds_calls w R.what (by omega)
 obtain ⟨B, Aw, cw, Ap, cp, hnv, hnw, hnp, hB, hBr, d1, d2, d3, d4, d5, d6, rw1, rp1, d7, d8, d9⟩ := h.nowFacts hnow
 obtain ⟨Av, cv, hvo⟩ := h.out.shape
 have HB := Kd hB
 have hlt := blk_lt h.blk
 have hBl := blk_lt hB
 obtain ⟨c0, c1, c2, c3, c4, cf⟩ := h.facts
 rw [hnv] at c2
 rw [hvo] at c0
 have hrB : r ≠ B := fun e => hBr e.symm
 have Hnow := Kd hnow
 have hx : R.within s t = (60, R) := by
  have : ¬ t.text.toList = [36, 46] := by rw [q1]; decide
  simp only [Rd.within, plainT, hp, q1]
  simp at hno ⊢
  exact fun h h' => absurd h' (by simp [hno h])
 rw [hx]
 rw [hp] at hpc
 have Hpr := Kd hpr
 rw [hpr] at c4
 have e1 : (t.text.toList == [36, 61]) = true := by rw [q1]; rfl
 have e2 : (t.text.toList == [36, 46]) = false := by rw [q1]; rfl
 by_cases h6 : R.what = 6
 ·have h6' : (R.what == 6) = true := by simpa using h6
  have hpt : pr = true := by
   cases pr with
   | true => rfl
   | false => exact absurd ⟨h6, hpr⟩ hno
  subst hpt
  rw [h6'] at hbd
  clear h hp hpr hx hnow hB rw1 rp1 q1 hno h6 h6'
  go_enter Tryz.func60, Tryz.ntmps60
  go_wp2_with (first
   | (go_at_call 112; refine (hpc _).mono ?_; rintro e w' ⟨rfl, hw⟩; obtain rfl := hw.symm)
   | (go_at_call 114; go_must (refine (hbd _).mono ?_; rintro e W2 ⟨rfl, hs2⟩; have hs02 := (Same.alloc [] w (tokBlk t)).trans hs2; have H2 := Kd (H.out.same hs02); have hB2 := hs02.get HB.out (by simp); have hb2 := hs2.get (blk_new w (tokBlk t)) (by simp); obtain ⟨c0, c1, c2, c3, c4, cf⟩ := H2.out.facts; rw [hnv] at c2; rw [hvo] at c0; rw [Hpr.out] at c4; obtain ⟨g0, ⟨g1, g2, g3, g4⟩, ⟨g5, g6, g7, g8⟩, ⟨g9, g10, g11⟩, ⟨g12, g13, g14, g15⟩, gf⟩ := stBlk_cells hB2; rw [hnw] at g10; rw [hnp] at g11; obtain ⟨k0, k1, k2, k3, kf⟩ := tokBlk_cells hb2; have hr2 := blk_lt H2.out.blk; have hBl2 := blk_lt hB2; have hw2 := blk_lt hb2; have HB2 := Kd hB2; have Hb2 := Kd hb2; clear hs2 hB2 hb2))
   )
  go_ret
  exact RdR.stay H.out hs02
 ·have h6' : (R.what == 6) = false := by simpa using h6
  rw [h6'] at hbd
  clear h hp hpr hx hnow hB rw1 rp1 q1 hno h6 h6'
  go_enter Tryz.func60, Tryz.ntmps60
  go_wp2_with (first
   | (go_at_call 112; refine (hpc _).mono ?_; rintro e w' ⟨rfl, hw⟩; obtain rfl := hw.symm)
   | (go_at_call 114; go_must (refine (hbd _).mono ?_; rintro e W2 ⟨rfl, hs2⟩; have hs02 := (Same.alloc [] w (tokBlk t)).trans hs2; have H2 := Kd (H.out.same hs02); have hB2 := hs02.get HB.out (by simp); have hb2 := hs2.get (blk_new w (tokBlk t)) (by simp); obtain ⟨c0, c1, c2, c3, c4, cf⟩ := H2.out.facts; rw [hnv] at c2; rw [hvo] at c0; rw [Hpr.out] at c4; obtain ⟨g0, ⟨g1, g2, g3, g4⟩, ⟨g5, g6, g7, g8⟩, ⟨g9, g10, g11⟩, ⟨g12, g13, g14, g15⟩, gf⟩ := stBlk_cells hB2; rw [hnw] at g10; rw [hnp] at g11; obtain ⟨k0, k1, k2, k3, kf⟩ := tokBlk_cells hb2; have hr2 := blk_lt H2.out.blk; have hBl2 := blk_lt hB2; have hw2 := blk_lt hb2; have HB2 := Kd hB2; have Hb2 := Kd hb2; clear hs2 hB2 hb2))
   )
  go_ret
  exact RdR.stay H.out hs02
theorem within_eqForm (w : World) (r : Nat) (A : RA) (R : Rd) (h : RdAt w r A R) (t : Tk) (s : St) (hnow : R.now = some s) (h9 : R.what < 7) (hp : plainB t.text = false) (q1 : t.text.toList = [36, 61]) (hpr : R.proves = false) (h6 : R.what = 6) (hl : s.words.length < formL R.what) :
  Calls Tryz.prog 60 #[.pointer (some ⟨r, 0, none⟩), .agg #[.string t.text, .int .i64 t.at_.off, .int .i64 t.at_.line, .int .i64 t.at_.col]] w (RdR r A (R.within s t) w) := by
 have hpc := plain_calls t.text
 have H := Kd h
 have hbd := fun w => bounds_calls w R.what (by omega)
 obtain ⟨B, Aw, cw, Ap, cp, hnv, hnw, hnp, hB, hBr, d1, d2, d3, d4, d5, d6, rw1, rp1, d7, d8, d9⟩ := h.nowFacts hnow
 obtain ⟨Av, cv, hvo⟩ := h.out.shape
 have HB := Kd hB
 have hlt := blk_lt h.blk
 have hBl := blk_lt hB
 obtain ⟨c0, c1, c2, c3, c4, cf⟩ := h.facts
 rw [hnv] at c2
 rw [hvo] at c0
 have hrB : r ≠ B := fun e => hBr e.symm
 have Hnow := Kd hnow
 have hx : R.within s t = (62, R) := by
  simp [Rd.within, plainT, hp, q1, h6, hpr]
  rw [h6] at hl
  omega
 rw [hx]
 rw [hp] at hpc
 have Hpr := Kd hpr
 rw [hpr] at c4
 have e1 : (t.text.toList == [36, 61]) = true := by rw [q1]; rfl
 have h6' : (R.what == 6) = true := by simpa using h6
 rw [h6'] at hbd
 clear h hp hpr hx hnow hB rw1 rp1 q1 h6 h6'
 go_enter Tryz.func60, Tryz.ntmps60
 go_wp2_with (first
  | (go_at_call 112; refine (hpc _).mono ?_; rintro e w' ⟨rfl, hw⟩; obtain rfl := hw.symm)
  | (go_at_call 114; go_must (refine (hbd _).mono ?_; rintro e W2 ⟨rfl, hs2⟩; have hs02 := (Same.alloc [] w (tokBlk t)).trans hs2; have H2 := Kd (H.out.same hs02); have hB2 := hs02.get HB.out (by simp); have hb2 := hs2.get (blk_new w (tokBlk t)) (by simp); obtain ⟨c0, c1, c2, c3, c4, cf⟩ := H2.out.facts; rw [hnv] at c2; rw [hvo] at c0; rw [Hpr.out] at c4; obtain ⟨g0, ⟨g1, g2, g3, g4⟩, ⟨g5, g6, g7, g8⟩, ⟨g9, g10, g11⟩, ⟨g12, g13, g14, g15⟩, gf⟩ := stBlk_cells hB2; rw [hnw] at g10; rw [hnp] at g11; obtain ⟨k0, k1, k2, k3, kf⟩ := tokBlk_cells hb2; have hr2 := blk_lt H2.out.blk; have hBl2 := blk_lt hB2; have hw2 := blk_lt hb2; have HB2 := Kd hB2; have Hb2 := Kd hb2; clear hs2 hB2 hb2))
  )
 go_ret
 exact RdR.stay H.out hs02
theorem within_eq (w : World) (r : Nat) (A : RA) (R : Rd) (h : RdAt w r A R) (t : Tk) (s : St) (hnow : R.now = some s) (h9 : R.what < 7) (hp : plainB t.text = false) (q1 : t.text.toList = [36, 61]) (hpr : R.proves = false) (h6 : R.what = 6) (hl : ¬ s.words.length < formL R.what) :
  Calls Tryz.prog 60 #[.pointer (some ⟨r, 0, none⟩), .agg #[.string t.text, .int .i64 t.at_.off, .int .i64 t.at_.line, .int .i64 t.at_.col]] w (RdR r A (R.within s t) w) := by
 have hpc := plain_calls t.text
 have H := Kd h
 have hbd := fun w => bounds_calls w R.what (by omega)
 obtain ⟨B, Aw, cw, Ap, cp, hnv, hnw, hnp, hB, hBr, d1, d2, d3, d4, d5, d6, rw1, rp1, d7, d8, d9⟩ := h.nowFacts hnow
 obtain ⟨Av, cv, hvo⟩ := h.out.shape
 have HB := Kd hB
 have hlt := blk_lt h.blk
 have hBl := blk_lt hB
 obtain ⟨c0, c1, c2, c3, c4, cf⟩ := h.facts
 rw [hnv] at c2
 rw [hvo] at c0
 have hrB : r ≠ B := fun e => hBr e.symm
 have Hnow := Kd hnow
 have hx : R.within s t = (0, ⟨R.out, R.label, some { s with proving := true }, R.what, true⟩) := by
  rw [h6] at hl
  simp [Rd.within, plainT, hp, q1, h6, hpr]
  omega
 have Hx := Kd hx
 rw [hp] at hpc
 have Hpr := Kd hpr
 rw [hpr] at c4
 have e1 : (t.text.toList == [36, 61]) = true := by rw [q1]; rfl
 have h6' : (R.what == 6) = true := by simpa using h6
 rw [h6'] at hbd
 have Hrw := Kd rw1
 have Hrp := Kd rp1
 clear h hp hpr hx hnow hB rw1 rp1 q1 h6 h6'
 go_enter Tryz.func60, Tryz.ntmps60
 go_wp2_with (first
  | (go_at_call 112; refine (hpc _).mono ?_; rintro e w' ⟨rfl, hw⟩; obtain rfl := hw.symm)
  | (go_at_call 114; go_must (refine (hbd _).mono ?_; rintro e W2 ⟨rfl, hs2⟩; have hs02 := (Same.alloc [] w (tokBlk t)).trans hs2; have H2 := Kd (H.out.same hs02); have hB2 := hs02.get HB.out (by simp); have hb2 := hs2.get (blk_new w (tokBlk t)) (by simp); obtain ⟨c0, c1, c2, c3, c4, cf⟩ := H2.out.facts; rw [hnv] at c2; rw [hvo] at c0; rw [Hpr.out] at c4; obtain ⟨g0, ⟨g1, g2, g3, g4⟩, ⟨g5, g6, g7, g8⟩, ⟨g9, g10, g11⟩, ⟨g12, g13, g14, g15⟩, gf⟩ := stBlk_cells hB2; rw [hnw] at g10; rw [hnp] at g11; obtain ⟨k0, k1, k2, k3, kf⟩ := tokBlk_cells hb2; have hr2 := blk_lt H2.out.blk; have hBl2 := blk_lt hB2; have hw2 := blk_lt hb2; have HB2 := Kd hB2; have Hb2 := Kd hb2; clear hs2 hB2 hb2))
  )
 go_ret
 rw [Hx.out]
 have hb2 := H2.out.blk
 have hfin := H2.out.nowUpd (w' := (W2.setCell ⟨r, 4, none⟩ (.bool true)).setCell ⟨B, 9, none⟩ (.bool true)) (s' := { s with proving := true }) (nw' := A.nw) (np' := A.np) (pr := true) Hnow.out hnv ?_ ?_ ?_ ?_ ?_ d7 (.inl rfl) (.inl rfl)
 ·exact ⟨rfl, _, hfin.1, (Move.of_same hs02).trans hfin.2⟩
 ·repeat (first | (with_reducible refine Same.alloc' ?_ _) | (with_reducible refine Same.drew' ?_) | (with_reducible refine Same.drewN' ?_ _) | (with_reducible refine Same.set ?_ _ _ (by simp; done)) | (with_reducible refine Same.setNew ?_ _ _ (by simp <;> omega)) | (with_reducible exact Same.refl _ _))
 ·simp only [heap_setCell, ↓reduceIte, if_neg hrB, hb2, Option.map_some, cellPut]; rfl
 ·simp only [heap_setCell, ↓reduceIte, if_neg hBr, HB2.out, Option.map_some, cellPut]; rfl
 ·refine (Hrw.out.same hs02 (by simp)).same (S := [r, B]) ?_ (fun b hb hm => ?_)
  ·repeat (first | (with_reducible refine Same.alloc' ?_ _) | (with_reducible refine Same.drew' ?_) | (with_reducible refine Same.drewN' ?_ _) | (with_reducible refine Same.set ?_ _ _ (by simp; done)) | (with_reducible refine Same.setNew ?_ _ _ (by simp <;> omega)) | (with_reducible exact Same.refl _ _))
  ·simp at hm; rcases hm with rfl | rfl
   ·exact d1 hb
   ·exact d3 hb
 ·refine (Hrp.out.same hs02 (by simp)).same (S := [r, B]) ?_ (fun b hb hm => ?_)
  ·repeat (first | (with_reducible refine Same.alloc' ?_ _) | (with_reducible refine Same.drew' ?_) | (with_reducible refine Same.drewN' ?_ _) | (with_reducible refine Same.set ?_ _ _ (by simp; done)) | (with_reducible refine Same.setNew ?_ _ _ (by simp <;> omega)) | (with_reducible exact Same.refl _ _))
  ·simp at hm; rcases hm with rfl | rfl
   ·exact d2 hb
   ·exact d4 hb
theorem within_dotForm1 (w : World) (r : Nat) (A : RA) (R : Rd) (h : RdAt w r A R) (t : Tk) (s : St) (hnow : R.now = some s) (h9 : R.what < 7) (hp : plainB t.text = false) (q1 : t.text.toList = [36, 46]) (pr : Bool) (hpr : R.proves = pr) (hl : s.words.length < formL R.what) :
  Calls Tryz.prog 60 #[.pointer (some ⟨r, 0, none⟩), .agg #[.string t.text, .int .i64 t.at_.off, .int .i64 t.at_.line, .int .i64 t.at_.col]] w (RdR r A (R.within s t) w) := by
 have hpc := plain_calls t.text
 have H := Kd h
 have hbd := fun w => bounds_calls w R.what (by omega)
 obtain ⟨B, Aw, cw, Ap, cp, hnv, hnw, hnp, hB, hBr, d1, d2, d3, d4, d5, d6, rw1, rp1, d7, d8, d9⟩ := h.nowFacts hnow
 obtain ⟨Av, cv, hvo⟩ := h.out.shape
 have HB := Kd hB
 have hlt := blk_lt h.blk
 have hBl := blk_lt hB
 obtain ⟨c0, c1, c2, c3, c4, cf⟩ := h.facts
 rw [hnv] at c2
 rw [hvo] at c0
 have hrB : r ≠ B := fun e => hBr e.symm
 have Hnow := Kd hnow
 have hx : R.within s t = (62, R) := by
  have : ¬ t.text.toList = [36, 61] := by rw [q1]; decide
  simp [Rd.within, plainT, hp, q1, hl]
 rw [hx]
 rw [hp] at hpc
 have Hpr := Kd hpr
 rw [hpr] at c4
 have e1 : (t.text.toList == [36, 61]) = false := by rw [q1]; rfl
 have e2 : (t.text.toList == [36, 46]) = true := by rw [q1]; rfl
 clear h hp hpr hx hnow hB rw1 rp1 q1
 go_enter Tryz.func60, Tryz.ntmps60
 go_wp2_with (first
  | (go_at_call 112; refine (hpc _).mono ?_; rintro e w' ⟨rfl, hw⟩; obtain rfl := hw.symm)
  | (go_at_call 114; go_must (refine (hbd _).mono ?_; rintro e W2 ⟨rfl, hs2⟩; have hs02 := (Same.alloc [] w (tokBlk t)).trans hs2; have H2 := Kd (H.out.same hs02); have hB2 := hs02.get HB.out (by simp); have hb2 := hs2.get (blk_new w (tokBlk t)) (by simp); obtain ⟨c0, c1, c2, c3, c4, cf⟩ := H2.out.facts; rw [hnv] at c2; rw [hvo] at c0; rw [Hpr.out] at c4; obtain ⟨g0, ⟨g1, g2, g3, g4⟩, ⟨g5, g6, g7, g8⟩, ⟨g9, g10, g11⟩, ⟨g12, g13, g14, g15⟩, gf⟩ := stBlk_cells hB2; rw [hnw] at g10; rw [hnp] at g11; obtain ⟨k0, k1, k2, k3, kf⟩ := tokBlk_cells hb2; have hr2 := blk_lt H2.out.blk; have hBl2 := blk_lt hB2; have hw2 := blk_lt hb2; have HB2 := Kd hB2; have Hb2 := Kd hb2; clear hs2 hB2 hb2))
  )
 go_ret
 exact RdR.stay H.out hs02
theorem within_dotForm2 (w : World) (r : Nat) (A : RA) (R : Rd) (h : RdAt w r A R) (t : Tk) (s : St) (hnow : R.now = some s) (h9 : R.what < 7) (hp : plainB t.text = false) (q1 : t.text.toList = [36, 46]) (hpr : R.proves = false) (hl : ¬ s.words.length < formL R.what) (h6 : R.what = 6) :
  Calls Tryz.prog 60 #[.pointer (some ⟨r, 0, none⟩), .agg #[.string t.text, .int .i64 t.at_.off, .int .i64 t.at_.line, .int .i64 t.at_.col]] w (RdR r A (R.within s t) w) := by
 have hpc := plain_calls t.text
 have H := Kd h
 have hbd := fun w => bounds_calls w R.what (by omega)
 obtain ⟨B, Aw, cw, Ap, cp, hnv, hnw, hnp, hB, hBr, d1, d2, d3, d4, d5, d6, rw1, rp1, d7, d8, d9⟩ := h.nowFacts hnow
 obtain ⟨Av, cv, hvo⟩ := h.out.shape
 have HB := Kd hB
 have hlt := blk_lt h.blk
 have hBl := blk_lt hB
 obtain ⟨c0, c1, c2, c3, c4, cf⟩ := h.facts
 rw [hnv] at c2
 rw [hvo] at c0
 have hrB : r ≠ B := fun e => hBr e.symm
 have Hnow := Kd hnow
 have hx : R.within s t = (62, R) := by
  simp [Rd.within, plainT, hp, q1, h6, hpr]
 rw [hx]
 rw [hp] at hpc
 have Hpr := Kd hpr
 rw [hpr] at c4
 have e1 : (t.text.toList == [36, 61]) = false := by rw [q1]; rfl
 have e2 : (t.text.toList == [36, 46]) = true := by rw [q1]; rfl
 have h6' : (R.what == 6) = true := by simpa using h6
 rw [h6'] at hbd
 clear h hp hpr hx hnow hB rw1 rp1 q1 h6 h6'
 go_enter Tryz.func60, Tryz.ntmps60
 go_wp2_with (first
  | (go_at_call 112; refine (hpc _).mono ?_; rintro e w' ⟨rfl, hw⟩; obtain rfl := hw.symm)
  | (go_at_call 114; go_must (refine (hbd _).mono ?_; rintro e W2 ⟨rfl, hs2⟩; have hs02 := (Same.alloc [] w (tokBlk t)).trans hs2; have H2 := Kd (H.out.same hs02); have hB2 := hs02.get HB.out (by simp); have hb2 := hs2.get (blk_new w (tokBlk t)) (by simp); obtain ⟨c0, c1, c2, c3, c4, cf⟩ := H2.out.facts; rw [hnv] at c2; rw [hvo] at c0; rw [Hpr.out] at c4; obtain ⟨g0, ⟨g1, g2, g3, g4⟩, ⟨g5, g6, g7, g8⟩, ⟨g9, g10, g11⟩, ⟨g12, g13, g14, g15⟩, gf⟩ := stBlk_cells hB2; rw [hnw] at g10; rw [hnp] at g11; obtain ⟨k0, k1, k2, k3, kf⟩ := tokBlk_cells hb2; have hr2 := blk_lt H2.out.blk; have hBl2 := blk_lt hB2; have hw2 := blk_lt hb2; have HB2 := Kd hB2; have Hb2 := Kd hb2; clear hs2 hB2 hb2))
  )
 go_ret
 exact RdR.stay H.out hs02
end Go.Proofs.YtdhkmfpfbjcdiaaGreatDoor
