/- lemmalaw texts, part 20. -/
import Derived.Test.YtdhkmfpfbjcdiaaGreatDoorYas
import Derived.Deep.DeepFit
set_option maxRecDepth 100000
set_option linter.unusedVariables false
set_option linter.unusedSimpArgs false
set_option maxHeartbeats 32000000
namespace Go.Proofs.YtdhkmfpfbjcdiaaGreatDoor
open Go.RowKit
theorem between_open (w : World) (r : Nat) (A : RA) (R : Rd) (h : RdAt w r A R) (t : Tk) (hp : plainB t.text = false) (hk : keyN t.text = 7) (hlb : R.label = none) (hnow : R.now = none) (hn : R.out.length < 1000000) :
  Calls Tryz.prog 59 #[.pointer (some ⟨r, 0, none⟩), .agg #[.string t.text, .int .i64 t.at_.off, .int .i64 t.at_.line, .int .i64 t.at_.col]] w (RdR r A (R.between t) w) := by
 have hpc := plain_calls t.text
 rw [hp] at hpc
 have hbk := byKey_calls t.text
 rw [hk] at hbk
 have H := Kd h
 have hla := h.label
 rw [hlb] at hla
 have hlv : A.lv = .pointer none := hla
 have hbd := fun w => bounds_calls w 7 (by omega)
 obtain ⟨Av, cv, hvo⟩ := h.out.shape
 have Hvo := Kd hvo
 have hno := h.now
 rw [hnow] at hno
 have Hnv := Kd hno.1
 have Hlv := Kd hlv
 have hx : R.between t = (0, ⟨R.out ++ [⟨8, Tk.none, t, false, [], [], t⟩], none, none, R.what, R.proves⟩) := by
  have hf : formLab 7 = false := rfl
  simp [Rd.between, plainT, hp, hk, hlb, hf, hnow]
 have Hx := Kd hx
 have m4 := methk_bracket
 have hlt := blk_lt h.blk
 clear h hp hk hla hlb hvo hno hnow hx
 simp only [formLab_vals] at hbd
 dsimp only [formV] at hbk
 go_enter Tryz.func59, Tryz.ntmps59
 go_wp2_with (first
  | (go_at_call 112; refine (hpc _).mono ?_; rintro e w' ⟨rfl, rfl⟩)
  | (go_at_call 113; refine (hbk _).mono ?_; rintro e W1 ⟨rfl, hs1⟩; have hs01 := (Same.alloc [] w (tokBlk t)).trans hs1)
  | (go_at_call 114; go_must (refine (hbd _).mono ?_; rintro e W2 ⟨rfl, hs2⟩; have hs02 := hs01.trans hs2; have H2 := Kd (H.out.same hs02); obtain ⟨e0, e1, e2, e3, e4, ef⟩ := H2.out.facts; rw [hlv] at e1; have hr2 := blk_lt H2.out.blk; have hb2 := (hs1.trans hs2).get (blk_new w (tokBlk t)) (by simp); obtain ⟨k0, k1, k2, k3, kf⟩ := tokBlk_cells hb2; have hw2 := blk_lt hb2; clear hs2))
  )
 refine region_canon (.read 0 (.read 2 (.two 1 [2] (.read 3 (.one 4 [0, 2, 1, 3] (.one 5 [] (.done)))) 4 [0, 2] (.one 1 [2, 4] (.read 3 (.one 5 [] (.done))))))) (by kernel_rfl) (by kernel_rfl) ?_
 iterate 2 (refine canon_read rfl (fun K hK => ?_); go_simp; (try go_bits); (try (rw [if_pos (by omega)]; go_simp)); refine hK _ ?_; clear hK K)
 refine canon_twoL rfl rfl ?_ ?_
 ·go_wp2_with (go_at_call 236; refine (kindOf_calls _ _ _ rfl rfl).mono ?_; rintro e' W3 ⟨rfl, hs3⟩)
  have hs23 := (Same.drew [] W2).trans hs3
  have H3 := Kd (H2.out.same hs23)
  have hb3 := hs23.get hb2 (by simp)
  clear e0 e1 e2 e3 e4 ef k0 k1 k2 k3 kf
  obtain ⟨e0, e1, e2, e3, e4, ef⟩ := H3.out.facts
  rw [hlv] at e1
  obtain ⟨k0, k1, k2, k3, kf⟩ := tokBlk_cells hb3
  have hr3 := blk_lt H3.out.blk
  have hw3 := blk_lt hb3
  refine EQ.A ?_
  iterate 1 (refine canon_read rfl (fun K hK => ?_); go_simp; (try go_bits); (try (rw [if_pos (by omega)]; go_simp)); refine hK _ ?_; clear hK K)
  refine canon_oneL rfl ?_
  go_wp2
  refine EQ.A ?_
  refine canon_oneL rfl ?_
  go_wp2
  refine EQ.A ?_
  refine canon_done ?_
  generalize hW4 : W3.alloc (Obj.cells _ _ _) = W4
  have hB4 : W4.heap[W3.heap.size]? = some (stBlk ⟨8, Tk.none, t, false, [], [], Tk.none⟩ (.slice none 0 0) (.slice none 0 0)) := by rw [← hW4]; exact blk_new _ _
  have hs24 : Same [] W2 W4 := by rw [← hW4]; exact hs23.trans (Same.alloc _ _ _)
  have hBn : w.heap.size < W3.heap.size := hw3
  clear hW4 hs3 hs23 H3 hb3 hr3 hw3
  generalize W3.heap.size = B at hB4 hBn ⊢
  have hs4 : Same [] w W4 := hs02.trans hs24
  have hb4 := hs24.get hb2 (by simp)
  have H4 := Kd (H.out.same hs4)
  clear e0 e1 e2 e3 e4 ef k0 k1 k2 k3 kf
  obtain ⟨e0, e1, e2, e3, e4, ef⟩ := H4.out.facts
  rw [hlv] at e1
  obtain ⟨k0, k1, k2, k3, kf⟩ := tokBlk_cells hb4
  have hr4 := blk_lt H4.out.blk
  have hw4 := blk_lt hb4
  clear H2 hb2 hs02 hs24 hs1 hs01 hr2 hw2
  have c15 := as_yes_bracket
  obtain ⟨g0, ⟨g1, g2, g3, g4⟩, ⟨g5, g6, g7, g8⟩, ⟨g9, g10, g11⟩, ⟨g12, g13, g14, g15⟩, gf⟩ := stBlk_cells hB4
  have hBl := blk_lt hB4
  go_wp2
  generalize hW5 : World.alloc _ _ = W5
  have hB5 : W5.heap[B]? = some (stBlk ⟨8, Tk.none, t, false, [], [], t⟩ (.slice none 0 0) (.slice none 0 0)) := by
   rw [← hW5]
   simp only [heap_alloc', heap_setCell, size_set', ↓reduceIte, hB4, Option.map_some, cellPut, stBlk, if_neg (show B ≠ W4.heap.size by omega)]
   rfl
  have hs5 : Same [] w W5 := by
   rw [← hW5]
   refine Same.then (S := []) (T := [B]) hs4 ?_ (fun x hx => .inr (by simp at hx; omega))
   exact Same.A
  clear hW5 c15 e0 e1 e2 e3 e4 ef k0 k1 k2 k3 kf g0 g1 g2 g3 g4 g5 g6 g7 g8 g9 g10 g11 g12 g13 g14 g15 gf H4 hb4 hr4 hw4 hB4 hBl hs4
  have H5 := Kd (H.out.same hs5)
  obtain ⟨e0, e1, e2, e3, e4, ef⟩ := H5.out.facts
  have hrow5 := H5.out.out
  rw [hlv] at e1
  rw [Hvo.out] at e0 hrow5
  obtain ⟨g0, ⟨g1, g2, g3, g4⟩, ⟨g5, g6, g7, g8⟩, ⟨g9, g10, g11⟩, ⟨g12, g13, g14, g15⟩, gf⟩ := stBlk_cells hB5
  have hBl := blk_lt hB5
  have hr5 := blk_lt H5.out.blk
  refine region_canon (.read 0 (.read 1 (.read 2 (.read 3 (.read 4 (.read 5 (.one 6 [0, 1, 2, 3, 4] (.one 7 [0] (.read 8 (.read 9 (.one 10 [] (.done)))))))))))) (by kernel_rfl) (by kernel_rfl) ?_
  iterate 6 (refine canon_read rfl (fun K hK => ?_); go_simp; (try go_bits); (try (rw [if_pos (by omega)]; go_simp)); refine hK _ ?_; clear hK K)
  refine canon_oneL rfl ?_
  go_wp2
  refine EQ.A ?_
  refine canon_oneL rfl ?_
  refine wp_push rfl _ _ 62 rfl 73 16 184 _ Tryz.underlying62 Tryz.infoStmt rfl (by decide) (.slice Av R.out.length cv) _ _ rfl (hrow5.same (Same.drew [] _) (by simp)) (St.cells ⟨8, Tk.none, t, false, [], [], t⟩ (.slice none 0 0) (.slice none 0 0)) rfl rfl (St.cells_one _ _ _ rfl rfl) (by omega) (by decide) ?_
  intro v6 W6 hrow6 hsm6 hor6
  obtain ⟨A6, c6, rfl⟩ := hrow6.shape
  rw [← Hvo.out] at hsm6 hor6
  have hb6 := hsm6.get (w := W5.drew) H5.out.blk (by have := H5.out.out.ne H5.out.blk (by decide); simpa using this)
  have c60 := blk_c (i := 0) (v := A.vo) hb6 rfl
  have f60 := blk_free hb6
  go_wp2
  refine EQ.A ?_
  iterate 2 (refine canon_read rfl (fun K hK => ?_); go_simp; (try go_bits); (try (rw [if_pos (by omega)]; go_simp)); refine hK _ ?_; clear hK K)
  refine canon_oneL rfl ?_
  go_wp2
  refine EQ.A ?_
  refine canon_done ?_
  clear e0 e1 e2 e3 e4 ef g0 g1 g2 g3 g4 g5 g6 g7 g8 g9 g10 g11 g12 g13 g14 g15 gf hrow5
  go_wp2
  go_ret
  have hfin := (H5.out.same (Same.drew [] W5)).push (s := ⟨8, Tk.none, t, false, [], [], t⟩) (p := (.slice none 0 0, .slice none 0 0)) hrow6 hsm6 hor6 (Same.setCell W6 ⟨r, 0, none⟩ (.slice A6 (R.out.length + 1) c6) (S := [r]) (by simp)) A.lv A.nv none R.what R.proves
   (by rw [blk_set hb6]; rfl) ⟨Fix.nil _ _ _ _, Fix.nil _ _ _ _⟩ Hlv.out Hnv.out
  rw [Hx.out]
  exact ⟨rfl, _, hfin.1, (Move.of_same (hs5.trans (Same.drew [] W5))).trans hfin.2⟩
 ·go_wp2
  refine EQ.A ?_
  refine canon_oneL rfl ?_
  go_wp2_with (go_at_call 236; refine (kindOf_calls _ _ _ rfl rfl).mono ?_; rintro e' W3 ⟨rfl, hs3⟩)
  have hz3 : W3.heap[W2.heap.size]? = some (stBlk ⟨0, Tk.none, Tk.none, false, [], [], Tk.none⟩ (.slice none 0 0) (.slice none 0 0)) := hs3.get (b := W2.heap.size) (blk_new W2 _) (by simp)
  have hs23 : Same [] W2 W3 := by
   refine Same.trans ?_ hs3
   exact Same.A
  have H3 := Kd (H2.out.same hs23)
  have hb3 := hs23.get hb2 (by simp)
  clear e0 e1 e2 e3 e4 ef k0 k1 k2 k3 kf
  obtain ⟨e0, e1, e2, e3, e4, ef⟩ := H3.out.facts
  rw [hlv] at e1
  obtain ⟨k0, k1, k2, k3, kf⟩ := tokBlk_cells hb3
  have hr3 := blk_lt H3.out.blk
  have hw3 := blk_lt hb3
  have hz3l := blk_lt hz3
  refine EQ.A ?_
  iterate 1 (refine canon_read rfl (fun K hK => ?_); go_simp; (try go_bits); (try (rw [if_pos (by omega)]; go_simp)); refine hK _ ?_; clear hK K)
  refine canon_oneL rfl ?_
  refine wp_stRow rfl 73 _ _ rfl W2.heap.size _ rfl rfl 73 _ hz3 (by kernel_rfl) rfl (by simp [Value.oneCell']) ?_
  intro W4 hB4' hs34
  have hB4 : W4.heap[W2.heap.size]? = some (stBlk ⟨8, Tk.none, t, false, [], [], Tk.none⟩ (.slice none 0 0) (.slice none 0 0)) := hB4'
  have hs24 : Same [] W2 W4 := hs23.then hs34 (fun x hx => .inr (by simp at hx; omega))
  have hBn : w.heap.size < W2.heap.size := hw2
  clear hB4' hs34 hs3 hs23 H3 hb3 hr3 hw3 hz3 hz3l
  generalize W2.heap.size = B at hB4 hBn ⊢
  have hs4 : Same [] w W4 := hs02.trans hs24
  have hb4 := hs24.get hb2 (by simp)
  have H4 := Kd (H.out.same hs4)
  clear e0 e1 e2 e3 e4 ef k0 k1 k2 k3 kf
  obtain ⟨e0, e1, e2, e3, e4, ef⟩ := H4.out.facts
  rw [hlv] at e1
  obtain ⟨k0, k1, k2, k3, kf⟩ := tokBlk_cells hb4
  have hr4 := blk_lt H4.out.blk
  have hw4 := blk_lt hb4
  clear H2 hb2 hs02 hs24 hs1 hs01 hr2 hw2
  go_wp2
  refine EQ.A ?_
  refine canon_done ?_
  have c15 := as_yes_bracket
  obtain ⟨g0, ⟨g1, g2, g3, g4⟩, ⟨g5, g6, g7, g8⟩, ⟨g9, g10, g11⟩, ⟨g12, g13, g14, g15⟩, gf⟩ := stBlk_cells hB4
  have hBl := blk_lt hB4
  go_wp2
  generalize hW5 : World.alloc _ _ = W5
  have hB5 : W5.heap[B]? = some (stBlk ⟨8, Tk.none, t, false, [], [], t⟩ (.slice none 0 0) (.slice none 0 0)) := by
   rw [← hW5]
   simp only [heap_alloc', heap_setCell, size_set', ↓reduceIte, hB4, Option.map_some, cellPut, stBlk, if_neg (show B ≠ W4.heap.size by omega)]
   rfl
  have hs5 : Same [] w W5 := by
   rw [← hW5]
   refine Same.then (S := []) (T := [B]) hs4 ?_ (fun x hx => .inr (by simp at hx; omega))
   exact Same.A
  clear hW5 c15 e0 e1 e2 e3 e4 ef k0 k1 k2 k3 kf g0 g1 g2 g3 g4 g5 g6 g7 g8 g9 g10 g11 g12 g13 g14 g15 gf H4 hb4 hr4 hw4 hB4 hBl hs4
  have H5 := Kd (H.out.same hs5)
  obtain ⟨e0, e1, e2, e3, e4, ef⟩ := H5.out.facts
  have hrow5 := H5.out.out
  rw [hlv] at e1
  rw [Hvo.out] at e0 hrow5
  obtain ⟨g0, ⟨g1, g2, g3, g4⟩, ⟨g5, g6, g7, g8⟩, ⟨g9, g10, g11⟩, ⟨g12, g13, g14, g15⟩, gf⟩ := stBlk_cells hB5
  have hBl := blk_lt hB5
  have hr5 := blk_lt H5.out.blk
  refine region_canon (.read 0 (.read 1 (.read 2 (.read 3 (.read 4 (.read 5 (.one 6 [0, 1, 2, 3, 4] (.one 7 [0] (.read 8 (.read 9 (.one 10 [] (.done)))))))))))) (by kernel_rfl) (by kernel_rfl) ?_
  iterate 6 (refine canon_read rfl (fun K hK => ?_); go_simp; (try go_bits); (try (rw [if_pos (by omega)]; go_simp)); refine hK _ ?_; clear hK K)
  refine canon_oneL rfl ?_
  go_wp2
  refine EQ.A ?_
  refine canon_oneL rfl ?_
  refine wp_push rfl _ _ 62 rfl 73 16 184 _ Tryz.underlying62 Tryz.infoStmt rfl (by decide) (.slice Av R.out.length cv) _ _ rfl (hrow5.same (Same.drew [] _) (by simp)) (St.cells ⟨8, Tk.none, t, false, [], [], t⟩ (.slice none 0 0) (.slice none 0 0)) rfl rfl (St.cells_one _ _ _ rfl rfl) (by omega) (by decide) ?_
  intro v6 W6 hrow6 hsm6 hor6
  obtain ⟨A6, c6, rfl⟩ := hrow6.shape
  rw [← Hvo.out] at hsm6 hor6
  have hb6 := hsm6.get (w := W5.drew) H5.out.blk (by have := H5.out.out.ne H5.out.blk (by decide); simpa using this)
  have c60 := blk_c (i := 0) (v := A.vo) hb6 rfl
  have f60 := blk_free hb6
  go_wp2
  refine EQ.A ?_
  iterate 2 (refine canon_read rfl (fun K hK => ?_); go_simp; (try go_bits); (try (rw [if_pos (by omega)]; go_simp)); refine hK _ ?_; clear hK K)
  refine canon_oneL rfl ?_
  go_wp2
  refine EQ.A ?_
  refine canon_done ?_
  clear e0 e1 e2 e3 e4 ef g0 g1 g2 g3 g4 g5 g6 g7 g8 g9 g10 g11 g12 g13 g14 g15 gf hrow5
  go_wp2
  go_ret
  have hfin := (H5.out.same (Same.drew [] W5)).push (s := ⟨8, Tk.none, t, false, [], [], t⟩) (p := (.slice none 0 0, .slice none 0 0)) hrow6 hsm6 hor6 (Same.setCell W6 ⟨r, 0, none⟩ (.slice A6 (R.out.length + 1) c6) (S := [r]) (by simp)) A.lv A.nv none R.what R.proves
   (by rw [blk_set hb6]; rfl) ⟨Fix.nil _ _ _ _, Fix.nil _ _ _ _⟩ Hlv.out Hnv.out
  rw [Hx.out]
  exact ⟨rfl, _, hfin.1, (Move.of_same (hs5.trans (Same.drew [] W5))).trans hfin.2⟩
theorem between_close (w : World) (r : Nat) (A : RA) (R : Rd) (h : RdAt w r A R) (t : Tk) (hp : plainB t.text = false) (hk : keyN t.text = 8) (hlb : R.label = none) (hnow : R.now = none) (hn : R.out.length < 1000000) :
  Calls Tryz.prog 59 #[.pointer (some ⟨r, 0, none⟩), .agg #[.string t.text, .int .i64 t.at_.off, .int .i64 t.at_.line, .int .i64 t.at_.col]] w (RdR r A (R.between t) w) := by
 have hpc := plain_calls t.text
 rw [hp] at hpc
 have hbk := byKey_calls t.text
 rw [hk] at hbk
 have H := Kd h
 have hla := h.label
 rw [hlb] at hla
 have hlv : A.lv = .pointer none := hla
 have hbd := fun w => bounds_calls w 8 (by omega)
 obtain ⟨Av, cv, hvo⟩ := h.out.shape
 have Hvo := Kd hvo
 have hno := h.now
 rw [hnow] at hno
 have Hnv := Kd hno.1
 have Hlv := Kd hlv
 have hx : R.between t = (0, ⟨R.out ++ [⟨9, Tk.none, t, false, [], [], t⟩], none, none, R.what, R.proves⟩) := by
  have hf : formLab 8 = false := rfl
  simp [Rd.between, plainT, hp, hk, hlb, hf, hnow]
 have Hx := Kd hx
 have m4 := methk_bracket
 have hlt := blk_lt h.blk
 clear h hp hk hla hlb hvo hno hnow hx
 simp only [formLab_vals] at hbd
 dsimp only [formV] at hbk
 go_enter Tryz.func59, Tryz.ntmps59
 go_wp2_with (first
  | (go_at_call 112; refine (hpc _).mono ?_; rintro e w' ⟨rfl, rfl⟩)
  | (go_at_call 113; refine (hbk _).mono ?_; rintro e W1 ⟨rfl, hs1⟩; have hs01 := (Same.alloc [] w (tokBlk t)).trans hs1)
  | (go_at_call 114; go_must (refine (hbd _).mono ?_; rintro e W2 ⟨rfl, hs2⟩; have hs02 := hs01.trans hs2; have H2 := Kd (H.out.same hs02); obtain ⟨e0, e1, e2, e3, e4, ef⟩ := H2.out.facts; rw [hlv] at e1; have hr2 := blk_lt H2.out.blk; have hb2 := (hs1.trans hs2).get (blk_new w (tokBlk t)) (by simp); obtain ⟨k0, k1, k2, k3, kf⟩ := tokBlk_cells hb2; have hw2 := blk_lt hb2; clear hs2))
  )
 refine region_canon (.read 0 (.read 2 (.two 1 [2] (.read 3 (.one 4 [0, 2, 1, 3] (.one 5 [] (.done)))) 4 [0, 2] (.one 1 [2, 4] (.read 3 (.one 5 [] (.done))))))) (by kernel_rfl) (by kernel_rfl) ?_
 iterate 2 (refine canon_read rfl (fun K hK => ?_); go_simp; (try go_bits); (try (rw [if_pos (by omega)]; go_simp)); refine hK _ ?_; clear hK K)
 refine canon_twoL rfl rfl ?_ ?_
 ·go_wp2_with (go_at_call 236; refine (kindOf_calls _ _ _ rfl rfl).mono ?_; rintro e' W3 ⟨rfl, hs3⟩)
  have hs23 := (Same.drew [] W2).trans hs3
  have H3 := Kd (H2.out.same hs23)
  have hb3 := hs23.get hb2 (by simp)
  clear e0 e1 e2 e3 e4 ef k0 k1 k2 k3 kf
  obtain ⟨e0, e1, e2, e3, e4, ef⟩ := H3.out.facts
  rw [hlv] at e1
  obtain ⟨k0, k1, k2, k3, kf⟩ := tokBlk_cells hb3
  have hr3 := blk_lt H3.out.blk
  have hw3 := blk_lt hb3
  refine EQ.A ?_
  iterate 1 (refine canon_read rfl (fun K hK => ?_); go_simp; (try go_bits); (try (rw [if_pos (by omega)]; go_simp)); refine hK _ ?_; clear hK K)
  refine canon_oneL rfl ?_
  go_wp2
  refine EQ.A ?_
  refine canon_oneL rfl ?_
  go_wp2
  refine EQ.A ?_
  refine canon_done ?_
  generalize hW4 : W3.alloc (Obj.cells _ _ _) = W4
  have hB4 : W4.heap[W3.heap.size]? = some (stBlk ⟨9, Tk.none, t, false, [], [], Tk.none⟩ (.slice none 0 0) (.slice none 0 0)) := by rw [← hW4]; exact blk_new _ _
  have hs24 : Same [] W2 W4 := by rw [← hW4]; exact hs23.trans (Same.alloc _ _ _)
  have hBn : w.heap.size < W3.heap.size := hw3
  clear hW4 hs3 hs23 H3 hb3 hr3 hw3
  generalize W3.heap.size = B at hB4 hBn ⊢
  have hs4 : Same [] w W4 := hs02.trans hs24
  have hb4 := hs24.get hb2 (by simp)
  have H4 := Kd (H.out.same hs4)
  clear e0 e1 e2 e3 e4 ef k0 k1 k2 k3 kf
  obtain ⟨e0, e1, e2, e3, e4, ef⟩ := H4.out.facts
  rw [hlv] at e1
  obtain ⟨k0, k1, k2, k3, kf⟩ := tokBlk_cells hb4
  have hr4 := blk_lt H4.out.blk
  have hw4 := blk_lt hb4
  clear H2 hb2 hs02 hs24 hs1 hs01 hr2 hw2
  have c15 := as_yes_bracket
  obtain ⟨g0, ⟨g1, g2, g3, g4⟩, ⟨g5, g6, g7, g8⟩, ⟨g9, g10, g11⟩, ⟨g12, g13, g14, g15⟩, gf⟩ := stBlk_cells hB4
  have hBl := blk_lt hB4
  go_wp2
  generalize hW5 : World.alloc _ _ = W5
  have hB5 : W5.heap[B]? = some (stBlk ⟨9, Tk.none, t, false, [], [], t⟩ (.slice none 0 0) (.slice none 0 0)) := by
   rw [← hW5]
   simp only [heap_alloc', heap_setCell, size_set', ↓reduceIte, hB4, Option.map_some, cellPut, stBlk, if_neg (show B ≠ W4.heap.size by omega)]
   rfl
  have hs5 : Same [] w W5 := by
   rw [← hW5]
   refine Same.then (S := []) (T := [B]) hs4 ?_ (fun x hx => .inr (by simp at hx; omega))
   exact Same.A
  clear hW5 c15 e0 e1 e2 e3 e4 ef k0 k1 k2 k3 kf g0 g1 g2 g3 g4 g5 g6 g7 g8 g9 g10 g11 g12 g13 g14 g15 gf H4 hb4 hr4 hw4 hB4 hBl hs4
  have H5 := Kd (H.out.same hs5)
  obtain ⟨e0, e1, e2, e3, e4, ef⟩ := H5.out.facts
  have hrow5 := H5.out.out
  rw [hlv] at e1
  rw [Hvo.out] at e0 hrow5
  obtain ⟨g0, ⟨g1, g2, g3, g4⟩, ⟨g5, g6, g7, g8⟩, ⟨g9, g10, g11⟩, ⟨g12, g13, g14, g15⟩, gf⟩ := stBlk_cells hB5
  have hBl := blk_lt hB5
  have hr5 := blk_lt H5.out.blk
  refine region_canon (.read 0 (.read 1 (.read 2 (.read 3 (.read 4 (.read 5 (.one 6 [0, 1, 2, 3, 4] (.one 7 [0] (.read 8 (.read 9 (.one 10 [] (.done)))))))))))) (by kernel_rfl) (by kernel_rfl) ?_
  iterate 6 (refine canon_read rfl (fun K hK => ?_); go_simp; (try go_bits); (try (rw [if_pos (by omega)]; go_simp)); refine hK _ ?_; clear hK K)
  refine canon_oneL rfl ?_
  go_wp2
  refine EQ.A ?_
  refine canon_oneL rfl ?_
  refine wp_push rfl _ _ 62 rfl 73 16 184 _ Tryz.underlying62 Tryz.infoStmt rfl (by decide) (.slice Av R.out.length cv) _ _ rfl (hrow5.same (Same.drew [] _) (by simp)) (St.cells ⟨9, Tk.none, t, false, [], [], t⟩ (.slice none 0 0) (.slice none 0 0)) rfl rfl (St.cells_one _ _ _ rfl rfl) (by omega) (by decide) ?_
  intro v6 W6 hrow6 hsm6 hor6
  obtain ⟨A6, c6, rfl⟩ := hrow6.shape
  rw [← Hvo.out] at hsm6 hor6
  have hb6 := hsm6.get (w := W5.drew) H5.out.blk (by have := H5.out.out.ne H5.out.blk (by decide); simpa using this)
  have c60 := blk_c (i := 0) (v := A.vo) hb6 rfl
  have f60 := blk_free hb6
  go_wp2
  refine EQ.A ?_
  iterate 2 (refine canon_read rfl (fun K hK => ?_); go_simp; (try go_bits); (try (rw [if_pos (by omega)]; go_simp)); refine hK _ ?_; clear hK K)
  refine canon_oneL rfl ?_
  go_wp2
  refine EQ.A ?_
  refine canon_done ?_
  clear e0 e1 e2 e3 e4 ef g0 g1 g2 g3 g4 g5 g6 g7 g8 g9 g10 g11 g12 g13 g14 g15 gf hrow5
  go_wp2
  go_ret
  have hfin := (H5.out.same (Same.drew [] W5)).push (s := ⟨9, Tk.none, t, false, [], [], t⟩) (p := (.slice none 0 0, .slice none 0 0)) hrow6 hsm6 hor6 (Same.setCell W6 ⟨r, 0, none⟩ (.slice A6 (R.out.length + 1) c6) (S := [r]) (by simp)) A.lv A.nv none R.what R.proves
   (by rw [blk_set hb6]; rfl) ⟨Fix.nil _ _ _ _, Fix.nil _ _ _ _⟩ Hlv.out Hnv.out
  rw [Hx.out]
  exact ⟨rfl, _, hfin.1, (Move.of_same (hs5.trans (Same.drew [] W5))).trans hfin.2⟩
 ·go_wp2
  refine EQ.A ?_
  refine canon_oneL rfl ?_
  go_wp2_with (go_at_call 236; refine (kindOf_calls _ _ _ rfl rfl).mono ?_; rintro e' W3 ⟨rfl, hs3⟩)
  have hz3 : W3.heap[W2.heap.size]? = some (stBlk ⟨0, Tk.none, Tk.none, false, [], [], Tk.none⟩ (.slice none 0 0) (.slice none 0 0)) := hs3.get (b := W2.heap.size) (blk_new W2 _) (by simp)
  have hs23 : Same [] W2 W3 := by
   refine Same.trans ?_ hs3
   exact Same.A
  have H3 := Kd (H2.out.same hs23)
  have hb3 := hs23.get hb2 (by simp)
  clear e0 e1 e2 e3 e4 ef k0 k1 k2 k3 kf
  obtain ⟨e0, e1, e2, e3, e4, ef⟩ := H3.out.facts
  rw [hlv] at e1
  obtain ⟨k0, k1, k2, k3, kf⟩ := tokBlk_cells hb3
  have hr3 := blk_lt H3.out.blk
  have hw3 := blk_lt hb3
  have hz3l := blk_lt hz3
  refine EQ.A ?_
  iterate 1 (refine canon_read rfl (fun K hK => ?_); go_simp; (try go_bits); (try (rw [if_pos (by omega)]; go_simp)); refine hK _ ?_; clear hK K)
  refine canon_oneL rfl ?_
  refine wp_stRow rfl 73 _ _ rfl W2.heap.size _ rfl rfl 73 _ hz3 (by kernel_rfl) rfl (by simp [Value.oneCell']) ?_
  intro W4 hB4' hs34
  have hB4 : W4.heap[W2.heap.size]? = some (stBlk ⟨9, Tk.none, t, false, [], [], Tk.none⟩ (.slice none 0 0) (.slice none 0 0)) := hB4'
  have hs24 : Same [] W2 W4 := hs23.then hs34 (fun x hx => .inr (by simp at hx; omega))
  have hBn : w.heap.size < W2.heap.size := hw2
  clear hB4' hs34 hs3 hs23 H3 hb3 hr3 hw3 hz3 hz3l
  generalize W2.heap.size = B at hB4 hBn ⊢
  have hs4 : Same [] w W4 := hs02.trans hs24
  have hb4 := hs24.get hb2 (by simp)
  have H4 := Kd (H.out.same hs4)
  clear e0 e1 e2 e3 e4 ef k0 k1 k2 k3 kf
  obtain ⟨e0, e1, e2, e3, e4, ef⟩ := H4.out.facts
  rw [hlv] at e1
  obtain ⟨k0, k1, k2, k3, kf⟩ := tokBlk_cells hb4
  have hr4 := blk_lt H4.out.blk
  have hw4 := blk_lt hb4
  clear H2 hb2 hs02 hs24 hs1 hs01 hr2 hw2
  go_wp2
  refine EQ.A ?_
  refine canon_done ?_
  have c15 := as_yes_bracket
  obtain ⟨g0, ⟨g1, g2, g3, g4⟩, ⟨g5, g6, g7, g8⟩, ⟨g9, g10, g11⟩, ⟨g12, g13, g14, g15⟩, gf⟩ := stBlk_cells hB4
  have hBl := blk_lt hB4
  go_wp2
  generalize hW5 : World.alloc _ _ = W5
  have hB5 : W5.heap[B]? = some (stBlk ⟨9, Tk.none, t, false, [], [], t⟩ (.slice none 0 0) (.slice none 0 0)) := by
   rw [← hW5]
   simp only [heap_alloc', heap_setCell, size_set', ↓reduceIte, hB4, Option.map_some, cellPut, stBlk, if_neg (show B ≠ W4.heap.size by omega)]
   rfl
  have hs5 : Same [] w W5 := by
   rw [← hW5]
   refine Same.then (S := []) (T := [B]) hs4 ?_ (fun x hx => .inr (by simp at hx; omega))
   exact Same.A
  clear hW5 c15 e0 e1 e2 e3 e4 ef k0 k1 k2 k3 kf g0 g1 g2 g3 g4 g5 g6 g7 g8 g9 g10 g11 g12 g13 g14 g15 gf H4 hb4 hr4 hw4 hB4 hBl hs4
  have H5 := Kd (H.out.same hs5)
  obtain ⟨e0, e1, e2, e3, e4, ef⟩ := H5.out.facts
  have hrow5 := H5.out.out
  rw [hlv] at e1
  rw [Hvo.out] at e0 hrow5
  obtain ⟨g0, ⟨g1, g2, g3, g4⟩, ⟨g5, g6, g7, g8⟩, ⟨g9, g10, g11⟩, ⟨g12, g13, g14, g15⟩, gf⟩ := stBlk_cells hB5
  have hBl := blk_lt hB5
  have hr5 := blk_lt H5.out.blk
  refine region_canon (.read 0 (.read 1 (.read 2 (.read 3 (.read 4 (.read 5 (.one 6 [0, 1, 2, 3, 4] (.one 7 [0] (.read 8 (.read 9 (.one 10 [] (.done)))))))))))) (by kernel_rfl) (by kernel_rfl) ?_
  iterate 6 (refine canon_read rfl (fun K hK => ?_); go_simp; (try go_bits); (try (rw [if_pos (by omega)]; go_simp)); refine hK _ ?_; clear hK K)
  refine canon_oneL rfl ?_
  go_wp2
  refine EQ.A ?_
  refine canon_oneL rfl ?_
  refine wp_push rfl _ _ 62 rfl 73 16 184 _ Tryz.underlying62 Tryz.infoStmt rfl (by decide) (.slice Av R.out.length cv) _ _ rfl (hrow5.same (Same.drew [] _) (by simp)) (St.cells ⟨9, Tk.none, t, false, [], [], t⟩ (.slice none 0 0) (.slice none 0 0)) rfl rfl (St.cells_one _ _ _ rfl rfl) (by omega) (by decide) ?_
  intro v6 W6 hrow6 hsm6 hor6
  obtain ⟨A6, c6, rfl⟩ := hrow6.shape
  rw [← Hvo.out] at hsm6 hor6
  have hb6 := hsm6.get (w := W5.drew) H5.out.blk (by have := H5.out.out.ne H5.out.blk (by decide); simpa using this)
  have c60 := blk_c (i := 0) (v := A.vo) hb6 rfl
  have f60 := blk_free hb6
  go_wp2
  refine EQ.A ?_
  iterate 2 (refine canon_read rfl (fun K hK => ?_); go_simp; (try go_bits); (try (rw [if_pos (by omega)]; go_simp)); refine hK _ ?_; clear hK K)
  refine canon_oneL rfl ?_
  go_wp2
  refine EQ.A ?_
  refine canon_done ?_
  clear e0 e1 e2 e3 e4 ef g0 g1 g2 g3 g4 g5 g6 g7 g8 g9 g10 g11 g12 g13 g14 g15 gf hrow5
  go_wp2
  go_ret
  have hfin := (H5.out.same (Same.drew [] W5)).push (s := ⟨9, Tk.none, t, false, [], [], t⟩) (p := (.slice none 0 0, .slice none 0 0)) hrow6 hsm6 hor6 (Same.setCell W6 ⟨r, 0, none⟩ (.slice A6 (R.out.length + 1) c6) (S := [r]) (by simp)) A.lv A.nv none R.what R.proves
   (by rw [blk_set hb6]; rfl) ⟨Fix.nil _ _ _ _, Fix.nil _ _ _ _⟩ Hlv.out Hnv.out
  rw [Hx.out]
  exact ⟨rfl, _, hfin.1, (Move.of_same (hs5.trans (Same.drew [] W5))).trans hfin.2⟩
end Go.Proofs.YtdhkmfpfbjcdiaaGreatDoor
