/- lemmalaw texts, part 21. -/
import Derived.Test.YtdhkmfpfbjcdiaaGreatDoorYas
import Derived.Deep.DeepFit
set_option maxRecDepth 100000
set_option linter.unusedVariables false
set_option linter.unusedSimpArgs false
set_option maxHeartbeats 32000000
namespace Go.Proofs.YtdhkmfpfbjcdiaaGreatDoor
open Go.RowKit
theorem between_c (w : World) (r : Nat) (A : RA) (R : Rd) (h : RdAt w r A R) (t : Tk) (hp : plainB t.text = false) (hk : keyN t.text = 0) (hlb : R.label = none) (hnow : R.now = none) :
  Calls Tryz.prog 59 #[.pointer (some ⟨r, 0, none⟩), .agg #[.string t.text, .int .i64 t.at_.off, .int .i64 t.at_.line, .int .i64 t.at_.col]] w (RdR r A (R.between t) w) := by
 have hpc := plain_calls t.text
 rw [hp] at hpc
 have hbk := byKey_calls t.text
 rw [hk] at hbk
 have H := Kd h
 have hbd := fun w => bounds_calls w 0 (by omega)
 have Hnow := Kd hnow
 have hlt := blk_lt h.blk
 have hla := h.label
 rw [hlb] at hla
 have hlv : A.lv = .pointer none := hla
 have hx : R.between t = (0, ⟨R.out, none, some ⟨1, Tk.none, t, false, [], [], Tk.none⟩, 0, false⟩) := by
  have hf : formLab 0 = false := rfl
  simp [Rd.between, plainT, hp, hk, hlb, hf]
 have Hx := Kd hx
 have m4 := methk_list
 clear h hp hk hla hlb hnow hx
 simp only [formLab_vals] at hbd
 dsimp only [formV] at hbk
 go_enter Tryz.func59, Tryz.ntmps59
 go_wp2_with (first
  | (go_at_call 112; refine (hpc _).mono ?_; rintro e w' ⟨rfl, rfl⟩)
  | (go_at_call 113; refine (hbk _).mono ?_; rintro e W1 ⟨rfl, hs1⟩; have hs01 := (Same.alloc [] w (tokBlk t)).trans hs1)
  | (go_at_call 114; go_must (refine (hbd _).mono ?_; rintro e W2 ⟨rfl, hs2⟩; have hs02 := hs01.trans hs2; have H2 := Kd (H.out.same hs02); obtain ⟨e0, e1, e2, e3, e4, ef⟩ := H2.out.facts; rw [hlv] at e1; have hr2 := blk_lt H2.out.blk; have hb2 := (hs1.trans hs2).get (blk_new w (tokBlk t)) (by simp); obtain ⟨k0, k1, k2, k3, kf⟩ := tokBlk_cells hb2; have hw2 := blk_lt hb2; clear hs2))
  )
 refine region_canon (.read 0 (.read 2 (.two 1 [2] (.read 3 (.one 4 [0, 2, 1, 3] (.one 5 [] (.done)))) 4 [0, 2] (.one 1 [2, 4] (.read 3 (.one 5 [] (.done))))))) (by kernel_rfl) (by kernel_rfl) ?_
 iterate 2 (refine canon_read rfl (fun K hK => ?_); go_simp; (try go_bits); (try (rw [if_pos (by omega)]; go_simp)); refine hK _ ?_; clear hK K)
 refine canon_twoL rfl rfl ?_ ?_
 ·go_wp2_with (go_at_call 236; refine (kindOf_calls _ _ _ rfl rfl).mono ?_; rintro e' W3 ⟨rfl, hs3⟩)
  have hs23 := (Same.drew [] W2).trans hs3
  have H3 := Kd (H2.out.same hs23)
  have hb3 := hs23.get hb2 (by simp)
  clear e0 e1 e2 e3 e4 ef k0 k1 k2 k3 kf
  obtain ⟨e0, e1, e2, e3, e4, ef⟩ := H3.out.facts
  rw [hlv] at e1
  obtain ⟨k0, k1, k2, k3, kf⟩ := tokBlk_cells hb3
  have hr3 := blk_lt H3.out.blk
  have hw3 := blk_lt hb3
  refine EQ.A ?_
  iterate 1 (refine canon_read rfl (fun K hK => ?_); go_simp; (try go_bits); (try (rw [if_pos (by omega)]; go_simp)); refine hK _ ?_; clear hK K)
  refine canon_oneL rfl ?_
  go_wp2
  refine EQ.A ?_
  refine canon_oneL rfl ?_
  go_wp2
  refine EQ.A ?_
  refine canon_done ?_
  generalize hW4 : W3.alloc (Obj.cells _ _ _) = W4
  have hB4 : W4.heap[W3.heap.size]? = some (stBlk ⟨1, Tk.none, t, false, [], [], Tk.none⟩ (.slice none 0 0) (.slice none 0 0)) := by rw [← hW4]; exact blk_new _ _
  have hs24 : Same [] W2 W4 := by rw [← hW4]; exact hs23.trans (Same.alloc _ _ _)
  have hBn : w.heap.size < W3.heap.size := hw3
  clear hW4 hs3 hs23 H3 hb3 hr3 hw3
  generalize W3.heap.size = B at hB4 hBn ⊢
  have hs4 : Same [] w W4 := hs02.trans hs24
  have hb4 := hs24.get hb2 (by simp)
  have H4 := Kd (H.out.same hs4)
  clear e0 e1 e2 e3 e4 ef k0 k1 k2 k3 kf
  obtain ⟨e0, e1, e2, e3, e4, ef⟩ := H4.out.facts
  rw [hlv] at e1
  obtain ⟨k0, k1, k2, k3, kf⟩ := tokBlk_cells hb4
  have hr4 := blk_lt H4.out.blk
  have hw4 := blk_lt hb4
  clear H2 hb2 hs02 hs24 hs1 hs01 hr2 hw2
  have c15 := as_list_bracket
  obtain ⟨g0, ⟨g1, g2, g3, g4⟩, ⟨g5, g6, g7, g8⟩, ⟨g9, g10, g11⟩, ⟨g12, g13, g14, g15⟩, gf⟩ := stBlk_cells hB4
  have hBl := blk_lt hB4
  have hBr : B ≠ r := by omega
  have hrB : r ≠ B := by omega
  go_wp2
  go_ret
  rw [Hx.out]
  refine ⟨rfl, _, H.out.begin Hnow.out (B := B) ?_ ?_ ?_ (by omega) rfl rfl⟩
  ·refine Same.then (S := [r]) (T := [r, B]) (hs4.mono (by simp)) ?_ (fun x hx => by simp at hx; rcases hx with rfl | rfl; exact .inl (by simp); exact .inr (by omega))
   exact Same.A
  ·simp only [heap_alloc', heap_setCell, size_set', ↓reduceIte, H4.out.blk, Option.map_some, cellPut, if_neg (show r ≠ W4.heap.size by omega), if_neg (show r ≠ B by omega)]; first | rfl | (rw [hlv]; rfl)
  ·simp only [heap_alloc', heap_setCell, size_set', ↓reduceIte, hB4, Option.map_some, cellPut, stBlk, if_neg (show B ≠ W4.heap.size by omega), if_neg (show B ≠ r by omega)] <;> rfl
 ·go_wp2
  refine EQ.A ?_
  refine canon_oneL rfl ?_
  go_wp2_with (go_at_call 236; refine (kindOf_calls _ _ _ rfl rfl).mono ?_; rintro e' W3 ⟨rfl, hs3⟩)
  have hz3 : W3.heap[W2.heap.size]? = some (stBlk ⟨0, Tk.none, Tk.none, false, [], [], Tk.none⟩ (.slice none 0 0) (.slice none 0 0)) := hs3.get (b := W2.heap.size) (blk_new W2 _) (by simp)
  have hs23 : Same [] W2 W3 := by
   refine Same.trans ?_ hs3
   exact Same.A
  have H3 := Kd (H2.out.same hs23)
  have hb3 := hs23.get hb2 (by simp)
  clear e0 e1 e2 e3 e4 ef k0 k1 k2 k3 kf
  obtain ⟨e0, e1, e2, e3, e4, ef⟩ := H3.out.facts
  rw [hlv] at e1
  obtain ⟨k0, k1, k2, k3, kf⟩ := tokBlk_cells hb3
  have hr3 := blk_lt H3.out.blk
  have hw3 := blk_lt hb3
  have hz3l := blk_lt hz3
  refine EQ.A ?_
  iterate 1 (refine canon_read rfl (fun K hK => ?_); go_simp; (try go_bits); (try (rw [if_pos (by omega)]; go_simp)); refine hK _ ?_; clear hK K)
  refine canon_oneL rfl ?_
  refine wp_stRow rfl 73 _ _ rfl W2.heap.size _ rfl rfl 73 _ hz3 (by kernel_rfl) rfl (by simp [Value.oneCell']) ?_
  intro W4 hB4' hs34
  have hB4 : W4.heap[W2.heap.size]? = some (stBlk ⟨1, Tk.none, t, false, [], [], Tk.none⟩ (.slice none 0 0) (.slice none 0 0)) := hB4'
  have hs24 : Same [] W2 W4 := hs23.then hs34 (fun x hx => .inr (by simp at hx; omega))
  have hBn : w.heap.size < W2.heap.size := hw2
  clear hB4' hs34 hs3 hs23 H3 hb3 hr3 hw3 hz3 hz3l
  generalize W2.heap.size = B at hB4 hBn ⊢
  have hs4 : Same [] w W4 := hs02.trans hs24
  have hb4 := hs24.get hb2 (by simp)
  have H4 := Kd (H.out.same hs4)
  clear e0 e1 e2 e3 e4 ef k0 k1 k2 k3 kf
  obtain ⟨e0, e1, e2, e3, e4, ef⟩ := H4.out.facts
  rw [hlv] at e1
  obtain ⟨k0, k1, k2, k3, kf⟩ := tokBlk_cells hb4
  have hr4 := blk_lt H4.out.blk
  have hw4 := blk_lt hb4
  clear H2 hb2 hs02 hs24 hs1 hs01 hr2 hw2
  go_wp2
  refine EQ.A ?_
  refine canon_done ?_
  have c15 := as_list_bracket
  obtain ⟨g0, ⟨g1, g2, g3, g4⟩, ⟨g5, g6, g7, g8⟩, ⟨g9, g10, g11⟩, ⟨g12, g13, g14, g15⟩, gf⟩ := stBlk_cells hB4
  have hBl := blk_lt hB4
  have hBr : B ≠ r := by omega
  have hrB : r ≠ B := by omega
  go_wp2
  go_ret
  rw [Hx.out]
  refine ⟨rfl, _, H.out.begin Hnow.out (B := B) ?_ ?_ ?_ (by omega) rfl rfl⟩
  ·refine Same.then (S := [r]) (T := [r, B]) (hs4.mono (by simp)) ?_ (fun x hx => by simp at hx; rcases hx with rfl | rfl; exact .inl (by simp); exact .inr (by omega))
   exact Same.A
  ·simp only [heap_alloc', heap_setCell, size_set', ↓reduceIte, H4.out.blk, Option.map_some, cellPut, if_neg (show r ≠ W4.heap.size by omega), if_neg (show r ≠ B by omega)]; first | rfl | (rw [hlv]; rfl)
  ·simp only [heap_alloc', heap_setCell, size_set', ↓reduceIte, hB4, Option.map_some, cellPut, stBlk, if_neg (show B ≠ W4.heap.size by omega), if_neg (show B ≠ r by omega)] <;> rfl
theorem between_v (w : World) (r : Nat) (A : RA) (R : Rd) (h : RdAt w r A R) (t : Tk) (hp : plainB t.text = false) (hk : keyN t.text = 1) (hlb : R.label = none) (hnow : R.now = none) :
  Calls Tryz.prog 59 #[.pointer (some ⟨r, 0, none⟩), .agg #[.string t.text, .int .i64 t.at_.off, .int .i64 t.at_.line, .int .i64 t.at_.col]] w (RdR r A (R.between t) w) := by
 have hpc := plain_calls t.text
 rw [hp] at hpc
 have hbk := byKey_calls t.text
 rw [hk] at hbk
 have H := Kd h
 have hbd := fun w => bounds_calls w 1 (by omega)
 have Hnow := Kd hnow
 have hlt := blk_lt h.blk
 have hla := h.label
 rw [hlb] at hla
 have hlv : A.lv = .pointer none := hla
 have hx : R.between t = (0, ⟨R.out, none, some ⟨2, Tk.none, t, false, [], [], Tk.none⟩, 1, false⟩) := by
  have hf : formLab 1 = false := rfl
  simp [Rd.between, plainT, hp, hk, hlb, hf]
 have Hx := Kd hx
 have m4 := methk_list
 clear h hp hk hla hlb hnow hx
 simp only [formLab_vals] at hbd
 dsimp only [formV] at hbk
 go_enter Tryz.func59, Tryz.ntmps59
 go_wp2_with (first
  | (go_at_call 112; refine (hpc _).mono ?_; rintro e w' ⟨rfl, rfl⟩)
  | (go_at_call 113; refine (hbk _).mono ?_; rintro e W1 ⟨rfl, hs1⟩; have hs01 := (Same.alloc [] w (tokBlk t)).trans hs1)
  | (go_at_call 114; go_must (refine (hbd _).mono ?_; rintro e W2 ⟨rfl, hs2⟩; have hs02 := hs01.trans hs2; have H2 := Kd (H.out.same hs02); obtain ⟨e0, e1, e2, e3, e4, ef⟩ := H2.out.facts; rw [hlv] at e1; have hr2 := blk_lt H2.out.blk; have hb2 := (hs1.trans hs2).get (blk_new w (tokBlk t)) (by simp); obtain ⟨k0, k1, k2, k3, kf⟩ := tokBlk_cells hb2; have hw2 := blk_lt hb2; clear hs2))
  )
 refine region_canon (.read 0 (.read 2 (.two 1 [2] (.read 3 (.one 4 [0, 2, 1, 3] (.one 5 [] (.done)))) 4 [0, 2] (.one 1 [2, 4] (.read 3 (.one 5 [] (.done))))))) (by kernel_rfl) (by kernel_rfl) ?_
 iterate 2 (refine canon_read rfl (fun K hK => ?_); go_simp; (try go_bits); (try (rw [if_pos (by omega)]; go_simp)); refine hK _ ?_; clear hK K)
 refine canon_twoL rfl rfl ?_ ?_
 ·go_wp2_with (go_at_call 236; refine (kindOf_calls _ _ _ rfl rfl).mono ?_; rintro e' W3 ⟨rfl, hs3⟩)
  have hs23 := (Same.drew [] W2).trans hs3
  have H3 := Kd (H2.out.same hs23)
  have hb3 := hs23.get hb2 (by simp)
  clear e0 e1 e2 e3 e4 ef k0 k1 k2 k3 kf
  obtain ⟨e0, e1, e2, e3, e4, ef⟩ := H3.out.facts
  rw [hlv] at e1
  obtain ⟨k0, k1, k2, k3, kf⟩ := tokBlk_cells hb3
  have hr3 := blk_lt H3.out.blk
  have hw3 := blk_lt hb3
  refine EQ.A ?_
  iterate 1 (refine canon_read rfl (fun K hK => ?_); go_simp; (try go_bits); (try (rw [if_pos (by omega)]; go_simp)); refine hK _ ?_; clear hK K)
  refine canon_oneL rfl ?_
  go_wp2
  refine EQ.A ?_
  refine canon_oneL rfl ?_
  go_wp2
  refine EQ.A ?_
  refine canon_done ?_
  generalize hW4 : W3.alloc (Obj.cells _ _ _) = W4
  have hB4 : W4.heap[W3.heap.size]? = some (stBlk ⟨2, Tk.none, t, false, [], [], Tk.none⟩ (.slice none 0 0) (.slice none 0 0)) := by rw [← hW4]; exact blk_new _ _
  have hs24 : Same [] W2 W4 := by rw [← hW4]; exact hs23.trans (Same.alloc _ _ _)
  have hBn : w.heap.size < W3.heap.size := hw3
  clear hW4 hs3 hs23 H3 hb3 hr3 hw3
  generalize W3.heap.size = B at hB4 hBn ⊢
  have hs4 : Same [] w W4 := hs02.trans hs24
  have hb4 := hs24.get hb2 (by simp)
  have H4 := Kd (H.out.same hs4)
  clear e0 e1 e2 e3 e4 ef k0 k1 k2 k3 kf
  obtain ⟨e0, e1, e2, e3, e4, ef⟩ := H4.out.facts
  rw [hlv] at e1
  obtain ⟨k0, k1, k2, k3, kf⟩ := tokBlk_cells hb4
  have hr4 := blk_lt H4.out.blk
  have hw4 := blk_lt hb4
  clear H2 hb2 hs02 hs24 hs1 hs01 hr2 hw2
  have c15 := as_list_bracket
  obtain ⟨g0, ⟨g1, g2, g3, g4⟩, ⟨g5, g6, g7, g8⟩, ⟨g9, g10, g11⟩, ⟨g12, g13, g14, g15⟩, gf⟩ := stBlk_cells hB4
  have hBl := blk_lt hB4
  have hBr : B ≠ r := by omega
  have hrB : r ≠ B := by omega
  go_wp2
  go_ret
  rw [Hx.out]
  refine ⟨rfl, _, H.out.begin Hnow.out (B := B) ?_ ?_ ?_ (by omega) rfl rfl⟩
  ·refine Same.then (S := [r]) (T := [r, B]) (hs4.mono (by simp)) ?_ (fun x hx => by simp at hx; rcases hx with rfl | rfl; exact .inl (by simp); exact .inr (by omega))
   exact Same.A
  ·simp only [heap_alloc', heap_setCell, size_set', ↓reduceIte, H4.out.blk, Option.map_some, cellPut, if_neg (show r ≠ W4.heap.size by omega), if_neg (show r ≠ B by omega)]; first | rfl | (rw [hlv]; rfl)
  ·simp only [heap_alloc', heap_setCell, size_set', ↓reduceIte, hB4, Option.map_some, cellPut, stBlk, if_neg (show B ≠ W4.heap.size by omega), if_neg (show B ≠ r by omega)] <;> rfl
 ·go_wp2
  refine EQ.A ?_
  refine canon_oneL rfl ?_
  go_wp2_with (go_at_call 236; refine (kindOf_calls _ _ _ rfl rfl).mono ?_; rintro e' W3 ⟨rfl, hs3⟩)
  have hz3 : W3.heap[W2.heap.size]? = some (stBlk ⟨0, Tk.none, Tk.none, false, [], [], Tk.none⟩ (.slice none 0 0) (.slice none 0 0)) := hs3.get (b := W2.heap.size) (blk_new W2 _) (by simp)
  have hs23 : Same [] W2 W3 := by
   refine Same.trans ?_ hs3
   exact Same.A
  have H3 := Kd (H2.out.same hs23)
  have hb3 := hs23.get hb2 (by simp)
  clear e0 e1 e2 e3 e4 ef k0 k1 k2 k3 kf
  obtain ⟨e0, e1, e2, e3, e4, ef⟩ := H3.out.facts
  rw [hlv] at e1
  obtain ⟨k0, k1, k2, k3, kf⟩ := tokBlk_cells hb3
  have hr3 := blk_lt H3.out.blk
  have hw3 := blk_lt hb3
  have hz3l := blk_lt hz3
  refine EQ.A ?_
  iterate 1 (refine canon_read rfl (fun K hK => ?_); go_simp; (try go_bits); (try (rw [if_pos (by omega)]; go_simp)); refine hK _ ?_; clear hK K)
  refine canon_oneL rfl ?_
  refine wp_stRow rfl 73 _ _ rfl W2.heap.size _ rfl rfl 73 _ hz3 (by kernel_rfl) rfl (by simp [Value.oneCell']) ?_
  intro W4 hB4' hs34
  have hB4 : W4.heap[W2.heap.size]? = some (stBlk ⟨2, Tk.none, t, false, [], [], Tk.none⟩ (.slice none 0 0) (.slice none 0 0)) := hB4'
  have hs24 : Same [] W2 W4 := hs23.then hs34 (fun x hx => .inr (by simp at hx; omega))
  have hBn : w.heap.size < W2.heap.size := hw2
  clear hB4' hs34 hs3 hs23 H3 hb3 hr3 hw3 hz3 hz3l
  generalize W2.heap.size = B at hB4 hBn ⊢
  have hs4 : Same [] w W4 := hs02.trans hs24
  have hb4 := hs24.get hb2 (by simp)
  have H4 := Kd (H.out.same hs4)
  clear e0 e1 e2 e3 e4 ef k0 k1 k2 k3 kf
  obtain ⟨e0, e1, e2, e3, e4, ef⟩ := H4.out.facts
  rw [hlv] at e1
  obtain ⟨k0, k1, k2, k3, kf⟩ := tokBlk_cells hb4
  have hr4 := blk_lt H4.out.blk
  have hw4 := blk_lt hb4
  clear H2 hb2 hs02 hs24 hs1 hs01 hr2 hw2
  go_wp2
  refine EQ.A ?_
  refine canon_done ?_
  have c15 := as_list_bracket
  obtain ⟨g0, ⟨g1, g2, g3, g4⟩, ⟨g5, g6, g7, g8⟩, ⟨g9, g10, g11⟩, ⟨g12, g13, g14, g15⟩, gf⟩ := stBlk_cells hB4
  have hBl := blk_lt hB4
  have hBr : B ≠ r := by omega
  have hrB : r ≠ B := by omega
  go_wp2
  go_ret
  rw [Hx.out]
  refine ⟨rfl, _, H.out.begin Hnow.out (B := B) ?_ ?_ ?_ (by omega) rfl rfl⟩
  ·refine Same.then (S := [r]) (T := [r, B]) (hs4.mono (by simp)) ?_ (fun x hx => by simp at hx; rcases hx with rfl | rfl; exact .inl (by simp); exact .inr (by omega))
   exact Same.A
  ·simp only [heap_alloc', heap_setCell, size_set', ↓reduceIte, H4.out.blk, Option.map_some, cellPut, if_neg (show r ≠ W4.heap.size by omega), if_neg (show r ≠ B by omega)]; first | rfl | (rw [hlv]; rfl)
  ·simp only [heap_alloc', heap_setCell, size_set', ↓reduceIte, hB4, Option.map_some, cellPut, stBlk, if_neg (show B ≠ W4.heap.size by omega), if_neg (show B ≠ r by omega)] <;> rfl
theorem between_d (w : World) (r : Nat) (A : RA) (R : Rd) (h : RdAt w r A R) (t : Tk) (hp : plainB t.text = false) (hk : keyN t.text = 4) (hlb : R.label = none) (hnow : R.now = none) :
  Calls Tryz.prog 59 #[.pointer (some ⟨r, 0, none⟩), .agg #[.string t.text, .int .i64 t.at_.off, .int .i64 t.at_.line, .int .i64 t.at_.col]] w (RdR r A (R.between t) w) := by
 have hpc := plain_calls t.text
 rw [hp] at hpc
 have hbk := byKey_calls t.text
 rw [hk] at hbk
 have H := Kd h
 have hbd := fun w => bounds_calls w 4 (by omega)
 have Hnow := Kd hnow
 have hlt := blk_lt h.blk
 have hla := h.label
 rw [hlb] at hla
 have hlv : A.lv = .pointer none := hla
 have hx : R.between t = (0, ⟨R.out, none, some ⟨5, Tk.none, t, false, [], [], Tk.none⟩, 4, false⟩) := by
  have hf : formLab 4 = false := rfl
  simp [Rd.between, plainT, hp, hk, hlb, hf]
 have Hx := Kd hx
 have m4 := methk_list
 clear h hp hk hla hlb hnow hx
 simp only [formLab_vals] at hbd
 dsimp only [formV] at hbk
 go_enter Tryz.func59, Tryz.ntmps59
 go_wp2_with (first
  | (go_at_call 112; refine (hpc _).mono ?_; rintro e w' ⟨rfl, rfl⟩)
  | (go_at_call 113; refine (hbk _).mono ?_; rintro e W1 ⟨rfl, hs1⟩; have hs01 := (Same.alloc [] w (tokBlk t)).trans hs1)
  | (go_at_call 114; go_must (refine (hbd _).mono ?_; rintro e W2 ⟨rfl, hs2⟩; have hs02 := hs01.trans hs2; have H2 := Kd (H.out.same hs02); obtain ⟨e0, e1, e2, e3, e4, ef⟩ := H2.out.facts; rw [hlv] at e1; have hr2 := blk_lt H2.out.blk; have hb2 := (hs1.trans hs2).get (blk_new w (tokBlk t)) (by simp); obtain ⟨k0, k1, k2, k3, kf⟩ := tokBlk_cells hb2; have hw2 := blk_lt hb2; clear hs2))
  )
 refine region_canon (.read 0 (.read 2 (.two 1 [2] (.read 3 (.one 4 [0, 2, 1, 3] (.one 5 [] (.done)))) 4 [0, 2] (.one 1 [2, 4] (.read 3 (.one 5 [] (.done))))))) (by kernel_rfl) (by kernel_rfl) ?_
 iterate 2 (refine canon_read rfl (fun K hK => ?_); go_simp; (try go_bits); (try (rw [if_pos (by omega)]; go_simp)); refine hK _ ?_; clear hK K)
 refine canon_twoL rfl rfl ?_ ?_
 ·go_wp2_with (go_at_call 236; refine (kindOf_calls _ _ _ rfl rfl).mono ?_; rintro e' W3 ⟨rfl, hs3⟩)
  have hs23 := (Same.drew [] W2).trans hs3
  have H3 := Kd (H2.out.same hs23)
  have hb3 := hs23.get hb2 (by simp)
  clear e0 e1 e2 e3 e4 ef k0 k1 k2 k3 kf
  obtain ⟨e0, e1, e2, e3, e4, ef⟩ := H3.out.facts
  rw [hlv] at e1
  obtain ⟨k0, k1, k2, k3, kf⟩ := tokBlk_cells hb3
  have hr3 := blk_lt H3.out.blk
  have hw3 := blk_lt hb3
  refine EQ.A ?_
  iterate 1 (refine canon_read rfl (fun K hK => ?_); go_simp; (try go_bits); (try (rw [if_pos (by omega)]; go_simp)); refine hK _ ?_; clear hK K)
  refine canon_oneL rfl ?_
  go_wp2
  refine EQ.A ?_
  refine canon_oneL rfl ?_
  go_wp2
  refine EQ.A ?_
  refine canon_done ?_
  generalize hW4 : W3.alloc (Obj.cells _ _ _) = W4
  have hB4 : W4.heap[W3.heap.size]? = some (stBlk ⟨5, Tk.none, t, false, [], [], Tk.none⟩ (.slice none 0 0) (.slice none 0 0)) := by rw [← hW4]; exact blk_new _ _
  have hs24 : Same [] W2 W4 := by rw [← hW4]; exact hs23.trans (Same.alloc _ _ _)
  have hBn : w.heap.size < W3.heap.size := hw3
  clear hW4 hs3 hs23 H3 hb3 hr3 hw3
  generalize W3.heap.size = B at hB4 hBn ⊢
  have hs4 : Same [] w W4 := hs02.trans hs24
  have hb4 := hs24.get hb2 (by simp)
  have H4 := Kd (H.out.same hs4)
  clear e0 e1 e2 e3 e4 ef k0 k1 k2 k3 kf
  obtain ⟨e0, e1, e2, e3, e4, ef⟩ := H4.out.facts
  rw [hlv] at e1
  obtain ⟨k0, k1, k2, k3, kf⟩ := tokBlk_cells hb4
  have hr4 := blk_lt H4.out.blk
  have hw4 := blk_lt hb4
  clear H2 hb2 hs02 hs24 hs1 hs01 hr2 hw2
  have c15 := as_list_bracket
  obtain ⟨g0, ⟨g1, g2, g3, g4⟩, ⟨g5, g6, g7, g8⟩, ⟨g9, g10, g11⟩, ⟨g12, g13, g14, g15⟩, gf⟩ := stBlk_cells hB4
  have hBl := blk_lt hB4
  have hBr : B ≠ r := by omega
  have hrB : r ≠ B := by omega
  go_wp2
  go_ret
  rw [Hx.out]
  refine ⟨rfl, _, H.out.begin Hnow.out (B := B) ?_ ?_ ?_ (by omega) rfl rfl⟩
  ·refine Same.then (S := [r]) (T := [r, B]) (hs4.mono (by simp)) ?_ (fun x hx => by simp at hx; rcases hx with rfl | rfl; exact .inl (by simp); exact .inr (by omega))
   exact Same.A
  ·simp only [heap_alloc', heap_setCell, size_set', ↓reduceIte, H4.out.blk, Option.map_some, cellPut, if_neg (show r ≠ W4.heap.size by omega), if_neg (show r ≠ B by omega)]; first | rfl | (rw [hlv]; rfl)
  ·simp only [heap_alloc', heap_setCell, size_set', ↓reduceIte, hB4, Option.map_some, cellPut, stBlk, if_neg (show B ≠ W4.heap.size by omega), if_neg (show B ≠ r by omega)] <;> rfl
 ·go_wp2
  refine EQ.A ?_
  refine canon_oneL rfl ?_
  go_wp2_with (go_at_call 236; refine (kindOf_calls _ _ _ rfl rfl).mono ?_; rintro e' W3 ⟨rfl, hs3⟩)
  have hz3 : W3.heap[W2.heap.size]? = some (stBlk ⟨0, Tk.none, Tk.none, false, [], [], Tk.none⟩ (.slice none 0 0) (.slice none 0 0)) := hs3.get (b := W2.heap.size) (blk_new W2 _) (by simp)
  have hs23 : Same [] W2 W3 := by
   refine Same.trans ?_ hs3
   exact Same.A
  have H3 := Kd (H2.out.same hs23)
  have hb3 := hs23.get hb2 (by simp)
  clear e0 e1 e2 e3 e4 ef k0 k1 k2 k3 kf
  obtain ⟨e0, e1, e2, e3, e4, ef⟩ := H3.out.facts
  rw [hlv] at e1
  obtain ⟨k0, k1, k2, k3, kf⟩ := tokBlk_cells hb3
  have hr3 := blk_lt H3.out.blk
  have hw3 := blk_lt hb3
  have hz3l := blk_lt hz3
  refine EQ.A ?_
  iterate 1 (refine canon_read rfl (fun K hK => ?_); go_simp; (try go_bits); (try (rw [if_pos (by omega)]; go_simp)); refine hK _ ?_; clear hK K)
  refine canon_oneL rfl ?_
  refine wp_stRow rfl 73 _ _ rfl W2.heap.size _ rfl rfl 73 _ hz3 (by kernel_rfl) rfl (by simp [Value.oneCell']) ?_
  intro W4 hB4' hs34
  have hB4 : W4.heap[W2.heap.size]? = some (stBlk ⟨5, Tk.none, t, false, [], [], Tk.none⟩ (.slice none 0 0) (.slice none 0 0)) := hB4'
  have hs24 : Same [] W2 W4 := hs23.then hs34 (fun x hx => .inr (by simp at hx; omega))
  have hBn : w.heap.size < W2.heap.size := hw2
  clear hB4' hs34 hs3 hs23 H3 hb3 hr3 hw3 hz3 hz3l
  generalize W2.heap.size = B at hB4 hBn ⊢
  have hs4 : Same [] w W4 := hs02.trans hs24
  have hb4 := hs24.get hb2 (by simp)
  have H4 := Kd (H.out.same hs4)
  clear e0 e1 e2 e3 e4 ef k0 k1 k2 k3 kf
  obtain ⟨e0, e1, e2, e3, e4, ef⟩ := H4.out.facts
  rw [hlv] at e1
  obtain ⟨k0, k1, k2, k3, kf⟩ := tokBlk_cells hb4
  have hr4 := blk_lt H4.out.blk
  have hw4 := blk_lt hb4
  clear H2 hb2 hs02 hs24 hs1 hs01 hr2 hw2
  go_wp2
  refine EQ.A ?_
  refine canon_done ?_
  have c15 := as_list_bracket
  obtain ⟨g0, ⟨g1, g2, g3, g4⟩, ⟨g5, g6, g7, g8⟩, ⟨g9, g10, g11⟩, ⟨g12, g13, g14, g15⟩, gf⟩ := stBlk_cells hB4
  have hBl := blk_lt hB4
  have hBr : B ≠ r := by omega
  have hrB : r ≠ B := by omega
  go_wp2
  go_ret
  rw [Hx.out]
  refine ⟨rfl, _, H.out.begin Hnow.out (B := B) ?_ ?_ ?_ (by omega) rfl rfl⟩
  ·refine Same.then (S := [r]) (T := [r, B]) (hs4.mono (by simp)) ?_ (fun x hx => by simp at hx; rcases hx with rfl | rfl; exact .inl (by simp); exact .inr (by omega))
   exact Same.A
  ·simp only [heap_alloc', heap_setCell, size_set', ↓reduceIte, H4.out.blk, Option.map_some, cellPut, if_neg (show r ≠ W4.heap.size by omega), if_neg (show r ≠ B by omega)]; first | rfl | (rw [hlv]; rfl)
  ·simp only [heap_alloc', heap_setCell, size_set', ↓reduceIte, hB4, Option.map_some, cellPut, stBlk, if_neg (show B ≠ W4.heap.size by omega), if_neg (show B ≠ r by omega)] <;> rfl
end Go.Proofs.YtdhkmfpfbjcdiaaGreatDoor
