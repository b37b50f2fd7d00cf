/- lemmalaw texts, part 19. -/
import Derived.Test.YtbfbgfpghkijdaaGreatDoorYaq
import Derived.Deep.DeepFit
import Derived.Deep.DeepCutAuto
set_option maxRecDepth 100000
set_option linter.unusedVariables false
set_option linter.unusedSimpArgs false
set_option maxHeartbeats 32000000
namespace Go.Proofs.YtbfbgfpghkijdaaGreatDoor
open Go.RowKit
def QE (w : World) (t : Tk) (s : St) (v : Value) (W : World) : Prop := ∃ B : Nat, v = .pointer (some ⟨B, 0, none⟩) ∧ w.heap.size < B ∧ W.heap[B]? = some (Bj s (.slice none 0 0) (.slice none 0 0)) ∧ Ad [] w W ∧ W.heap[w.heap.size]? = some (AP t)
theorem zq11 {P : Prop} (h : P := by
 have hb5 : W5.heap[r]? = some (.cells #[A.vo, .pointer none, A.nv, BI R.what, .bool R.proves] 145 (0, 0)) := by
  rw [← hW5]; simp only [AZ, Az, Ba, ↓reduceIte, H4.out.blk, Option.map_some, AV, if_neg (show r ≠ W4.heap.size by omega), if_neg hrB]; rfl
 have hs5 : Ad [r] w W5 := by
  rw [← hW5]
  refine Ad.then (S := [r]) (T := [r, B]) (hs4.mono (by simp)) ?_ (fun x hx => by simp at hx; rcases hx with rfl | rfl; exact .inl (by simp); exact .inr (by omega))
  exact Ad.A
 clear hW5 c15 e0 e1 e2 e3 e4 ef k0 k1 k2 k3 kf g0 g1 g2 g3 g4 g5 g6 g7 g8 g9 g10 g11 g12 g13 g14 g15 gf l0 l1 l2 l3 lf H4 hb4 hr4 hw4 hB4 hBl hs4
 have e2 := Ai (i := 2) (v := A.nv) hb5 rfl
 have e3 := Ai (i := 3) (v := BI R.what) hb5 rfl
 have e4 := Ai (i := 4) (v := .bool R.proves) hb5 rfl
 have ef := AE hb5
 go_wp2
 go_ret
 rw [Hx.out]
 refine ⟨rfl, _, H.out.begin Hnow.out (B := B) ?_ ?_ ?_ (by omega) rfl rfl⟩
 ·refine Ad.trans hs5 ?_
  exact Ad.A
 ·simp only [Az, ↓reduceIte, hb5, Option.map_some, AV]; rfl
 ·simp only [Az, if_neg hBr, hB5]) : P := h
theorem zq22 {P : Prop} (h : P := by
 have hs24 : Ad [] W2 W4 := hs23.then hs34 (fun x hx => .inr (by simp at hx; omega))
 have hBn : w.heap.size < W2.heap.size := hw2
 clear hB4' hs34 hs3 hs23 H3 hb3 hr3 hw3 hz3 hz3l
 generalize W2.heap.size = B at hB4 hBn ⊢
 have hs4 : Ad [] w W4 := hs02.trans hs24
 have hb4 := hs24.get hb2 (by simp)
 have H4 := Kd (H.out.same hs4)
 clear e0 e1 e2 e3 e4 ef k0 k1 k2 k3 kf
 obtain ⟨e0, e1, e2, e3, e4, ef⟩ := H4.out.facts
 rw [hlv] at e1
 obtain ⟨k0, k1, k2, k3, kf⟩ := At hb4
 have hr4 := Af H4.out.blk
 have hw4 := Af hb4
 clear H2 hb2 hs02 hs24 hs1 hs01 hr2 hw2
 go_wp2
 refine EQ.A ?_
 refine AB ?_
 go_wp2
 go_meet
 exact ⟨B, rfl, hBn, hB4, hs4, hb4⟩) : P := h
theorem zq23 {P : Prop} (h : P := by
 have hs24 : Ad [] W2 W4 := by rw [← hW4]; exact hs23.trans (Ad.alloc _ _ _)
 have hBn : w.heap.size < W3.heap.size := hw3
 clear hW4 hs3 hs23 H3 hb3 hr3 hw3
 generalize W3.heap.size = B at hB4 hBn ⊢
 have hs4 : Ad [] w W4 := hs02.trans hs24
 have hb4 := hs24.get hb2 (by simp)
 have H4 := Kd (H.out.same hs4)
 clear e0 e1 e2 e3 e4 ef k0 k1 k2 k3 kf
 obtain ⟨e0, e1, e2, e3, e4, ef⟩ := H4.out.facts
 rw [hlv] at e1
 obtain ⟨k0, k1, k2, k3, kf⟩ := At hb4
 have hr4 := Af H4.out.blk
 have hw4 := Af hb4
 clear H2 hb2 hs02 hs24 hs1 hs01 hr2 hw2
 go_wp2
 go_meet
 exact ⟨B, rfl, hBn, hB4, hs4, hb4⟩) : P := h
theorem zq48 {P : Prop} (h : P := by
 rw [← hW5]; simp only [AZ, Az, Ba, ↓reduceIte, hB4, Option.map_some, AV, Bj, if_neg (show B ≠ W4.heap.size by omega), if_neg hBr]; rfl) : P := h
theorem O3 (w : World) (r : Nat) (A : RA) (R : Rd) (h : BD w r A R) (t : Tk) (hp : BG t.text = false) (hk : DR t.text = 2) (x : Tk) (hlb : R.label = some x) (hnow : R.now = none) :
  Calls Tryz.prog 56 #[.pointer (some ⟨r, 0, none⟩), .agg #[.string t.text, .int .i64 t.at_.off, .int .i64 t.at_.line, .int .i64 t.at_.col]] w (RdR r A (R.between t) w) := by
 have hpc := Bc t.text
 rw [hp] at hpc
 have hbk := BU t.text
 rw [hk] at hbk
 have H := Kd h
 have hbd := fun w => Bb w 2 (by omega)
 have Hnow := Kd hnow
 have hlt := Af h.blk
 have hla := h.label
 rw [hlb] at hla
 obtain ⟨lb, hlv, hlx, hln⟩ := hla
 have hlbl := Af hlx
 have Hlx := Kd hlx
 have hx : R.between t = (0, ⟨R.out, none, some ⟨3, x, t, false, [], [], Tk.none⟩, 2, false⟩) := by
  have hf : BQ 2 = true := rfl
  simp [Rd.between, B5, hp, hk, hlb, hf]
 have Hx := Kd hx
 have m4 := GG
 clear h hp hk hlx hlb hnow hx
 simp only [BA] at hbd
 dsimp only [BI] at hbk
 go_enter Tryz.func56, Tryz.ntmps56
 go_upto_region 12 with (first
  | (go_at_call 105; refine (hpc _).mono ?_; rintro e w' ⟨rfl, rfl⟩)
  | (go_at_call 106; refine (hbk _).mono ?_; rintro e W1 ⟨rfl, hs1⟩; have hs01 := (Ad.alloc [] w (AP t)).trans hs1)
  | (go_at_call 107; go_must (refine (hbd _).mono ?_; rintro e W2 ⟨rfl, hs2⟩; have hs02 := hs01.trans hs2; have H2 := Kd (H.out.same hs02); obtain ⟨e0, e1, e2, e3, e4, ef⟩ := H2.out.facts; rw [hlv] at e1; have hr2 := Af H2.out.blk; have hb2 := (hs1.trans hs2).get (Aj w (AP t)) (by simp); obtain ⟨k0, k1, k2, k3, kf⟩ := At hb2; have hw2 := Af hb2; clear hs2))
  )
 go_cut [10] (fun v wx => QE w t ⟨3, Tk.none, t, false, [], [], Tk.none⟩ v wx)
 case first =>
  refine AD (.read 0 (.read 2 (.two 1 [2] (.read 3 (.one 4 [0, 2, 1, 3] (.one 5 [] (.done)))) 4 [0, 2] (.one 1 [2, 4] (.read 3 (.one 5 [] (.done))))))) (by kernel_rfl) (by kernel_rfl) ?_
  iterate 2 (refine An rfl (fun K hK => ?_); go_simp; (try go_bits); (try (rw [if_pos (by omega)]; go_simp)); refine hK _ ?_; clear hK K)
  refine By rfl rfl ?_ ?_
  ·go_wp2_with (go_at_call 249; refine (Bf _ _ _ rfl rfl).mono ?_; rintro e' W3 ⟨rfl, hs3⟩)
   have hs23 := (Ad.drew [] W2).trans hs3
   have H3 := Kd (H2.out.same hs23)
   have hb3 := hs23.get hb2 (by simp)
   clear e0 e1 e2 e3 e4 ef k0 k1 k2 k3 kf
   obtain ⟨e0, e1, e2, e3, e4, ef⟩ := H3.out.facts
   rw [hlv] at e1
   obtain ⟨k0, k1, k2, k3, kf⟩ := At hb3
   have hr3 := Af H3.out.blk
   have hw3 := Af hb3
   refine EQ.A ?_
   iterate 1 (refine An rfl (fun K hK => ?_); go_simp; (try go_bits); (try (rw [if_pos (by omega)]; go_simp)); refine hK _ ?_; clear hK K)
   refine Ak rfl ?_
   go_wp2
   refine EQ.A ?_
   refine Ak rfl ?_
   go_wp2
   refine EQ.A ?_
   refine AB ?_
   generalize hW4 : W3.alloc (Obj.cells _ _ _) = W4
   have hB4 : W4.heap[W3.heap.size]? = some (Bj ⟨3, Tk.none, t, false, [], [], Tk.none⟩ (.slice none 0 0) (.slice none 0 0)) := by rw [← hW4]; exact Aj _ _
   exact zq23
  ·go_wp2
   refine EQ.A ?_
   refine Ak rfl ?_
   go_wp2_with (go_at_call 249; refine (Bf _ _ _ rfl rfl).mono ?_; rintro e' W3 ⟨rfl, hs3⟩)
   have hz3 : W3.heap[W2.heap.size]? = some (Bj ⟨0, Tk.none, Tk.none, false, [], [], Tk.none⟩ (.slice none 0 0) (.slice none 0 0)) := hs3.get (b := W2.heap.size) (Aj W2 _) (by simp)
   have hs23 : Ad [] W2 W3 := by
    refine Ad.trans ?_ hs3
    exact Ad.A
   have H3 := Kd (H2.out.same hs23)
   have hb3 := hs23.get hb2 (by simp)
   clear e0 e1 e2 e3 e4 ef k0 k1 k2 k3 kf
   obtain ⟨e0, e1, e2, e3, e4, ef⟩ := H3.out.facts
   rw [hlv] at e1
   obtain ⟨k0, k1, k2, k3, kf⟩ := At hb3
   have hr3 := Af H3.out.blk
   have hw3 := Af hb3
   have hz3l := Af hz3
   refine EQ.A ?_
   iterate 1 (refine An rfl (fun K hK => ?_); go_simp; (try go_bits); (try (rw [if_pos (by omega)]; go_simp)); refine hK _ ?_; clear hK K)
   refine Ak rfl ?_
   refine AU rfl 98 _ _ rfl W2.heap.size _ rfl rfl 98 _ hz3 (by kernel_rfl) rfl (by simp [Value.oneCell']) ?_
   intro W4 hB4' hs34
   have hB4 : W4.heap[W2.heap.size]? = some (Bj ⟨3, Tk.none, t, false, [], [], Tk.none⟩ (.slice none 0 0) (.slice none 0 0)) := hB4'
   exact zq22
 generalize wc = W4 at hcut ⊢
 obtain ⟨B, rfl, hBn, hB4, hs4, hb4⟩ := hcut
 clear e0 e1 e2 e3 e4 ef k0 k1 k2 k3 kf H2 hb2 hs02 hs1 hs01 hr2 hw2
 have H4 := Kd (H.out.same hs4)
 obtain ⟨e0, e1, e2, e3, e4, ef⟩ := H4.out.facts
 rw [hlv] at e1
 obtain ⟨k0, k1, k2, k3, kf⟩ := At hb4
 have hr4 := Af H4.out.blk
 have hw4 := Af hb4
 have c15 := DW
 obtain ⟨g0, ⟨g1, g2, g3, g4⟩, ⟨g5, g6, g7, g8⟩, ⟨g9, g10, g11⟩, ⟨g12, g13, g14, g15⟩, gf⟩ := AS hB4
 have hBl := Af hB4
 have hBr : B ≠ r := by omega
 have hrB : r ≠ B := by omega
 obtain ⟨l0, l1, l2, l3, lf⟩ := At (hs4.get Hlx.out (by simp))
 go_upto_region 21 with fail
 generalize hW5 : World.alloc _ _ = W5
 have hB5 : W5.heap[B]? = some (Bj ⟨3, x, t, false, [], [], Tk.none⟩ (.slice none 0 0) (.slice none 0 0)) := by
  exact zq48
 exact zq11
theorem OM (w : World) (r : Nat) (A : RA) (R : Rd) (h : BD w r A R) (t : Tk) (hp : BG t.text = false) (hk : DR t.text = 3) (x : Tk) (hlb : R.label = some x) (hnow : R.now = none) :
  Calls Tryz.prog 56 #[.pointer (some ⟨r, 0, none⟩), .agg #[.string t.text, .int .i64 t.at_.off, .int .i64 t.at_.line, .int .i64 t.at_.col]] w (RdR r A (R.between t) w) := by
 have hpc := Bc t.text
 rw [hp] at hpc
 have hbk := BU t.text
 rw [hk] at hbk
 have H := Kd h
 have hbd := fun w => Bb w 3 (by omega)
 have Hnow := Kd hnow
 have hlt := Af h.blk
 have hla := h.label
 rw [hlb] at hla
 obtain ⟨lb, hlv, hlx, hln⟩ := hla
 have hlbl := Af hlx
 have Hlx := Kd hlx
 have hx : R.between t = (0, ⟨R.out, none, some ⟨4, x, t, false, [], [], Tk.none⟩, 3, false⟩) := by
  have hf : BQ 3 = true := rfl
  simp [Rd.between, B5, hp, hk, hlb, hf]
 have Hx := Kd hx
 have m4 := GG
 clear h hp hk hlx hlb hnow hx
 simp only [BA] at hbd
 dsimp only [BI] at hbk
 go_enter Tryz.func56, Tryz.ntmps56
 go_upto_region 12 with (first
  | (go_at_call 105; refine (hpc _).mono ?_; rintro e w' ⟨rfl, rfl⟩)
  | (go_at_call 106; refine (hbk _).mono ?_; rintro e W1 ⟨rfl, hs1⟩; have hs01 := (Ad.alloc [] w (AP t)).trans hs1)
  | (go_at_call 107; go_must (refine (hbd _).mono ?_; rintro e W2 ⟨rfl, hs2⟩; have hs02 := hs01.trans hs2; have H2 := Kd (H.out.same hs02); obtain ⟨e0, e1, e2, e3, e4, ef⟩ := H2.out.facts; rw [hlv] at e1; have hr2 := Af H2.out.blk; have hb2 := (hs1.trans hs2).get (Aj w (AP t)) (by simp); obtain ⟨k0, k1, k2, k3, kf⟩ := At hb2; have hw2 := Af hb2; clear hs2))
  )
 go_cut [10] (fun v wx => QE w t ⟨4, Tk.none, t, false, [], [], Tk.none⟩ v wx)
 case first =>
  refine AD (.read 0 (.read 2 (.two 1 [2] (.read 3 (.one 4 [0, 2, 1, 3] (.one 5 [] (.done)))) 4 [0, 2] (.one 1 [2, 4] (.read 3 (.one 5 [] (.done))))))) (by kernel_rfl) (by kernel_rfl) ?_
  iterate 2 (refine An rfl (fun K hK => ?_); go_simp; (try go_bits); (try (rw [if_pos (by omega)]; go_simp)); refine hK _ ?_; clear hK K)
  refine By rfl rfl ?_ ?_
  ·go_wp2_with (go_at_call 249; refine (Bf _ _ _ rfl rfl).mono ?_; rintro e' W3 ⟨rfl, hs3⟩)
   have hs23 := (Ad.drew [] W2).trans hs3
   have H3 := Kd (H2.out.same hs23)
   have hb3 := hs23.get hb2 (by simp)
   clear e0 e1 e2 e3 e4 ef k0 k1 k2 k3 kf
   obtain ⟨e0, e1, e2, e3, e4, ef⟩ := H3.out.facts
   rw [hlv] at e1
   obtain ⟨k0, k1, k2, k3, kf⟩ := At hb3
   have hr3 := Af H3.out.blk
   have hw3 := Af hb3
   refine EQ.A ?_
   iterate 1 (refine An rfl (fun K hK => ?_); go_simp; (try go_bits); (try (rw [if_pos (by omega)]; go_simp)); refine hK _ ?_; clear hK K)
   refine Ak rfl ?_
   go_wp2
   refine EQ.A ?_
   refine Ak rfl ?_
   go_wp2
   refine EQ.A ?_
   refine AB ?_
   generalize hW4 : W3.alloc (Obj.cells _ _ _) = W4
   have hB4 : W4.heap[W3.heap.size]? = some (Bj ⟨4, Tk.none, t, false, [], [], Tk.none⟩ (.slice none 0 0) (.slice none 0 0)) := by rw [← hW4]; exact Aj _ _
   exact zq23
  ·go_wp2
   refine EQ.A ?_
   refine Ak rfl ?_
   go_wp2_with (go_at_call 249; refine (Bf _ _ _ rfl rfl).mono ?_; rintro e' W3 ⟨rfl, hs3⟩)
   have hz3 : W3.heap[W2.heap.size]? = some (Bj ⟨0, Tk.none, Tk.none, false, [], [], Tk.none⟩ (.slice none 0 0) (.slice none 0 0)) := hs3.get (b := W2.heap.size) (Aj W2 _) (by simp)
   have hs23 : Ad [] W2 W3 := by
    refine Ad.trans ?_ hs3
    exact Ad.A
   have H3 := Kd (H2.out.same hs23)
   have hb3 := hs23.get hb2 (by simp)
   clear e0 e1 e2 e3 e4 ef k0 k1 k2 k3 kf
   obtain ⟨e0, e1, e2, e3, e4, ef⟩ := H3.out.facts
   rw [hlv] at e1
   obtain ⟨k0, k1, k2, k3, kf⟩ := At hb3
   have hr3 := Af H3.out.blk
   have hw3 := Af hb3
   have hz3l := Af hz3
   refine EQ.A ?_
   iterate 1 (refine An rfl (fun K hK => ?_); go_simp; (try go_bits); (try (rw [if_pos (by omega)]; go_simp)); refine hK _ ?_; clear hK K)
   refine Ak rfl ?_
   refine AU rfl 98 _ _ rfl W2.heap.size _ rfl rfl 98 _ hz3 (by kernel_rfl) rfl (by simp [Value.oneCell']) ?_
   intro W4 hB4' hs34
   have hB4 : W4.heap[W2.heap.size]? = some (Bj ⟨4, Tk.none, t, false, [], [], Tk.none⟩ (.slice none 0 0) (.slice none 0 0)) := hB4'
   exact zq22
 generalize wc = W4 at hcut ⊢
 obtain ⟨B, rfl, hBn, hB4, hs4, hb4⟩ := hcut
 clear e0 e1 e2 e3 e4 ef k0 k1 k2 k3 kf H2 hb2 hs02 hs1 hs01 hr2 hw2
 have H4 := Kd (H.out.same hs4)
 obtain ⟨e0, e1, e2, e3, e4, ef⟩ := H4.out.facts
 rw [hlv] at e1
 obtain ⟨k0, k1, k2, k3, kf⟩ := At hb4
 have hr4 := Af H4.out.blk
 have hw4 := Af hb4
 have c15 := DW
 obtain ⟨g0, ⟨g1, g2, g3, g4⟩, ⟨g5, g6, g7, g8⟩, ⟨g9, g10, g11⟩, ⟨g12, g13, g14, g15⟩, gf⟩ := AS hB4
 have hBl := Af hB4
 have hBr : B ≠ r := by omega
 have hrB : r ≠ B := by omega
 obtain ⟨l0, l1, l2, l3, lf⟩ := At (hs4.get Hlx.out (by simp))
 go_upto_region 21 with fail
 generalize hW5 : World.alloc _ _ = W5
 have hB5 : W5.heap[B]? = some (Bj ⟨4, x, t, false, [], [], Tk.none⟩ (.slice none 0 0) (.slice none 0 0)) := by
  exact zq48
 exact zq11
theorem OO (w : World) (r : Nat) (A : RA) (R : Rd) (h : BD w r A R) (t : Tk) (hp : BG t.text = false) (hk : DR t.text = 5) (x : Tk) (hlb : R.label = some x) (hnow : R.now = none) :
  Calls Tryz.prog 56 #[.pointer (some ⟨r, 0, none⟩), .agg #[.string t.text, .int .i64 t.at_.off, .int .i64 t.at_.line, .int .i64 t.at_.col]] w (RdR r A (R.between t) w) := by
 have hpc := Bc t.text
 rw [hp] at hpc
 have hbk := BU t.text
 rw [hk] at hbk
 have H := Kd h
 have hbd := fun w => Bb w 5 (by omega)
 have Hnow := Kd hnow
 have hlt := Af h.blk
 have hla := h.label
 rw [hlb] at hla
 obtain ⟨lb, hlv, hlx, hln⟩ := hla
 have hlbl := Af hlx
 have Hlx := Kd hlx
 have hx : R.between t = (0, ⟨R.out, none, some ⟨6, x, t, false, [], [], Tk.none⟩, 5, false⟩) := by
  have hf : BQ 5 = true := rfl
  simp [Rd.between, B5, hp, hk, hlb, hf]
 have Hx := Kd hx
 have m4 := GG
 clear h hp hk hlx hlb hnow hx
 simp only [BA] at hbd
 dsimp only [BI] at hbk
 go_enter Tryz.func56, Tryz.ntmps56
 go_upto_region 12 with (first
  | (go_at_call 105; refine (hpc _).mono ?_; rintro e w' ⟨rfl, rfl⟩)
  | (go_at_call 106; refine (hbk _).mono ?_; rintro e W1 ⟨rfl, hs1⟩; have hs01 := (Ad.alloc [] w (AP t)).trans hs1)
  | (go_at_call 107; go_must (refine (hbd _).mono ?_; rintro e W2 ⟨rfl, hs2⟩; have hs02 := hs01.trans hs2; have H2 := Kd (H.out.same hs02); obtain ⟨e0, e1, e2, e3, e4, ef⟩ := H2.out.facts; rw [hlv] at e1; have hr2 := Af H2.out.blk; have hb2 := (hs1.trans hs2).get (Aj w (AP t)) (by simp); obtain ⟨k0, k1, k2, k3, kf⟩ := At hb2; have hw2 := Af hb2; clear hs2))
  )
 go_cut [10] (fun v wx => QE w t ⟨6, Tk.none, t, false, [], [], Tk.none⟩ v wx)
 case first =>
  refine AD (.read 0 (.read 2 (.two 1 [2] (.read 3 (.one 4 [0, 2, 1, 3] (.one 5 [] (.done)))) 4 [0, 2] (.one 1 [2, 4] (.read 3 (.one 5 [] (.done))))))) (by kernel_rfl) (by kernel_rfl) ?_
  iterate 2 (refine An rfl (fun K hK => ?_); go_simp; (try go_bits); (try (rw [if_pos (by omega)]; go_simp)); refine hK _ ?_; clear hK K)
  refine By rfl rfl ?_ ?_
  ·go_wp2_with (go_at_call 249; refine (Bf _ _ _ rfl rfl).mono ?_; rintro e' W3 ⟨rfl, hs3⟩)
   have hs23 := (Ad.drew [] W2).trans hs3
   have H3 := Kd (H2.out.same hs23)
   have hb3 := hs23.get hb2 (by simp)
   clear e0 e1 e2 e3 e4 ef k0 k1 k2 k3 kf
   obtain ⟨e0, e1, e2, e3, e4, ef⟩ := H3.out.facts
   rw [hlv] at e1
   obtain ⟨k0, k1, k2, k3, kf⟩ := At hb3
   have hr3 := Af H3.out.blk
   have hw3 := Af hb3
   refine EQ.A ?_
   iterate 1 (refine An rfl (fun K hK => ?_); go_simp; (try go_bits); (try (rw [if_pos (by omega)]; go_simp)); refine hK _ ?_; clear hK K)
   refine Ak rfl ?_
   go_wp2
   refine EQ.A ?_
   refine Ak rfl ?_
   go_wp2
   refine EQ.A ?_
   refine AB ?_
   generalize hW4 : W3.alloc (Obj.cells _ _ _) = W4
   have hB4 : W4.heap[W3.heap.size]? = some (Bj ⟨6, Tk.none, t, false, [], [], Tk.none⟩ (.slice none 0 0) (.slice none 0 0)) := by rw [← hW4]; exact Aj _ _
   exact zq23
  ·go_wp2
   refine EQ.A ?_
   refine Ak rfl ?_
   go_wp2_with (go_at_call 249; refine (Bf _ _ _ rfl rfl).mono ?_; rintro e' W3 ⟨rfl, hs3⟩)
   have hz3 : W3.heap[W2.heap.size]? = some (Bj ⟨0, Tk.none, Tk.none, false, [], [], Tk.none⟩ (.slice none 0 0) (.slice none 0 0)) := hs3.get (b := W2.heap.size) (Aj W2 _) (by simp)
   have hs23 : Ad [] W2 W3 := by
    refine Ad.trans ?_ hs3
    exact Ad.A
   have H3 := Kd (H2.out.same hs23)
   have hb3 := hs23.get hb2 (by simp)
   clear e0 e1 e2 e3 e4 ef k0 k1 k2 k3 kf
   obtain ⟨e0, e1, e2, e3, e4, ef⟩ := H3.out.facts
   rw [hlv] at e1
   obtain ⟨k0, k1, k2, k3, kf⟩ := At hb3
   have hr3 := Af H3.out.blk
   have hw3 := Af hb3
   have hz3l := Af hz3
   refine EQ.A ?_
   iterate 1 (refine An rfl (fun K hK => ?_); go_simp; (try go_bits); (try (rw [if_pos (by omega)]; go_simp)); refine hK _ ?_; clear hK K)
   refine Ak rfl ?_
   refine AU rfl 98 _ _ rfl W2.heap.size _ rfl rfl 98 _ hz3 (by kernel_rfl) rfl (by simp [Value.oneCell']) ?_
   intro W4 hB4' hs34
   have hB4 : W4.heap[W2.heap.size]? = some (Bj ⟨6, Tk.none, t, false, [], [], Tk.none⟩ (.slice none 0 0) (.slice none 0 0)) := hB4'
   exact zq22
 generalize wc = W4 at hcut ⊢
 obtain ⟨B, rfl, hBn, hB4, hs4, hb4⟩ := hcut
 clear e0 e1 e2 e3 e4 ef k0 k1 k2 k3 kf H2 hb2 hs02 hs1 hs01 hr2 hw2
 have H4 := Kd (H.out.same hs4)
 obtain ⟨e0, e1, e2, e3, e4, ef⟩ := H4.out.facts
 rw [hlv] at e1
 obtain ⟨k0, k1, k2, k3, kf⟩ := At hb4
 have hr4 := Af H4.out.blk
 have hw4 := Af hb4
 have c15 := DW
 obtain ⟨g0, ⟨g1, g2, g3, g4⟩, ⟨g5, g6, g7, g8⟩, ⟨g9, g10, g11⟩, ⟨g12, g13, g14, g15⟩, gf⟩ := AS hB4
 have hBl := Af hB4
 have hBr : B ≠ r := by omega
 have hrB : r ≠ B := by omega
 obtain ⟨l0, l1, l2, l3, lf⟩ := At (hs4.get Hlx.out (by simp))
 go_upto_region 21 with fail
 generalize hW5 : World.alloc _ _ = W5
 have hB5 : W5.heap[B]? = some (Bj ⟨6, x, t, false, [], [], Tk.none⟩ (.slice none 0 0) (.slice none 0 0)) := by
  exact zq48
 exact zq11
theorem OK (w : World) (r : Nat) (A : RA) (R : Rd) (h : BD w r A R) (t : Tk) (hp : BG t.text = false) (hk : DR t.text = 6) (x : Tk) (hlb : R.label = some x) (hnow : R.now = none) :
  Calls Tryz.prog 56 #[.pointer (some ⟨r, 0, none⟩), .agg #[.string t.text, .int .i64 t.at_.off, .int .i64 t.at_.line, .int .i64 t.at_.col]] w (RdR r A (R.between t) w) := by
 have hpc := Bc t.text
 rw [hp] at hpc
 have hbk := BU t.text
 rw [hk] at hbk
 have H := Kd h
 have hbd := fun w => Bb w 6 (by omega)
 have Hnow := Kd hnow
 have hlt := Af h.blk
 have hla := h.label
 rw [hlb] at hla
 obtain ⟨lb, hlv, hlx, hln⟩ := hla
 have hlbl := Af hlx
 have Hlx := Kd hlx
 have hx : R.between t = (0, ⟨R.out, none, some ⟨7, x, t, false, [], [], Tk.none⟩, 6, false⟩) := by
  have hf : BQ 6 = true := rfl
  simp [Rd.between, B5, hp, hk, hlb, hf]
 have Hx := Kd hx
 have m4 := LB
 clear h hp hk hlx hlb hnow hx
 simp only [BA] at hbd
 dsimp only [BI] at hbk
 go_enter Tryz.func56, Tryz.ntmps56
 go_upto_region 12 with (first
  | (go_at_call 105; refine (hpc _).mono ?_; rintro e w' ⟨rfl, rfl⟩)
  | (go_at_call 106; refine (hbk _).mono ?_; rintro e W1 ⟨rfl, hs1⟩; have hs01 := (Ad.alloc [] w (AP t)).trans hs1)
  | (go_at_call 107; go_must (refine (hbd _).mono ?_; rintro e W2 ⟨rfl, hs2⟩; have hs02 := hs01.trans hs2; have H2 := Kd (H.out.same hs02); obtain ⟨e0, e1, e2, e3, e4, ef⟩ := H2.out.facts; rw [hlv] at e1; have hr2 := Af H2.out.blk; have hb2 := (hs1.trans hs2).get (Aj w (AP t)) (by simp); obtain ⟨k0, k1, k2, k3, kf⟩ := At hb2; have hw2 := Af hb2; clear hs2))
  )
 go_cut [10] (fun v wx => QE w t ⟨7, Tk.none, t, false, [], [], Tk.none⟩ v wx)
 case first =>
  refine AD (.read 0 (.read 2 (.two 1 [2] (.read 3 (.one 4 [0, 2, 1, 3] (.one 5 [] (.done)))) 4 [0, 2] (.one 1 [2, 4] (.read 3 (.one 5 [] (.done))))))) (by kernel_rfl) (by kernel_rfl) ?_
  iterate 2 (refine An rfl (fun K hK => ?_); go_simp; (try go_bits); (try (rw [if_pos (by omega)]; go_simp)); refine hK _ ?_; clear hK K)
  refine By rfl rfl ?_ ?_
  ·go_wp2_with (go_at_call 249; refine (Bf _ _ _ rfl rfl).mono ?_; rintro e' W3 ⟨rfl, hs3⟩)
   have hs23 := (Ad.drew [] W2).trans hs3
   have H3 := Kd (H2.out.same hs23)
   have hb3 := hs23.get hb2 (by simp)
   clear e0 e1 e2 e3 e4 ef k0 k1 k2 k3 kf
   obtain ⟨e0, e1, e2, e3, e4, ef⟩ := H3.out.facts
   rw [hlv] at e1
   obtain ⟨k0, k1, k2, k3, kf⟩ := At hb3
   have hr3 := Af H3.out.blk
   have hw3 := Af hb3
   refine EQ.A ?_
   iterate 1 (refine An rfl (fun K hK => ?_); go_simp; (try go_bits); (try (rw [if_pos (by omega)]; go_simp)); refine hK _ ?_; clear hK K)
   refine Ak rfl ?_
   go_wp2
   refine EQ.A ?_
   refine Ak rfl ?_
   go_wp2
   refine EQ.A ?_
   refine AB ?_
   generalize hW4 : W3.alloc (Obj.cells _ _ _) = W4
   have hB4 : W4.heap[W3.heap.size]? = some (Bj ⟨7, Tk.none, t, false, [], [], Tk.none⟩ (.slice none 0 0) (.slice none 0 0)) := by rw [← hW4]; exact Aj _ _
   exact zq23
  ·go_wp2
   refine EQ.A ?_
   refine Ak rfl ?_
   go_wp2_with (go_at_call 249; refine (Bf _ _ _ rfl rfl).mono ?_; rintro e' W3 ⟨rfl, hs3⟩)
   have hz3 : W3.heap[W2.heap.size]? = some (Bj ⟨0, Tk.none, Tk.none, false, [], [], Tk.none⟩ (.slice none 0 0) (.slice none 0 0)) := hs3.get (b := W2.heap.size) (Aj W2 _) (by simp)
   have hs23 : Ad [] W2 W3 := by
    refine Ad.trans ?_ hs3
    exact Ad.A
   have H3 := Kd (H2.out.same hs23)
   have hb3 := hs23.get hb2 (by simp)
   clear e0 e1 e2 e3 e4 ef k0 k1 k2 k3 kf
   obtain ⟨e0, e1, e2, e3, e4, ef⟩ := H3.out.facts
   rw [hlv] at e1
   obtain ⟨k0, k1, k2, k3, kf⟩ := At hb3
   have hr3 := Af H3.out.blk
   have hw3 := Af hb3
   have hz3l := Af hz3
   refine EQ.A ?_
   iterate 1 (refine An rfl (fun K hK => ?_); go_simp; (try go_bits); (try (rw [if_pos (by omega)]; go_simp)); refine hK _ ?_; clear hK K)
   refine Ak rfl ?_
   refine AU rfl 98 _ _ rfl W2.heap.size _ rfl rfl 98 _ hz3 (by kernel_rfl) rfl (by simp [Value.oneCell']) ?_
   intro W4 hB4' hs34
   have hB4 : W4.heap[W2.heap.size]? = some (Bj ⟨7, Tk.none, t, false, [], [], Tk.none⟩ (.slice none 0 0) (.slice none 0 0)) := hB4'
   exact zq22
 generalize wc = W4 at hcut ⊢
 obtain ⟨B, rfl, hBn, hB4, hs4, hb4⟩ := hcut
 clear e0 e1 e2 e3 e4 ef k0 k1 k2 k3 kf H2 hb2 hs02 hs1 hs01 hr2 hw2
 have H4 := Kd (H.out.same hs4)
 obtain ⟨e0, e1, e2, e3, e4, ef⟩ := H4.out.facts
 rw [hlv] at e1
 obtain ⟨k0, k1, k2, k3, kf⟩ := At hb4
 have hr4 := Af H4.out.blk
 have hw4 := Af hb4
 have c15 := HO
 obtain ⟨g0, ⟨g1, g2, g3, g4⟩, ⟨g5, g6, g7, g8⟩, ⟨g9, g10, g11⟩, ⟨g12, g13, g14, g15⟩, gf⟩ := AS hB4
 have hBl := Af hB4
 have hBr : B ≠ r := by omega
 have hrB : r ≠ B := by omega
 obtain ⟨l0, l1, l2, l3, lf⟩ := At (hs4.get Hlx.out (by simp))
 go_upto_region 21 with fail
 generalize hW5 : World.alloc _ _ = W5
 have hB5 : W5.heap[B]? = some (Bj ⟨7, x, t, false, [], [], Tk.none⟩ (.slice none 0 0) (.slice none 0 0)) := by
  exact zq48
 exact zq11
end Go.Proofs.YtbfbgfpghkijdaaGreatDoor
