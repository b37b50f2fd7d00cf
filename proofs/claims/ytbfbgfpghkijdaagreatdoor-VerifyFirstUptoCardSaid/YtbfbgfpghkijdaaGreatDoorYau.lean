/- lemmalaw texts, part 21. -/
import Derived.Test.YtbfbgfpghkijdaaGreatDoorYah
import Derived.Test.YtbfbgfpghkijdaaGreatDoorYal
import Derived.Test.YtbfbgfpghkijdaaGreatDoorYaq
import Derived.Test.YtbfbgfpghkijdaaGreatDoorYar
import Derived.Test.YtbfbgfpghkijdaaGreatDoorYas
import Derived.Test.YtbfbgfpghkijdaaGreatDoorYat
import Derived.Deep.DeepFit
import Derived.Deep.DeepCutAuto
set_option maxRecDepth 100000
set_option linter.unusedVariables false
set_option linter.unusedSimpArgs false
set_option maxHeartbeats 32000000
namespace Go.Proofs.YtbfbgfpghkijdaaGreatDoor
open Go.RowKit
theorem zq0 {P : Prop} (h : P := by
 rw [h6'] at hbd
 clear h hp hpr hx hnow hB rw1 rp1 q1 hno h6 h6'
 go_enter Tryz.func57, Tryz.ntmps57
 go_upto_region 18 with (first
  | (go_at_call 105; refine (hpc _).mono ?_; rintro e w' ⟨rfl, hw⟩; obtain rfl := hw.symm)
  | (go_at_call 107; go_must (refine (hbd _).mono ?_; rintro e W2 ⟨rfl, hs2⟩; have hs02 := (Ad.alloc [] w (AP t)).trans hs2; have H2 := Kd (H.out.same hs02); have hB2 := hs02.get HB.out (by simp); have hb2 := hs2.get (Aj w (AP t)) (by simp); obtain ⟨c0, c1, c2, c3, c4, cf⟩ := H2.out.facts; rw [hnv] at c2; rw [hvo] at c0; rw [Hpr.out] at c4; obtain ⟨g0, ⟨g1, g2, g3, g4⟩, ⟨g5, g6, g7, g8⟩, ⟨g9, g10, g11⟩, ⟨g12, g13, g14, g15⟩, gf⟩ := AS hB2; rw [hnw] at g10; rw [hnp] at g11; obtain ⟨k0, k1, k2, k3, kf⟩ := At hb2; have hr2 := Af H2.out.blk; have hBl2 := Af hB2; have hw2 := Af hb2; have HB2 := Kd hB2; have Hb2 := Kd hb2; clear hs2 hB2 hb2))
  )
 generalize hW5 : World.setCell _ _ _ = W5
 have hb2 := H2.out.blk
 have h5 := H2.out.nowUpd (w' := W5) (s' := { s with end_ := t }) (nw' := A.nw) (np' := A.np) (pr := R.proves) Hnow.out hnv (by
  rw [← hW5]
  exact Ad.A
  ) (by rw [← hW5]; simp only [Az, if_neg hrB, hb2]) (by rw [← hW5]; simp only [Az, ↓reduceIte, HB2.out, Option.map_some, AV]; rfl)
  ((Hrw.out.same hs02 (by simp)).same (S := [B]) (by
   rw [← hW5]
   exact Ad.A
   ) (fun b hb hm => by simp at hm; subst hm; exact d3 hb))
  ((Hrp.out.same hs02 (by simp)).same (S := [B]) (by
   rw [← hW5]
   exact Ad.A
   ) (fun b hb hm => by simp at hm; subst hm; exact d4 hb)) d7 (.inl rfl) (.inl rfl)
 have H5 := Kd h5.1
 have M5 := Kd ((AN.of_same hs02).trans h5.2)
 clear hW5 h5 c0 c1 c2 c3 c4 cf k0 k1 k2 k3 kf g0 g1 g2 g3 g4 g5 g6 g7 g8 g9 g10 g11 g12 g13 g14 g15 gf hb2
 obtain ⟨c0, c1, c2, c3, c4, cf⟩ := H5.out.facts
 dsimp only at c0 c2
 rw [hnv] at c2
 rw [hvo] at c0
 obtain ⟨B', Aw', cw', Ap', cp', hnv', hnw', hnp', hB5, -, -, -, -, -, -, -, rw5, rp5, -, -, -⟩ := H5.out.nowFacts rfl
 have hBB : B' = B := by rw [hnv] at hnv'; cases hnv'; rfl
 subst hBB
 dsimp only at hB5 rw5 rp5
 have HB5 := Kd hB5
 have hr5 := Af H5.out.blk
 have hBl5 := Af hB5
 have Hrw5 := Kd rw5
 have Hrp5 := Kd rp5
 obtain ⟨g0, ⟨g1, g2, g3, g4⟩, ⟨g5, g6, g7, g8⟩, ⟨g9, g10, g11⟩, ⟨g12, g13, g14, g15⟩, gf⟩ := AS hB5
 dsimp only at g0 g1 g2 g3 g4 g5 g6 g7 g8 g9 g10 g11 g12 g13 g14 g15
 rw [hnw] at g10
 rw [hnp] at g11
 have hrow5 := H5.out.out
 dsimp only at hrow5
 rw [hvo] at hrow5
 clear hB5 rw5 rp5 hnv' hnw' hnp'
 refine AD (.read 0 (.read 1 (.read 2 (.read 3 (.read 4 (.read 5 (.read 6 (.read 7 (.one 8 [0, 1, 2, 3, 4] (.one 9 [0] (.read 10 (.read 11 (.one 12 [] (.done)))))))))))))) (by kernel_rfl) (by kernel_rfl) ?_
 iterate 8 (refine An rfl (fun K hK => ?_); go_simp; (try go_bits); (try (rw [if_pos (by omega)]; go_simp)); refine hK _ ?_; clear hK K)
 refine Ak rfl ?_
 go_wp2
 refine EQ.A ?_
 refine Ak rfl ?_
 refine Bh rfl _ _ 86 rfl 98 16 184 _ Tryz.underlying86 Tryz.infoStmt rfl (by decide) (.slice Av R.out.length cv) _ _ rfl (hrow5.same (Ad.drew [] _) (by simp)) (St.cells { s with end_ := t } (.slice Aw s.words.length cw) (.slice Ap s.proof.length cp)) rfl rfl (St.cells_one _ _ _ rfl rfl) (by omega) (by decide) ?_
 intro v6 W6 hrow6 hsm6 hor6
 obtain ⟨A6, c6, rfl⟩ := hrow6.shape
 rw [← Hvo.out] at hsm6 hor6
 have hb6 := hsm6.get (w := W5.drew) H5.out.blk (by simpa using d6)
 have c60 := Ai (i := 0) (v := A.vo) hb6 rfl
 have c62 := Ai (i := 2) (v := A.nv) hb6 rfl
 rw [hnv] at c62
 have f60 := AE hb6
 go_wp2
 refine EQ.A ?_
 iterate 2 (refine An rfl (fun K hK => ?_); go_simp; (try go_bits); (try (rw [if_pos (by omega)]; go_simp)); refine hK _ ?_; clear hK K)
 refine Ak rfl ?_
 go_wp2
 refine EQ.A ?_
 refine AB ?_
 clear c0 c1 c2 c3 c4 cf g0 g1 g2 g3 g4 g5 g6 g7 g8 g9 g10 g11 g12 g13 g14 g15 gf hrow5
 go_wp2
 go_ret
 rw [Hx.out]
 have hne : (Value.slice A6 (R.out.length + 1) c6).ownBlock ≠ some r := by
  rcases hor6 with h | ⟨b, hb, hle⟩
  ·rw [h]; exact d6
  ·rw [hb]; intro e; cases e; have := Af H5.out.blk; exact absurd hle (by simp; omega)
 have hsr : Ad [r] W6 ((W6.setCell ⟨r, 0, none⟩ (.slice A6 (R.out.length + 1) c6)).setCell ⟨r, 2, none⟩ (.pointer none)) := by
  exact Ad.A
 have hfix : ∀ (v : Value) (ws : List Tk), Row W5 59 4 v ws.length (AC ws) → v.ownBlock ≠ some r → Fix ((W6.setCell ⟨r, 0, none⟩ (.slice A6 (R.out.length + 1) c6)).setCell ⟨r, 2, none⟩ (.pointer none))
   (RA.blocks ⟨.slice A6 (R.out.length + 1) c6, A.sv ++ [(A.nw, A.np)], A.lv, .pointer none, .slice none 0 0, .slice none 0 0⟩ r) 59 4 v ws.length (AC ws) := by
  intro v ws hv hvr
  have h6 := (hv.same (Ad.drew [] W5) (by simp)).same hsm6 (fun b hb hm => H5.out.out.ne_row hv (by decide) hb (Option.mem_toList.1 hm))
  refine ⟨h6.same hsr (fun b hb hm => by simp at hm; subst hm; exact hvr hb), fun b hb hm => ?_⟩
  simp only [RA.blocks, List.mem_cons, List.mem_append, Option.mem_toList, Option.mem_def, Jd, Jw, List.not_mem_nil, reduceCtorEq, or_false] at hm
  rcases hm with rfl | hm
  ·exact hvr hb
  ·exact hrow6.ne_row h6 (by decide) hb hm
 have hpush := (H5.out.same (Ad.drew [] W5)).push (s := { s with end_ := t }) (p := (A.nw, A.np)) (by
  show Row W6 _ 16 _ _ (BY R.out A.sv ++ St.cells { s with end_ := t } A.nw A.np)
  rw [hnw, hnp]; exact hrow6) hsm6 hor6 hsr A.lv (.pointer none) R.label R.what R.proves
  (by rw [AI (AI hb6 _ _)]; rfl) ⟨hfix A.nw s.words Hrw5.out d1, hfix A.np s.proof Hrp5.out d2⟩ (H5.out.same (Ad.drew [] W5)).label rfl
 exact ⟨rfl, _, hpush.1, (M5.out.trans (AN.of_same (Ad.drew [] W5))).trans hpush.2⟩) : P := h
theorem ND (w : World) (r : Nat) (A : RA) (R : Rd) (h : BD w r A R) (t : Tk) (s : St) (hnow : R.now = some s) (h9 : R.what < 7) (hp : BG t.text = false) (q1 : t.text.toList = [36, 46]) (pr : Bool) (hpr : R.proves = pr) (hl : ¬ s.words.length < FC R.what) (hno : ¬ (R.what = 6 ∧ R.proves = false)) (hn : R.out.length < 1000000) :
  Calls Tryz.prog 57 #[.pointer (some ⟨r, 0, none⟩), .agg #[.string t.text, .int .i64 t.at_.off, .int .i64 t.at_.line, .int .i64 t.at_.col]] w (RdR r A (R.within s t) w) := by
 have hpc := Bc t.text
 have H := Kd h
 have hbd := fun w => Bb w R.what (by omega)
 obtain ⟨B, Aw, cw, Ap, cp, hnv, hnw, hnp, hB, hBr, d1, d2, d3, d4, d5, d6, rw1, rp1, d7, d8, d9⟩ := h.nowFacts hnow
 obtain ⟨Av, cv, hvo⟩ := h.out.shape
 have HB := Kd hB
 have hlt := Af h.blk
 have hBl := Af hB
 obtain ⟨c0, c1, c2, c3, c4, cf⟩ := h.facts
 rw [hnv] at c2
 rw [hvo] at c0
 have hrB : r ≠ B := fun e => hBr e.symm
 have Hnow := Kd hnow
 have hx : R.within s t = (0, ⟨R.out ++ [{ s with end_ := t }], R.label, none, R.what, R.proves⟩) := by
  have h1 : ¬ t.text.toList = [36, 61] := by rw [q1]; decide
  have h2 : ¬ (s.words.length < FC R.what ∨ R.what = 6 ∧ R.proves = false) := fun h => h.elim hl hno
  unfold Rd.within
  rw [if_neg (by simp [B5, hp]), if_neg (fun h => h1 h.1), if_pos q1, if_neg h2]
 have Hx := Kd hx
 rw [hp] at hpc
 have Hpr := Kd hpr
 have e1 : (t.text.toList == [36, 61]) = false := by rw [q1]; rfl
 have e2 : (t.text.toList == [36, 46]) = true := by rw [q1]; rfl
 have Hrw := Kd rw1
 have Hrp := Kd rp1
 have Hvo := Kd hvo
 rw [hpr] at c4
 by_cases h6 : R.what = 6
 ·have h6' : (R.what == 6) = true := by simpa using h6
  have hpt : pr = true := by
   cases pr with
   | true => rfl
   | false => exact absurd ⟨h6, hpr⟩ hno
  subst hpt
  exact zq0
 ·have h6' : (R.what == 6) = false := by simpa using h6
  exact zq0
structure Rd.Ok (R : Rd) (n : Nat) : Prop where
 out : R.out.length ≤ n
 now : ∀ s, R.now = some s → R.what < 7 ∧ s.words.length ≤ n ∧ s.proof.length ≤ n ∧ R.label = none
theorem zq63 {P : Prop} (h : P := by
 exact ⟨by simp; omega, fun s' hs => by simp at hs; subst hs; exact ⟨h1.1, by simp; omega, by simp; omega, h1.2.2.2⟩⟩) : P := h
theorem Rd.Ok.step {R : Rd} {n : Nat} (h : R.Ok n) (t : Tk) : (R.step t).2.Ok (n + 1) := by
 have ho := h.out
 have hw : R.Ok (n + 1) := ⟨by omega, fun s hs => by have h1 := h.now s hs; exact ⟨h1.1, by omega, by omega, h1.2.2.2⟩⟩
 unfold Rd.step
 cases hn : R.now with
 | none =>
  dsimp only
  unfold Rd.between
  split
  ·split
   ·exact hw
   ·exact ⟨by simp; omega, fun s hs => by simp [hn] at hs⟩
  ·dsimp only
   split
   ·exact hw
   ·split
    ·exact hw
    ·split
     ·exact ⟨by simp; omega, fun s hs => by simp [hn] at hs⟩
     ·rename_i h1 h2 h3 h4
      refine ⟨by simp; omega, fun s hs => ?_⟩
      have := Lh t.text
      simp at hs
      subst hs
      refine ⟨?_, by simp, by simp, rfl⟩
      dsimp only
      omega
 | some s =>
  have h1 := h.now s hn
  dsimp only
  unfold Rd.within
  split
  ·split
   ·exact zq63
   ·split
    ·exact hw
    ·exact zq63
  ·split
   ·split
    ·exact hw
    ·exact zq63
   ·split
    ·split
     ·exact hw
     ·exact ⟨by simp; omega, fun s' hs => by simp at hs⟩
    ·exact hw
theorem Kz (w : World) (r : Nat) (A : RA) (R : Rd) (h : BD w r A R) (t : Tk) (hnow : R.now = none) {n : Nat} (hok : R.Ok n) (hn : n < 900000) :
  Calls Tryz.prog 56 #[.pointer (some ⟨r, 0, none⟩), .agg #[.string t.text, .int .i64 t.at_.off, .int .i64 t.at_.line, .int .i64 t.at_.col]] w (RdR r A (R.between t) w) := by
 have hout := hok.out
 cases hp : BG t.text with
 | true => exact KI w r A R h t hp
 | false =>
  by_cases h9 : DR t.text = 9
  ·exact LH w r A R h t hp h9
  ·have hlt : DR t.text < 9 := by have := Lh t.text; omega
   by_cases hl : BQ (DR t.text) = R.label.isSome
   ·rcases RT _ hlt with hk | hk | hk | hk | hk | hk | hk | hk | hk
    all_goals
     rw [hk] at hl
     cases hlb : R.label with
     | none =>
      first
       | exact Pn w r A R h t hp hk hlb hnow
       | exact O8 w r A R h t hp hk hlb hnow
       | exact OG w r A R h t hp hk hlb hnow
       | exact LI w r A R h t hp hk hlb hnow (by omega)
       | exact Kq w r A R h t hp hk hlb hnow (by omega)
       | (rw [hlb] at hl; cases hl)
     | some x =>
      first
       | exact O3 w r A R h t hp hk x hlb hnow
       | exact OM w r A R h t hp hk x hlb hnow
       | exact OO w r A R h t hp hk x hlb hnow
       | exact OK w r A R h t hp hk x hlb hnow
       | (rw [hlb] at hl; cases hl)
   ·exact Nc w r A R h t hp _ rfl hlt hl
theorem L3 (w : World) (r : Nat) (A : RA) (R : Rd) (h : BD w r A R) (t : Tk) (s : St) (hnow : R.now = some s) {n : Nat} (hok : R.Ok n) (hn : n < 900000) :
  Calls Tryz.prog 57 #[.pointer (some ⟨r, 0, none⟩), .agg #[.string t.text, .int .i64 t.at_.off, .int .i64 t.at_.line, .int .i64 t.at_.col]] w (RdR r A (R.within s t) w) := by
 have hout := hok.out
 obtain ⟨h7, hw, hpf, -⟩ := hok.now s hnow
 cases hp : BG t.text with
 | true =>
  cases hpr : R.proves with
  | true => exact LS w r A R h t s hnow h7 hp hpr (by omega)
  | false =>
   by_cases hm : s.words.length = HH R.what
   ·exact MY w r A R h t s hnow h7 hp hpr hm
   ·exact MT w r A R h t s hnow h7 hp hpr hm (by omega)
 | false =>
  by_cases q1 : t.text.toList = [36, 61]
  ·by_cases hno : R.what = 6 ∧ R.proves = false
   ·by_cases hl : s.words.length < FC R.what
    ·exact KE w r A R h t s hnow h7 hp q1 hno.2 hno.1 hl
    ·exact Pm w r A R h t s hnow h7 hp q1 hno.2 hno.1 hl
   ·exact Lj w r A R h t s hnow h7 hp q1 _ rfl hno
  ·by_cases q2 : t.text.toList = [36, 46]
   ·by_cases hl : s.words.length < FC R.what
    ·exact I1 w r A R h t s hnow h7 hp q2 _ rfl hl
    ·by_cases hno : R.what = 6 ∧ R.proves = false
     ·exact I4 w r A R h t s hnow h7 hp q2 hno.2 hl hno.1
     ·exact ND w r A R h t s hnow h7 hp q2 _ rfl hl hno (by omega)
   ·exact MU w r A R h t s hnow h7 hp q1 q2 _ rfl
def Es (w : World) (v : Value) (l : List St) : Prop := ∃ sv, Row w 98 16 v l.length (BY l sv) ∧ Bm (F3 w []) l sv
theorem F3.all {w : World} {M : List Nat} {s : St} {p : Value × Value} (h : F3 w M s p) : F3 w [] s p := ⟨⟨h.1.row, by simp⟩, ⟨h.2.row, by simp⟩⟩
def Rz (r : Nat) (A : RA) (R : Rd) (w : World) (e : Ending) (w' : World) : Prop := ∃ v M', e = .returned v ∧ Es w' v R.all ∧ AN (A.blocks r) M' w w'
theorem PK (w : World) (r : Nat) (A : RA) (R : Rd) (h : BD w r A R) (hnow : R.now = none) : Calls Tryz.prog 58 #[.pointer (some ⟨r, 0, none⟩)] w (Rz r A R w) := by
 obtain ⟨c0, c1, c2, c3, c4, cf⟩ := h.facts
 have hn := h.now
 rw [hnow] at hn
 rw [hn.1] at c2
 have H := Kd h
 have Hnow := Kd hnow
 clear h hn hnow
 go_enter Tryz.func58, Tryz.ntmps58
 go_wp2
 go_ret
 refine ⟨_, _, rfl, ⟨A.sv, ?_, ?_⟩, AN.refl _ _⟩
 ·have := H.out.out; unfold Rd.all; rw [Hnow.out]; exact this
 ·have := H.out.outs; unfold Rd.all; rw [Hnow.out]; exact this.imp (fun _ _ h => h.all)
theorem Pz (w : World) (r : Nat) (A : RA) (R : Rd) (h : BD w r A R) (s : St) (hnow : R.now = some s) (hn : R.out.length < 1000000) : Calls Tryz.prog 58 #[.pointer (some ⟨r, 0, none⟩)] w (Rz r A R w) := by
 obtain ⟨c0, c1, c2, c3, c4, cf⟩ := h.facts
 obtain ⟨B, Aw, cw, Ap, cp, hnv, hnw, hnp, hB, hBr, d1, d2, d3, d4, d5, d6, rw1, rp1, d7, d8, d9⟩ := h.nowFacts hnow
 obtain ⟨Av, cv, hvo⟩ := h.out.shape
 have HB := Kd hB
 have hlt := Af h.blk
 have hBl := Af hB
 rw [hnv] at c2
 rw [hvo] at c0
 have H := Kd h
 have Hvo := Kd hvo
 have Hnow := Kd hnow
 have Hrw := Kd rw1
 have Hrp := Kd rp1
 have hrow := h.out
 rw [hvo] at hrow
 obtain ⟨g0, ⟨g1, g2, g3, g4⟩, ⟨g5, g6, g7, g8⟩, ⟨g9, g10, g11⟩, ⟨g12, g13, g14, g15⟩, gf⟩ := AS hB
 rw [hnw] at g10
 rw [hnp] at g11
 clear h hnow hB rw1 rp1
 go_enter Tryz.func58, Tryz.ntmps58
 go_wp2
 refine AD (.read 0 (.read 1 (.read 2 (.read 3 (.read 4 (.read 5 (.read 6 (.read 7 (.read 8 (.read 9 (.one 10 [0, 1, 2, 3] (.one 11 [] (.read 12 (.done)))))))))))))) (by kernel_rfl) (by kernel_rfl) ?_
 iterate 10 (refine An rfl (fun K hK => ?_); go_simp; (try go_bits); (try (rw [if_pos (by omega)]; go_simp)); refine hK _ ?_; clear hK K)
 refine Ak rfl ?_
 go_wp2
 refine EQ.A ?_
 refine Ak rfl ?_
 refine Bh rfl _ _ 86 rfl 98 16 184 _ Tryz.underlying86 Tryz.infoStmt rfl (by decide) (.slice Av R.out.length cv) _ _ rfl (hrow.same (Ad.drew [] _) (by simp)) (St.cells s (.slice Aw s.words.length cw) (.slice Ap s.proof.length cp)) rfl rfl (St.cells_one _ _ _ rfl rfl) (by omega) (by decide) ?_
 intro v6 W6 hrow6 hsm6 hor6
 obtain ⟨A6, c6, rfl⟩ := hrow6.shape
 rw [← Hvo.out] at hsm6 hor6
 go_wp2
 refine EQ.A ?_
 iterate 1 (refine An rfl (fun K hK => ?_); go_simp; (try go_bits); (try (rw [if_pos (by omega)]; go_simp)); refine hK _ ?_; clear hK K)
 refine AB ?_
 go_wp2
 go_ret
 have m : AN (A.blocks r) (A.vo.ownBlock.toList) w W6 := by
  refine ⟨fun b hb => .inl ?_, ((Ad.drew [] w).mono (by simp)).trans (hsm6.mono (fun x hx => .inl ?_))⟩
  ·simp only [RA.blocks, List.mem_cons, List.mem_append]; exact .inr (.inl (.inl (.inl hb)))
  ·simp only [RA.blocks, List.mem_cons, List.mem_append]; exact .inr (.inl (.inl (.inl hx)))
 have hfix : ∀ (v : Value) (ws : List Tk), Row w 59 4 v ws.length (AC ws) → Fix W6 [] 59 4 v ws.length (AC ws) := by
  intro v ws hv
  exact ⟨(hv.same (Ad.drew [] w) (by simp)).same hsm6 (fun b hb hm => H.out.out.ne_row hv (by decide) hb (Option.mem_toList.1 hm)), by simp⟩
 refine ⟨.slice A6 (R.out.length + 1) c6, _, rfl, ⟨A.sv ++ [(A.nw, A.np)], ?_, ?_⟩, m⟩
 ·unfold Rd.all
  rw [Hnow.out]
  dsimp only
  rw [ER _ _ _ _ H.out.outs.len, hnw, hnp]
  simpa using hrow6
 ·unfold Rd.all
  rw [Hnow.out]
  exact (H.out.outs.imp (fun _ _ h => (h.move m).all)).snoc ⟨hfix _ _ Hrw.out, hfix _ _ Hrp.out⟩
theorem Da (w : World) (r : Nat) (A : RA) (R : Rd) (h : BD w r A R) (hn : R.out.length < 1000000) : Calls Tryz.prog 58 #[.pointer (some ⟨r, 0, none⟩)] w (Rz r A R w) := by
 cases hnow : R.now with
 | none => exact PK w r A R h hnow
 | some s => exact Pz w r A R h s hnow hn
end Go.Proofs.YtbfbgfpghkijdaaGreatDoor
