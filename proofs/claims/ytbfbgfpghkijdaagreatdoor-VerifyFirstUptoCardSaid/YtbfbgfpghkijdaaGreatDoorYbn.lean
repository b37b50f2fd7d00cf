/- lemmalaw texts, part 40. -/
import Derived.Test.YtbfbgfpghkijdaaGreatDoorYbj
set_option maxRecDepth 100000
set_option linter.unusedVariables false
set_option linter.unusedSimpArgs false
set_option maxHeartbeats 32000000
namespace Go.Proofs.YtbfbgfpghkijdaaGreatDoor
open Go.RowKit
theorem JF {W6 w' : World} {i j b : Nat} {flt : Flt} (hi : W6.heap[i]? = some (.cells #[.pointer none] 28 (0, 0))) (hj : W6.heap[j]? = some (.cells #[.pointer none] 29 (0, 0))) (hij : i ≠ j) (hf : CR W6 (.pointer (some ⟨b, 0, none⟩)) (some flt))
  (hw : w' = (W6.setCell ⟨i, 0, none⟩ (.pointer none)).setCell ⟨j, 0, none⟩ (.pointer (some ⟨b, 0, none⟩))) : w'.cell? ⟨i, 0, none⟩ = some (.pointer none) ∧ w'.cell? ⟨j, 0, none⟩ = some (.pointer (some ⟨b, 0, none⟩)) ∧ CR w' (.pointer (some ⟨b, 0, none⟩)) (some flt) ∧ Ad [i, j] W6 w' := by
 subst hw
 have h1 := (AG (w := W6.setCell ⟨i, 0, none⟩ (.pointer none)) ⟨j, 0, none⟩ (.pointer (some ⟨b, 0, none⟩)) hij).trans (AI hi 0 (.pointer none))
 have h2 := AI ((AG (w := W6) ⟨i, 0, none⟩ (.pointer none) hij.symm).trans hj) 0 (.pointer (some ⟨b, 0, none⟩))
 have hs : Ad [i, j] W6 ((W6.setCell ⟨i, 0, none⟩ (.pointer none)).setCell ⟨j, 0, none⟩ (.pointer (some ⟨b, 0, none⟩))) := (Ad.setCell _ _ _ (by simp)).trans (Ad.setCell _ _ _ (by simp))
 obtain ⟨c, hc, hb⟩ := hf
 cases hc
 refine ⟨Ai h1, Ai h2, ⟨b, rfl, hs.get hb fun hm => ?_⟩, hs⟩
 rcases List.mem_cons.1 hm with rfl | hm
 ·rw [hi] at hb; simp [CZ] at hb
 ·have := List.mem_singleton.1 hm
  subst this
  rw [hj] at hb
  simp [CZ] at hb
theorem QO {W w' : World} {i j nb : Nat} (hi : W.heap[i]? = some (.cells #[.pointer none] 28 (0, 0))) (hj : W.heap[j]? = some (.cells #[.pointer none] 29 (0, 0))) (hij : i ≠ j)
  (hw : w' = (W.setCell ⟨i, 0, none⟩ (.pointer (some ⟨nb, 0, none⟩))).setCell ⟨j, 0, none⟩ (.pointer none)) : w'.cell? ⟨i, 0, none⟩ = some (.pointer (some ⟨nb, 0, none⟩)) ∧ w'.cell? ⟨j, 0, none⟩ = some (.pointer none) ∧ Ad [i, j] W w' := by
 subst hw
 have h1 := (AG (w := W.setCell ⟨i, 0, none⟩ (.pointer (some ⟨nb, 0, none⟩))) ⟨j, 0, none⟩ (.pointer none) hij).trans (AI hi 0 (.pointer (some ⟨nb, 0, none⟩)))
 have h2 := AI ((AG (w := W) ⟨i, 0, none⟩ (.pointer (some ⟨nb, 0, none⟩)) hij.symm).trans hj) 0 (.pointer none)
 exact ⟨Ai h1, Ai h2, (Ad.setCell _ _ _ (by simp)).trans (Ad.setCell _ _ _ (by simp))⟩
theorem IL (t : ByteArray) {W6 w' : World} {i j : Nat} (hi : W6.heap[i]? = some (.cells #[.pointer none] 28 (0, 0))) (hj : W6.heap[j]? = some (.cells #[.pointer none] 29 (0, 0))) (hij : i ≠ j)
  (hw : w' = ((((W6.setCell ⟨i, 0, none⟩ (.pointer none)).setCell ⟨j, 0, none⟩ (.pointer (some ⟨W6.heap.size + 1, 0, none⟩))).alloc (.cells #[.int .i64 (BK t).1, .int .i64 (BK t).2.1, .int .i64 (BK t).2.2] 57)).alloc (.cells #[.int .i64 (BK t).1, .int .i64 (BK t).2.1, .int .i64 (BK t).2.2, .string ⟨#[]⟩, .int .i64 23] 103)).drew) :
  w'.cell? ⟨i, 0, none⟩ = some (.pointer none) ∧ w'.cell? ⟨j, 0, none⟩ = some (.pointer (some ⟨W6.heap.size + 1, 0, none⟩)) ∧ CR w' (.pointer (some ⟨W6.heap.size + 1, 0, none⟩)) (some ⟨⟨t.size, 1 + Lib.countByte t.data.toList 10, (t.size - Lib.lastIndexByte t 10).toNat⟩, ⟨#[]⟩, 23⟩) ∧ Ad [i, j] W6 w' := by
 subst hw
 have h1 := (AG (w := W6.setCell ⟨i, 0, none⟩ (.pointer none)) ⟨j, 0, none⟩ (.pointer (some ⟨W6.heap.size + 1, 0, none⟩)) hij).trans (AI hi 0 (.pointer none))
 have h2 := AI ((AG (w := W6) ⟨i, 0, none⟩ (.pointer none) hij.symm).trans hj) 0 (.pointer (some ⟨W6.heap.size + 1, 0, none⟩))
 have hs : Ad [i, j] W6 ((W6.setCell ⟨i, 0, none⟩ (.pointer none)).setCell ⟨j, 0, none⟩ (.pointer (some ⟨W6.heap.size + 1, 0, none⟩))) := (Ad.setCell _ _ _ (by simp)).trans (Ad.setCell _ _ _ (by simp))
 have hb := Aj (((W6.setCell ⟨i, 0, none⟩ (.pointer none)).setCell ⟨j, 0, none⟩ (.pointer (some ⟨W6.heap.size + 1, 0, none⟩))).alloc (.cells #[.int .i64 (BK t).1, .int .i64 (BK t).2.1, .int .i64 (BK t).2.2] 57)) (.cells #[.int .i64 (BK t).1, .int .i64 (BK t).2.1, .int .i64 (BK t).2.2, .string ⟨#[]⟩, .int .i64 23] 103)
 rw [AA, Ba, Ba] at hb
 refine ⟨Ai (AR (AR h1 _) _), Ai (AR (AR h2 _) _), ⟨_, rfl, ?_⟩, ((hs.trans (Ad.alloc _ _ _)).trans (Ad.alloc _ _ _)).trans (Ad.drew _ _)⟩
 rw [MK]
 exact hb
def RG (F : LF) (V0 : LV) (W5 : World) (sts : List St) (u : Value) (W : World) : Prop :=
 ∃ (k : Nat) (V' : LV) (L' : Ld), k ≤ sts.length ∧ u = .int .i64 k ∧ BR W F V' L' ∧ L'.Ok ∧ AN (V0.blocks F) (V'.blocks F) W5 W ∧ Ld.new.takeAll sts = L'.takeAll (sts.drop k)
theorem Oe (L : Ld) (sts : List St) (k : Nat) (hk : k < sts.length) : L.takeAll (sts.drop k) = (L.take sts[k]).bind fun M => M.takeAll (sts.drop (k + 1)) := by
 rw [List.drop_eq_getElem_cons hk, Ld.takeAll]
theorem zq33 {P : Prop} (h : P := by
 go_wp2
 refine EQ.A ?_
 refine Ak rfl ?_
 go_wp2
 refine EQ.A ?_
 refine Ak rfl ?_
 go_wp2
 refine EQ.A ?_
 refine AB ?_
 go_wp2
 refine leaves_cons (f := 27) (args := #[.pointer (some ⟨w.heap.size, 0, none⟩), .pointer (some ⟨w.heap.size + 1, 0, none⟩)]) (by simp) (by simp [go_sem]) ?_
 refine (Fs ⟨w.heap.size, 0, none⟩ ⟨w.heap.size + 1, 0, none⟩ _).mono ?_
 rintro e7 u7 w7 ⟨rfl, rfl, hw7⟩
 obtain ⟨cI, cJ, hf7, hs7⟩ := IL t hi6.out hj6.out (by omega) hw7
 clear hw7
 simp [Leaves, settle, results, Tryz.results8, go_sem, cI, cJ]
 have hlo : CB t = .error ⟨⟨t.size, 1 + Lib.countByte t.data.toList 10, (t.size - Lib.lastIndexByte t 10).toNat⟩, ⟨#[]⟩, 23⟩ := by unfold CB; rw [Heq.out]; dsimp only; rw [Hr.out]; dsimp only; rw [if_pos hd]
 refine ⟨(Hsw.out.trans Hs6.out).then hs7 fun x hx => .inr (by simp at hx; omega), ?_⟩
 rw [hlo]
 exact ⟨_, rfl, hf7⟩) : P := h
theorem JI (t : ByteArray) (w : World) (ht : t.size < 4611686018427387904) (hb : BF w) (hl : Dj w) : Calls Tryz.prog 8 #[.string t] w (Py t w) := by
 have hmm := @run_makeMap Tryz.prog
 have hmf : ∀ (fn : Fn) (first cap : Array Value) (w : World), (Instr.makeFunc fn first cap).run Tryz.prog w = .ok (.func fn first cap) w := fun _ _ _ _ => rfl
 have hnew := fun W => LP W
 have hfn := fun W t => Qu W t
 unfold fnV at hfn
 have Hb := Kd hb
 have Hl := Kd hl
 clear hb hl
 go_enter_defers Tryz.func8, Tryz.ntmps8
 go_wp2_with (first
  | (go_at_call 28; go_must (refine (hnew _).mono ?_; rintro e1 W1 ⟨t1, TA1, rfl, hT1, hfr1, hs1⟩; have ht1 := hT1.lt t1 (by simp [TA.blocks]); have hi1 := hs1.get (AR (Aj w (.cells #[.pointer none] 28)) (.cells #[.pointer none] 29)) (by simp); have hj1 := hs1.get (Aj (w.alloc (.cells #[.pointer none] 28)) (.cells #[.pointer none] 29)) (by simp); rw [AA] at hj1; have Hs1 := Kd hs1; have HT1 := Kd hT1; have Hfr1 := Kd hfr1; clear hs1 hT1 hfr1))
  | (go_at_call 29; go_must (refine (hfn _ _).mono ?_; rintro e2 W2 ⟨s2, A2, rfl, hS2, hs2, hfr2⟩; have hlb2 := hs2.get (Aj _ (.cells #[.pointer (some ⟨W1.heap.size + 1 + 1 + 1, 0, none⟩), .pointer none, .int .i64 0] 92)) (by simp); have hnb2 := hs2.get (AR (Aj _ (.cells #[.string t, .slice none 0 0, .pointer (some ⟨t1, 0, none⟩), .map (some W1.heap.size), .slice none 0 0, .map (some (W1.heap.size + 1)), .map (some (W1.heap.size + 1 + 1))] 89)) _) (by simp); simp only [AA] at hlb2 hnb2 hfr2; have lb0 := Ai (i := 0) (v := .pointer (some ⟨W1.heap.size + 1 + 1 + 1, 0, none⟩)) hlb2; have lb1 := Ai (i := 1) (v := .pointer none) hlb2; have lbf := AE hlb2; have lbl := Af hlb2; have Hlb2 := Kd hlb2; have Hnb2 := Kd hnb2; have Hfr2 := Kd hfr2; have HS2 := Kd hS2; have Hs2 := Kd hs2; clear hlb2 hnb2 hfr2 hS2 hs2)))
 obtain ⟨W3, hW3⟩ : ∃ W3, W2.setCell ⟨W1.heap.size + 1 + 1 + 1 + 1, 1, none⟩ (.pointer (some ⟨s2, 0, none⟩)) = W3 := ⟨_, rfl⟩
 rw [hW3]
 have hz1 := Hs1.out.size
 rw [AA, AA] at hz1
 have key : BR W3 ⟨W1.heap.size + 1 + 1 + 1 + 1, W1.heap.size + 1 + 1 + 1, t1, s2, W1.heap.size, W1.heap.size + 1, W1.heap.size + 1 + 1, t, .slice none 0 0⟩ ⟨TA1, A2, .slice none 0 0, [], []⟩ Ld.new ∧ Ad [] w W3 ∧ W3.heap[w.heap.size]? = some (.cells #[.pointer none] 28 (0, 0)) ∧ W3.heap[w.heap.size + 1]? = some (.cells #[.pointer none] 29 (0, 0)) ∧ ∀ b ∈ LV.blocks ⟨TA1, A2, .slice none 0 0, [], []⟩ ⟨W1.heap.size + 1 + 1 + 1 + 1, W1.heap.size + 1 + 1 + 1, t1, s2, W1.heap.size, W1.heap.size + 1, W1.heap.size + 1 + 1, t, .slice none 0 0⟩, w.heap.size ≤ b := by
  have hsA : Ad [] w W1 := ((Ad.alloc [] w _).trans (Ad.alloc [] _ _)).trans Hs1.out
  have s1 := Ad.alloc [] W1 (.map #[] 0)
  have s2' := Ad.alloc [] (W1.alloc (.map #[] 0)) (.map #[] 0)
  have s3 := Ad.alloc [] ((W1.alloc (.map #[] 0)).alloc (.map #[] 0)) (.map #[] 0)
  have s4 := ((Ad.alloc [] (((W1.alloc (.map #[] 0)).alloc (.map #[] 0)).alloc (.map #[] 0)) (.cells #[.string t, .slice none 0 0, .pointer (some ⟨t1, 0, none⟩), .map (some W1.heap.size), .slice none 0 0, .map (some (W1.heap.size + 1)), .map (some (W1.heap.size + 1 + 1))] 89)).trans (Ad.alloc [] _ (.cells #[.pointer (some ⟨W1.heap.size + 1 + 1 + 1, 0, none⟩), .pointer none, .int .i64 0] 92))).trans Hs2.out
  have hsC : Ad [] W1 W2 := ((s1.trans s2').trans s3).trans s4
  have hsl : Ad [W1.heap.size + 1 + 1 + 1 + 1] W2 W3 := by rw [← hW3]; exact Ad.setCell W2 _ _ (by simp)
  have hzA := hsA.size
  have hsz2 := hsC.size
  have hl3 := AI Hlb2.out 1 (.pointer (some ⟨s2, 0, none⟩))
  rw [hW3] at hl3
  have hT2 := HT1.out.same hsC (by simp)
  have hTlt := HT1.out.lt
  have hfrA := Hfr1.out
  rw [AA, AA] at hfrA
  refine ⟨Qh (by simpa using hl3) (hsl.get Hnb2.out (by simp)) (hT2.same hsl fun b hb hm => by have := hTlt b hb; simp at hm; omega) ?_ ?_ ?_ ?_ ⟨by dsimp only; omega, by dsimp only; omega, by dsimp only; omega⟩ fun b hb => by have := hTlt b hb; refine ⟨?_, ?_, ?_⟩ <;> dsimp only <;> omega, (hsA.trans hsC).then hsl fun x hx => .inr (by simp at hx; omega), ?_, ?_, ?_⟩
  ·refine (HS2.out _ fun b hb => LV.mem.2 (.inr (.inr (.inr (.inr (.inr (.inr (.inr hb)))))))).move ⟨fun b hb => .inl hb, hsl.mono fun b hb => .inl (LV.mem.2 (.inl (by simpa using hb)))⟩ (fun b hb => hsl.block b ?_ fun hm => ?_) (fun b hb => LV.mem.2 (.inr (.inr (.inr (.inr (.inr (.inr (.inr hb))))))))
   ·exact (HS2.out _ fun b hb => hb).lt b hb
   ·have := Hfr2.out b hb
    simp at hm
    omega
  ·exact (((BN.new W1).same ((s2'.trans s3).trans s4) (by simp)).same hsl (by simp; omega))
  ·have h := (BN.new (W1.alloc (.map #[] 0))).same (s3.trans s4) (by simp)
   rw [AA] at h
   exact h.same hsl (by simp <;> omega)
  ·have h := (BN.new ((W1.alloc (.map #[] 0)).alloc (.map #[] 0))).same s4 (by simp)
   rw [AA, AA] at h
   exact h.same hsl (by simp <;> omega)
  ·exact hsl.get (hsC.get hi1 (by simp)) (by simp; omega)
  ·exact hsl.get (hsC.get hj1 (by simp)) (by simp; omega)
  ·intro b hb
   rcases LV.mem.1 hb with hb | hb | hb | hb | hb | hb | hb | hb
   ·dsimp only at hb; omega
   ·dsimp only at hb; omega
   ·dsimp only at hb; omega
   ·dsimp only at hb; omega
   ·dsimp only at hb; omega
   ·simp [Value.ownBlock] at hb
   ·have := hfrA b hb; omega
   ·have := Hfr2.out b hb; omega
 obtain ⟨hL3, hs3, hi3, hj3, hfresh⟩ := key
 obtain ⟨l, hl⟩ : ∃ l, W1.heap.size + 1 + 1 + 1 + 1 = l := ⟨_, rfl⟩
 obtain ⟨nb, hnb⟩ : ∃ nb, W1.heap.size + 1 + 1 + 1 = nb := ⟨_, rfl⟩
 obtain ⟨mh, hmh⟩ : ∃ mh, W1.heap.size + 1 + 1 = mh := ⟨_, rfl⟩
 obtain ⟨mf, hmf'⟩ : ∃ mf, W1.heap.size + 1 = mf := ⟨_, rfl⟩
 obtain ⟨mn, hmn⟩ : ∃ mn, W1.heap.size = mn := ⟨_, rfl⟩
 clear hW3 lb0 lb1 lbf lbl Hlb2 Hnb2 Hfr2 HS2 Hs2 hfn hnew
 rw [hl] at hL3 hfresh
 rw [hnb] at hL3 hfresh
 rw [hmh] at hL3 hfresh
 rw [hmf'] at hL3 hfresh
 rw [hmn] at hL3 hfresh
 rw [hl]
 rw [hnb]
 rw [hmh]
 rw [hmf']
 rw [hmn]
 have Hnbw : Hid (w.heap.size + 1 < nb ∧ w.heap.size + 1 < l ∧ w.heap.size < W1.heap.size) := Kd (by omega)
 clear hl hnb hmh hmf' hmn
 have l0 : W3.cell? ⟨l, 0, none⟩ = some (.pointer (some ⟨nb, 0, none⟩)) := Ai hL3.lb
 have ll : l < W3.heap.size := Af hL3.lb
 have n1 : W3.cell? ⟨nb, 1, none⟩ = some (.slice none 0 0) := Ai hL3.nbb
 have nl : nb < W3.heap.size := Af hL3.nbb
 have hrd := N1 t W3.drew ht (Hb.out.same (hs3.trans (Ad.drew [] _))) (Hl.out.same (hs3.trans (Ad.drew [] _)))
 have HL3 := Kd hL3
 have Hfresh := Kd hfresh
 clear hfresh
 have Hs3 := Kd hs3
 have Hi3 := Kd hi3
 have Hj3 := Kd hj3
 clear hL3 hs3 hi3 hj3 hi1 hj1 hmm Hs1 HT1 Hfr1 ht1 hz1
 refine AD (.read 0 (.read 1 (.read 2 (.read 3 (.read 4 (.one 5 [0, 1, 2, 3] (.read 6 (.read 7 (.read 8 (.read 9 (.read 10 (.one 11 [8] (.read 12 (.done)))))))))))))) (by kernel_rfl) (by kernel_rfl) ?_
 iterate 5 (refine An rfl (fun K hK => ?_); go_simp; (try go_bits); (try (rw [if_pos (by omega)]; go_simp)); refine hK _ ?_; clear hK K)
 refine Ak rfl ?_
 go_wp2_with (go_at_call 31; go_must (refine hrd.mono ?_; rintro e4 W4 ⟨v4, f4, rfl, hs4, hst4, hft4⟩; obtain ⟨A4, c4, rfl⟩ := hst4.choose_spec.1.shape))
 obtain ⟨o4, rfl⟩ : ∃ o4, f4 = .pointer o4 := by
  cases hr : (Bo t).2 with
  | none => rw [hr] at hft4; exact ⟨none, hft4⟩
  | some f => rw [hr] at hft4; obtain ⟨b, h1, -⟩ := hft4; exact ⟨_, h1⟩
 have hs34 := (Ad.drew [] W3).trans hs4
 have hL4 := HL3.out.same hs34
 have l04 : W4.cell? ⟨l, 0, none⟩ = some (.pointer (some ⟨nb, 0, none⟩)) := Ai hL4.lb
 have ll4 : l < W4.heap.size := Af hL4.lb
 have n14 : W4.cell? ⟨nb, 1, none⟩ = some (.slice none 0 0) := Ai hL4.nbb
 have nf4 : ∀ i, W4.frozen? ⟨nb, i, none⟩ = false := AE hL4.nbb
 have nl4 : nb < W4.heap.size := Af hL4.nbb
 have Hs4 := Kd (Hs3.out.trans hs34)
 have Hi4 := Kd (hs34.get Hi3.out (by simp))
 have Hj4 := Kd (hs34.get Hj3.out (by simp))
 have Hst4 := Kd hst4
 have Hft4 := Kd hft4
 have HL4 := Kd hL4
 clear hs4 hs34 hL4 hst4 hft4 l0 ll n1 nl
 refine EQ.A ?_
 iterate 5 (refine An rfl (fun K hK => ?_); go_simp; (try go_bits); (try (rw [if_pos (by omega)]; go_simp)); refine hK _ ?_; clear hK K)
 refine Ak rfl ?_
 go_wp2
 obtain ⟨W5, hW5⟩ : ∃ W5, W4.setCell ⟨nb, 1, none⟩ (.slice A4 (Bo t).1.length c4) = W5 := ⟨_, rfl⟩
 rw [hW5]
 have key : ∃ sv, BR W5 ⟨l, nb, t1, s2, mn, mf, mh, t, .slice A4 (Bo t).1.length c4⟩ ⟨TA1, A2, .slice none 0 0, [], []⟩ Ld.new ∧ Ad [] w W5 ∧ W5.heap[w.heap.size]? = some (.cells #[.pointer none] 28 (0, 0)) ∧ W5.heap[w.heap.size + 1]? = some (.cells #[.pointer none] 29 (0, 0)) ∧
   DD W5 (LV.blocks ⟨TA1, A2, .slice none 0 0, [], []⟩ ⟨l, nb, t1, s2, mn, mf, mh, t, .slice A4 (Bo t).1.length c4⟩) (.slice A4 (Bo t).1.length c4) sv (Bo t).1 ∧ CR W5 (.pointer o4) (Bo t).2 ∧ (∀ b, .pointer o4 = Value.pointer (some ⟨b, 0, none⟩) → b ∉ LV.blocks ⟨TA1, A2, .slice none 0 0, [], []⟩ ⟨l, nb, t1, s2, mn, mf, mh, t, .slice A4 (Bo t).1.length c4⟩) := by
  have hsn : Ad [nb] W4 W5 := by rw [← hW5]; exact Ad.setCell W4 _ _ (by simp)
  have hb5 := AI HL4.out.nbb 1 (.slice A4 (Bo t).1.length c4)
  dsimp only at hb5
  rw [hW5] at hb5
  obtain ⟨hL5, m5⟩ := HL4.out.setSv (v := .slice A4 (Bo t).1.length c4) (by simpa using hb5) hsn
  obtain ⟨sv, hin⟩ := HL4.out.stmts Hst4.out
  have hnf := HL4.out.notFlt Hft4.out
  have hnbw := Hnbw.out.1
  exact ⟨sv, hL5, Hs4.out.then hsn fun x hx => .inr (by simp at hx; omega), hsn.get Hi4.out (by simp; omega), hsn.get Hj4.out (by simp; omega), hin.move m5, Hft4.out.move m5 hnf, fun b hb hm => hnf b hb hm⟩
 obtain ⟨sv5, hL5, hs5, hi5, hj5, hst5, hft5, hfn5⟩ := key
 obtain ⟨F, hF⟩ : ∃ F : LF, F = ⟨l, nb, t1, s2, mn, mf, mh, t, .slice A4 (Bo t).1.length c4⟩ := ⟨_, rfl⟩
 have e1 : l = F.l := by rw [hF]
 have e2 : nb = F.nb := by rw [hF]
 have e3 : t1 = F.t := by rw [hF]
 have Het : Hid (F.text = t) := Kd (by rw [hF])
 have Hes : Hid (F.sv = .slice A4 (Bo t).1.length c4) := Kd (by rw [hF])
 rw [← hF] at hL5 hst5 hfn5
 have hfresh : ∀ b ∈ LV.blocks ⟨TA1, A2, .slice none 0 0, [], []⟩ F, w.heap.size ≤ b := by rw [hF]; exact fun b hb => Hfresh.out b hb
 have Hfr := Kd hfresh
 clear hfresh Hfresh
 have HL5 := Kd hL5
 have Hs5 := Kd hs5
 have Hi5 := Kd hi5
 have Hj5 := Kd hj5
 have Hst5 := Kd hst5
 have Hft5 := Kd hft5
 have Hfn5 := Kd hfn5
 have hw5 : w.heap.size + 1 < W5.heap.size := Af hj5
 clear hL5 hs5 hi5 hj5 hst5 hft5 hfn5 hW5 hF l04 ll4 n14 nf4 nl4 Hs4 Hi4 Hj4 Hst4 Hft4 HL4 Hs3 Hi3 Hj3 HL3 hrd
 subst e1
 subst e2
 subst e3
 have l0 : W5.cell? ⟨F.l, 0, none⟩ = some (.pointer (some ⟨F.nb, 0, none⟩)) := Ai HL5.out.lb
 have ll : F.l < W5.heap.size := Af HL5.out.lb
 have n1 : W5.cell? ⟨F.nb, 1, none⟩ = some (.slice A4 (Bo t).1.length c4) := by rw [← Hes.out]; exact Ai HL5.out.nbb
 have nl : F.nb < W5.heap.size := Af HL5.out.nbb
 refine EQ.A ?_
 iterate 1 (refine An rfl (fun K hK => ?_); go_simp; (try go_bits); (try (rw [if_pos (by omega)]; go_simp)); refine hK _ ?_; clear hK K)
 refine AB ?_
 go_wp2
 go_loopw [52] (fun u wr => RG F ⟨TA1, A2, .slice none 0 0, [], []⟩ W5 (Bo t).1 u wr) (fun u _ => (Bo t).1.length - (intOf u).toNat)
 case atStart => exact ⟨0, _, Ld.new, Nat.zero_le _, rfl, HL5.out, Ld.Ok.new, AN.refl _ _, rfl⟩
 case round =>
  obtain ⟨k, V', L', hk, rfl, hld, hok', hmv, heq⟩ := hrel
  have hi := hmv.same.get Hi5.out (fun hm => by have := HL5.out.notCells Hi5.out (by decide); exact this hm)
  have hj := hmv.same.get Hj5.out (fun hm => by have := HL5.out.notCells Hj5.out (by decide); exact this hm)
  have hil := Af hi
  have hjl := Af hj
  have hsw : Ad [] w wr := Hs5.out.then hmv.same fun b hb => .inr (Hfr.out b hb)
  have hn16 := (EV t).2
  have Hfv : Hid (∀ b ∈ V'.blocks F, w.heap.size ≤ b) := Kd (fun b hb => by
   rcases hmv.blocks b hb with h1 | h1
   ·exact Hfr.out b h1
   ·omega)
  by_cases hlt : k < (Bo t).1.length
  ·have hgood := (EV t).1 (Bo t).1[k] (List.getElem_mem hlt)
   have hstep := Oe L' (Bo t).1 k hlt
   obtain ⟨g, c, Aw, cw, Ap, cp, hv, hcell, hgl, hwf, hpf⟩ := (Hst5.out.move hmv).get hlt
   cases hv
   obtain ⟨s, hs⟩ : ∃ s, (Bo t).1[k] = s := ⟨_, rfl⟩
   rw [hs] at hcell hwf hpf hgood hstep
   have t0 := hcell 0 (.int .i64 s.kind) rfl
   have t1' := hcell 1 (.string s.label.text) rfl
   have t2 := hcell 2 (.int .i64 s.label.at_.off) rfl
   have t3 := hcell 3 (.int .i64 s.label.at_.line) rfl
   have t4 := hcell 4 (.int .i64 s.label.at_.col) rfl
   have t5 := hcell 5 (.string s.key.text) rfl
   have t6 := hcell 6 (.int .i64 s.key.at_.off) rfl
   have t7 := hcell 7 (.int .i64 s.key.at_.line) rfl
   have t8 := hcell 8 (.int .i64 s.key.at_.col) rfl
   have t9 := hcell 9 (.bool s.proving) rfl
   have t10 := hcell 10 (.slice Aw s.words.length cw) rfl
   have t11 := hcell 11 (.slice Ap s.proof.length cp) rfl
   have t12 := hcell 12 (.string s.end_.text) rfl
   have t13 := hcell 13 (.int .i64 s.end_.at_.off) rfl
   have t14 := hcell 14 (.int .i64 s.end_.at_.line) rfl
   have t15 := hcell 15 (.int .i64 s.end_.at_.col) rfl
   rw [Nat.add_zero] at t0
   have hso := Ad.alloc [] wr (stO s (.slice Aw s.words.length cw) (.slice Ap s.proof.length cp))
   have hbl : BF (wr.alloc (stO s (.slice Aw s.words.length cw) (.slice Ap s.proof.length cp))) := Hb.out.same (hsw.trans hso)
   have hbn : 1 ∉ V'.blocks F := fun hm => by
    have h1 : 1 < w.heap.size := World.block_lt_of_cell? w ⟨1, 0, none⟩ (Hb.out 0 (by decide))
    have h2 := hw5
    rcases hmv.blocks _ hm with h3 | h3
    ·have := Hfr.out _ h3
     omega
    ·omega
   have hTH : Ca (wr.alloc (stO s (.slice Aw s.words.length cw) (.slice Ap s.proof.length cp))) F V' L' s Aw Ap cw cp := ⟨hld.same hso, hok', hbl, hbn, hwf.move (AN.of_same hso), hpf.move (AN.of_same hso), hgood.1, hgood.2⟩
   have htk := Mk _ F V' L' s Aw Ap cw cp hTH
   cases he : L'.take s with
   | error p =>
    obtain ⟨tk, n⟩ := p
    rw [he, Eg] at hstep
    rw [he] at htk
    unfold LdX stV stO at htk
    dsimp only at htk
    have Hres := Kd (heq.trans hstep)
    have Hmv := Kd hmv
    have Hi := Kd hi
    have Hj := Kd hj
    have Hld := Kd hld
    have Hsw := Kd hsw
    clear hstep heq hmv hi hj hld hsw hok' hTH he hbl hbn hwf hpf hgood hcell l0 ll n1 nl
    go_wp2_with (go_at_call 32; go_must (refine htk.mono ?_; rintro e6 W6 ⟨b, rfl, hf, hs6⟩))
    have hi6 := hs6.get (AR Hi.out _) (Hld.out.notCells Hi.out (by decide))
    have hj6 := hs6.get (AR Hj.out _) (Hld.out.notCells Hj.out (by decide))
    refine leaves_cons (f := 27) (args := #[.pointer (some ⟨w.heap.size, 0, none⟩), .pointer (some ⟨w.heap.size + 1, 0, none⟩)]) (by simp) (by simp [go_sem]) ?_
    refine (Ml w.heap.size (w.heap.size + 1) b (by omega) [] W6 (.pointer none) (.pointer none) (Ai hi6) (AE hi6 0) (Ai hj6) (AE hj6 0)).mono ?_
    rintro e7 u7 w7 ⟨rfl, rfl, hw7⟩
    obtain ⟨cI, cJ, hf7, hs7⟩ := JF hi6 hj6 (by omega) hf hw7
    clear hw7
    simp [Leaves, settle, results, Tryz.results8, go_sem, cI, cJ]
    have hlo : CB t = .error ⟨tk.at_, tk.text, n⟩ := by unfold CB; rw [Hres.out]
    refine ⟨((Hsw.out.trans (Ad.alloc _ _ _)).then hs6 fun x hx => .inr (Hfv.out x hx)).then hs7 fun x hx => .inr (by simp at hx; omega), ?_⟩
    rw [hlo]
    exact ⟨_, rfl, hf7⟩
   | ok M =>
    rw [he, Ei] at hstep
    rw [he] at htk
    unfold LdX stV stO at htk
    dsimp only at htk
    have Hres := Kd (heq.trans hstep)
    have Hmv := Kd (hmv.trans (AN.of_same hso))
    have Hok := Kd (QZ hok' hgood.2 he)
    clear hstep heq hmv hi hj hld hsw hok' hTH he hbl hbn hwf hpf hgood hcell l0 ll n1 nl
    go_wp2_with (go_at_call 32; go_must (refine htk.mono ?_; rintro e6 W6 ⟨rfl, V6, hL6, hm6⟩; have HL6 := Kd hL6; have Hm6 := Kd hm6; clear hL6 hm6))
    go_roundw
    case rel => exact ⟨k + 1, V6, M, hlt, by go_num, HL6.out, Hok.out, Hmv.out.trans Hm6.out, Hres.out⟩
    case measure => simp [intOf]; omega
  ·have hkk : k = (Bo t).1.length := by omega
   subst hkk
   rw [List.drop_length, Ld.takeAll] at heq
   have hft := Hft5.out.move hmv Hfn5.out
   have Heq := Kd heq
   have Hmv := Kd hmv
   have Hi := Kd hi
   have Hj := Kd hj
   have Hsw := Kd hsw
   have Hok := Kd hok'
   have ci := Ai (i := 0) (v := .pointer none) hi
   have cif := AE hi
   have cj := Ai (i := 0) (v := .pointer none) hj
   have cjf := AE hj
   clear l0 ll n1 nl
   have l0 := Ai (i := 0) (v := .pointer (some ⟨F.nb, 0, none⟩)) hld.lb
   have ll := Af hld.lb
   have n2 := Ai (i := 2) (v := .pointer (some ⟨F.t, 0, none⟩)) hld.nbb
   have n3 := Ai (i := 3) (v := .map (some F.mn)) hld.nbb
   have nl := Af hld.nbb
   cases hr : (Bo t).2 with
   | some flt =>
    rw [hr] at hft
    obtain ⟨b, hb4, hfb⟩ := hft
    cases hb4
    have Hfb := Kd hfb
    have Hr := Kd hr
    have Hld := Kd hld
    clear hld hok' hmv heq hi hj hsw hfb hr
    go_wp2
    refine leaves_cons (f := 27) (args := #[.pointer (some ⟨w.heap.size, 0, none⟩), .pointer (some ⟨w.heap.size + 1, 0, none⟩)]) (by simp) (by simp [go_sem]) ?_
    refine (Fs ⟨w.heap.size, 0, none⟩ ⟨w.heap.size + 1, 0, none⟩ _).mono ?_
    rintro e7 u7 w7 ⟨rfl, rfl, hw7⟩
    obtain ⟨cI, cJ, hf7, hs7⟩ := JF Hi.out Hj.out (by omega) ⟨b, rfl, Hfb.out⟩ hw7
    clear hw7
    simp [Leaves, settle, results, Tryz.results8, go_sem, cI, cJ]
    have hlo : CB t = .error flt := by unfold CB; rw [Heq.out]; dsimp only; rw [Hr.out]
    refine ⟨Hsw.out.then hs7 fun x hx => .inr (by simp at hx; omega), ?_⟩
    rw [hlo]
    exact ⟨_, rfl, hf7⟩
   | none =>
    rw [hr] at hft
    have ho4 : o4 = none := by have : Value.pointer o4 = .pointer none := hft; cases this; rfl
    subst ho4
    have Hr := Kd hr
    have hdp := fun (W : World) (hW : Ad [] wr W) => Ek W F.t V'.TA L'.tbl (hld.tbl.same hW (by simp))
    have hct := fun (W : World) (hW : Ad [] wr W) => Je W F.t V'.TA L'.tbl (hld.tbl.same hW (by simp))
    have hsc := hok'.tbl.scopes
    have hsy := hok'.tbl.syms
    have Hld := Kd hld
    by_cases hd : 0 < L'.tbl.scopes.length
    ·have hpl := ID t
     clear hld hok' hmv heq hi hj hsw hr hft hct hsy
     go_wp2_with (first
      | (go_at_call 33; go_must (refine (hdp _ (Ad.refl _ _)).mono ?_; rintro e6 W6 ⟨rfl, hw6⟩; obtain rfl := hw6.symm))
      | (go_at_call 34; go_must (refine (hpl _ ht).mono ?_; rintro e6 W6 ⟨rfl, hs6⟩; have Hs6 := Kd hs6; have ci6 := hs6.cell ci (by simp); have cj6 := hs6.cell cj (by simp); have hi6 := Kd (hs6.get Hi.out (by simp)); have hj6 := Kd (hs6.get Hj.out (by simp)); have cif6 := AE hi6.out; have cjf6 := AE hj6.out; have il6 := Af hi6.out; have jl6 := Af hj6.out; clear hs6)))
     refine AD (.read 0 (.read 1 (.two 2 [] (.one 3 [0, 1, 2] (.one 4 [] (.done))) 3 [0, 1] (.one 2 [3] (.one 4 [] (.done)))))) (by kernel_rfl) (by kernel_rfl) ?_
     iterate 2 (refine An rfl (fun K hK => ?_); go_simp; (try go_bits); (try (rw [if_pos (by omega)]; go_simp)); refine hK _ ?_; clear hK K)
     refine By rfl rfl ?_ ?_
     ·exact zq33
     ·exact zq33
    ·clear hmv heq hi hj hsw hr hft hsc
     obtain ⟨Wa, rfl⟩ : ∃ Wa, Wa = wr := ⟨_, rfl⟩
     go_wp2_with (first
      | (go_at_call 33; go_must (refine (hdp _ (Ad.refl _ _)).mono ?_; rintro e6 W6 ⟨rfl, hw6⟩; obtain rfl := hw6))
      | (go_at_call 35; go_must (refine (hct _ (Ad.refl _ _)).mono ?_; rintro e6 W6 ⟨rfl, hw6⟩; obtain rfl := hw6)))
     clear hdp hct hld hok'
     go_loopw [90] (fun u wr => ∃ k : Nat, k ≤ L'.tbl.syms.length ∧ u = .int .i64 k ∧ BN wr F.mn (Cd (OH L'.tbl k)) ∧ Ad [F.mn] Wa wr) (fun u _ => L'.tbl.syms.length - (intOf u).toNat)
     case atStart => exact ⟨0, Nat.zero_le _, rfl, Hld.out.nums, Ad.refl _ _⟩
     case round =>
      obtain ⟨k, hk, rfl, hm, hsm⟩ := hrel
      have hnl : F.l ∉ [F.mn] := by have := Hld.out.ty; intro hx; have h2 := List.mem_singleton.1 hx; exact this.l.no (h2 ▸ this.mn) (by decide)
      have hnn : F.nb ∉ [F.mn] := by have := Hld.out.ty; intro hx; have h2 := List.mem_singleton.1 hx; exact this.nb.no (h2 ▸ this.mn) (by decide)
      have hni : w.heap.size ∉ [F.mn] := fun hx => Hld.out.notCells Hi.out (by decide) (List.mem_singleton.1 hx ▸ LV.mem.2 (.inr (.inr (.inl rfl))))
      have hnj : w.heap.size + 1 ∉ [F.mn] := fun hx => Hld.out.notCells Hj.out (by decide) (List.mem_singleton.1 hx ▸ LV.mem.2 (.inr (.inr (.inl rfl))))
      have p0 := hsm.cell l0 hnl
      have p2 := hsm.cell n2 hnn
      have p3 := hsm.cell n3 hnn
      have pl := Nat.lt_of_lt_of_le ll hsm.size
      have pn := Nat.lt_of_lt_of_le nl hsm.size
      have Hm := Kd hm
      have Hsm := Kd hsm
      by_cases hlt : k < L'.tbl.syms.length
      ·have hnm := fun (W : World) (hW : Ad [] wr W) => Ko W F.t V'.TA L'.tbl ((Hld.out.tbl.same Hsm.out fun b hb hx => (Hld.out.mapt b hb).1 (List.mem_singleton.1 hx)).same hW (by simp)) k hlt
       clear hm hsm hnl hnn hni hnj ci cj cif cjf l0 n2 n3 ll nl
       go_wp2
       refine AD (.read 0 (.read 1 (.read 2 (.read 3 (.read 4 (.read 5 (.read 6 (.read 7 (.read 8 (.read 9 (.read 10 (.read 11 (.read 12 (.read 13 (.read 14 (.read 16 (.one 15 [0, 1, 2, 3, 4, 5, 6, 16] (.one 17 [] (.done))))))))))))))))))) (by kernel_rfl) (by kernel_rfl) ?_
       iterate 16 (refine An rfl (fun K hK => ?_); go_simp; (try go_bits); (try (rw [if_pos (by omega)]; go_simp)); refine hK _ ?_; clear hK K)
       refine Ak rfl ?_
       go_wp2_with (go_at_call 36; go_must (refine (hnm _ (Ad.drew [] _)).mono ?_; rintro e8 W8 ⟨rfl, hw8⟩; obtain rfl := hw8))
       refine EQ.A ?_
       refine Ak rfl ?_
       refine DH (Hm.out.same (Ad.drew [] _) (by simp)) Tryz.underlying84 Tryz.underlying9 rfl _ _ _ rfl L'.tbl.syms[k].1 (.int .i64 k) (by go_simp) (by go_simp) (by go_simp) ?_
       intro W9 hm9 hs9
       have Hm9 := Kd hm9
       have Hs9 := Kd hs9
       clear hm9 hs9
       go_wp2
       refine EQ.A ?_
       refine AB ?_
       go_wp2
       go_roundw
       case rel =>
        refine ⟨k + 1, hlt, by go_num, ?_, (Hsm.out.trans (Ad.drew _ _)).trans Hs9.out⟩
        have := Hm9.out
        rw [CH] at this
        rw [OJ _ _ hlt]
        exact this
       case measure => simp [intOf]; omega
      ·have hkk : k = L'.tbl.syms.length := by omega
       subst hkk
       have hi9 := hsm.get Hi.out hni
       have hj9 := hsm.get Hj.out hnj
       have c9 := Ai (i := 0) (v := .pointer none) hi9
       have c9f := AE hi9
       have d9 := Ai (i := 0) (v := .pointer none) hj9
       have d9f := AE hj9
       have i9 := Af hi9
       have j9 := Af hj9
       have Hi9 := Kd hi9
       have Hj9 := Kd hj9
       have Hni := Kd hni
       have Hnj := Kd hnj
       clear hm hsm hnl hnn hni hnj ci cj cif cjf l0 n2 n3 ll nl hi9 hj9
       go_wp2
       refine leaves_cons (f := 27) (args := #[.pointer (some ⟨w.heap.size, 0, none⟩), .pointer (some ⟨w.heap.size + 1, 0, none⟩)]) (by simp) (by simp [go_sem]) ?_
       refine (Fs ⟨w.heap.size, 0, none⟩ ⟨w.heap.size + 1, 0, none⟩ _).mono ?_
       rintro e7 u7 w7 ⟨rfl, rfl, hw7⟩
       obtain ⟨cI, cJ, hs7⟩ := QO Hi9.out Hj9.out (by omega) hw7
       clear hw7
       simp [Leaves, settle, results, Tryz.results8, go_sem, cI, cJ]
       have hlo : CB t = .ok ⟨t, (Bo t).1, L'⟩ := by unfold CB; rw [Heq.out]; dsimp only; rw [Hr.out]; dsimp only; rw [if_neg hd]
       have hst9 := Hst5.out.move Hmv.out
       rw [← Hes.out] at hst9
       have hs79 : Ad [F.mn, w.heap.size, w.heap.size + 1] Wa w7 := (Hsm.out.mono fun x hx => .inl (by simp at hx; simp [hx])).trans (hs7.mono fun x hx => .inl (by simp at hx; simp [hx]))
       have hmn7 : BN w7 F.mn (Cd (E2 L'.tbl)) := by
        rw [← Qp]
        refine Hm.out.same hs7 fun hx => ?_
        rcases List.mem_cons.1 hx with h1 | h1
        ·exact Hni.out (by simp [h1])
        ·exact Hnj.out (by simp [List.mem_singleton.1 h1])
       have hbs := Rv Hld.out Hi.out Hj.out hs79 hmn7 hst9
       rw [Het.out] at hbs
       refine ⟨Hsw.out.then hs79 fun x hx => .inr ?_, ?_⟩
       ·have h3 : w.heap.size ≤ F.mn := Hfv.out _ (LV.mem.2 (.inr (.inr (.inl rfl))))
        simp only [List.mem_cons, List.not_mem_nil, or_false] at hx
        rcases hx with rfl | rfl | rfl <;> omega
       ·rw [hlo]
        exact ⟨_, _, rfl, hbs⟩
end Go.Proofs.YtbfbgfpghkijdaaGreatDoor
