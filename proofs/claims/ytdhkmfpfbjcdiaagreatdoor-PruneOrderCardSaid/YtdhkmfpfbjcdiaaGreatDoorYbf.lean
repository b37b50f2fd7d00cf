/- lemmalaw texts, part 32. -/
import Derived.Test.YtdhkmfpfbjcdiaaGreatDoorYbe
set_option maxRecDepth 100000
set_option linter.unusedVariables false
set_option linter.unusedSimpArgs false
set_option maxHeartbeats 32000000
namespace Go.Proofs.YtdhkmfpfbjcdiaaGreatDoor
open Go.RowKit
theorem parse_broken (w : World) (va : Value) (x : Tk) (r : List Tk) (hw : Row w 54 4 va (x :: r).length (tkCells (x :: r))) (hn : (x :: r).length ≤ 16384) (en : Tk) (hx : (x.text.toList == [40]) = true) (hc : closeAt r = none) :
  Calls Tryz.prog 82 #[va, tkV en] w (ParseR (parseOf (x :: r) en) w) := by
 have hres : parseOf (x :: r) en = ⟨2, r, [], true, false, en⟩ := by unfold parseOf; dsimp only; rw [if_neg (by rw [hx]; decide), hc]
 rw [hres]
 have hpos : 0 < (x :: r).length := by simp
 obtain ⟨g, c, hv, t0, t1, t2, t3, hgl⟩ := tk_elem hw hpos
 subst hv
 have hS := Sub.of_row hw
 have hcc : r.length + 1 ≤ c := by
  obtain ⟨g', off', c', hv', h2, -, -⟩ := hS.ex
  cases hv'
  simpa using h2
 rw [Nat.zero_mul] at t0
 have hx0 : (x :: r)[0] = x := rfl
 rw [hx0] at t0
 have hnr : r.length ≤ 16384 := by simp at hn; omega
 have k0 : ((r.length : Int) + 1 == 0) = false := by rw [beq_eq_false_iff_ne]; omega
 have hsub : ¬ c - 1 = 0 → Sub w 4 (.slice (some ⟨g, 4, none⟩) r.length (c - 1)) r.length (tkCells r) := fun _ => by
  have h := hS.drop (i := 1) (by simp)
  simpa using h
 have hgw : g < w.heap.size := hgl
 have hsA := ((Same.alloc [] w (.cells #[.string en.text, .int .i64 en.at_.off, .int .i64 en.at_.line, .int .i64 en.at_.col] 54)).trans ((Same.alloc [] _ (.cells #[.int .i64 0, .slice none 0 0, .slice none 0 0, .bool false, .bool false, .string ⟨#[]⟩, .int .i64 0, .int .i64 0, .int .i64 0] 161)).trans (Same.alloc [] _ (.cells #[.int .i64 2, .slice none 0 0, .slice none 0 0, .bool false, .bool false, .string en.text, .int .i64 en.at_.off, .int .i64 en.at_.line, .int .i64 en.at_.col] 161))))
 have hRA := blk_old (blk_new (w.alloc (.cells #[.string en.text, .int .i64 en.at_.off, .int .i64 en.at_.line, .int .i64 en.at_.col] 54)) (.cells #[.int .i64 0, .slice none 0 0, .slice none 0 0, .bool false, .bool false, .string ⟨#[]⟩, .int .i64 0, .int .i64 0, .int .i64 0] 161)) (.cells #[.int .i64 2, .slice none 0 0, .slice none 0 0, .bool false, .bool false, .string en.text, .int .i64 en.at_.off, .int .i64 en.at_.line, .int .i64 en.at_.col] 161)
 have hBA := blk_new ((w.alloc (.cells #[.string en.text, .int .i64 en.at_.off, .int .i64 en.at_.line, .int .i64 en.at_.col] 54)).alloc (.cells #[.int .i64 0, .slice none 0 0, .slice none 0 0, .bool false, .bool false, .string ⟨#[]⟩, .int .i64 0, .int .i64 0, .int .i64 0] 161)) (.cells #[.int .i64 2, .slice none 0 0, .slice none 0 0, .bool false, .bool false, .string en.text, .int .i64 en.at_.off, .int .i64 en.at_.line, .int .i64 en.at_.col] 161)
 rw [size_alloc'] at hRA
 rw [size_alloc', size_alloc'] at hBA
 have HsA := Kd hsA
 have HRA := Kd hRA
 have HBA := Kd hBA
 by_cases hc1 : c - 1 = 0
 ·have hr0 : r = [] := List.eq_nil_of_length_eq_zero (by omega)
  have hsub0 : Sub w 4 (.slice (some ⟨g, 0, none⟩) r.length 0) r.length (tkCells r) := by subst hr0; exact ⟨rfl, g, 0, 0, rfl, Nat.le_refl _, hgw, fun j u hj => by simp [tkCells] at hj⟩
  have hcl := fun (W : World) (hW : Same [] w W) => CloneSub_calls _ r.length (tkCells r) W (hsub0.same hW) (tksOne _) (by omega)
  have hix := fun (W : World) (hW : Same [] w W) => IndexFunc_calls W _ r (hsub0.same hW) (by omega)
  rw [hc] at hix
  unfold idxV at hix
  dsimp only at hix
  clear hsub hsub0 hc hr0
  unfold tkV
  clear hw hres t1 t2 t3 hx0 hpos hS hsA hRA hBA
  simp only [List.length_cons] at *
  go_enter Tryz.func82, Tryz.ntmps82
  go_wp2_with (first
   | (go_at_call 140; go_must (refine (hix _ HsA.out).mono ?_; rintro e1 W1 ⟨rfl, hs1⟩; have HB1 := Kd (hs1.get HBA.out (by simp)); have HR1 := Kd (hs1.get HRA.out (by simp)); have Hs1 := Kd (HsA.out.trans hs1); clear hs1))
   | (go_at_call 45; go_must (refine (hcl _ Hs1.out).mono ?_; rintro e2 W2 ⟨v2, rfl, hr2, hs2, hf2⟩; obtain ⟨A2, c2, rfl⟩ := hr2.shape; have hB2 := hs2.get HB1.out (by simp); have hR2 := hs2.get HR1.out (by simp); obtain ⟨b0, b1, b2, b3, b4, b5, b6, b7, b8, bf⟩ := blk9 hB2; have bl := blk_lt hB2; have HB2 := Kd hB2; have HR2 := Kd hR2; have Hr2 := Kd hr2; have Hs2 := Kd (Hs1.out.trans hs2); have Hf2 : Hid (FreshB w (.slice A2 r.length c2)) := Kd (FreshB.mono hf2 Hs1.out.size); clear hB2 hR2 hr2 hs2 hf2))
   | (refine wp_stRow rfl 161 _ _ rfl (w.heap.size + 1) #[.int .i64 2, .slice A2 r.length c2, .slice none 0 0, .bool true, .bool false, .string en.text, .int .i64 en.at_.off, .int .i64 en.at_.line, .int .i64 en.at_.col] (by go_simp) (by go_simp) 161 _ (((blk_set_other (w := W2.setCell ⟨w.heap.size + 1 + 1, 3, none⟩ (.bool true)) ⟨w.heap.size + 1 + 1, 1, none⟩ (.slice A2 r.length c2) (b := w.heap.size + 1) (by simp)).trans (blk_set_other _ _ (by simp))).trans HR2.out) (by kernel_rfl) rfl (by simp [Value.oneCell']) ?_; intro W3 hR3 hs3; obtain ⟨y0, y1, y2, y3, y4, y5, y6, y7, y8, yf⟩ := blk9 hR3; have HR3 := Kd hR3; have Hs3 := Kd hs3; clear hR3 hs3))
  refine bodyPost_ret_by (v := .agg #[.int .i64 2, .slice A2 r.length c2, .slice none 0 0, .bool true, .bool false, .string en.text, .int .i64 en.at_.off, .int .i64 en.at_.line, .int .i64 en.at_.col]) (by simp [results, Tryz.f82, go_sem, y0, y1, y2, y3, y4, y5, y6, y7, y8]) rfl ?_
  have hs23 : Same [w.heap.size + 1 + 1, w.heap.size + 1] W2 W3 := ((Same.setCell (S := [w.heap.size + 1 + 1, w.heap.size + 1]) _ _ _ (by simp)).trans (Same.setCell _ _ _ (by simp))).trans (Hs3.out.mono fun x hx => .inl (by simp at hx; simp [hx]))
  refine ⟨.slice A2 r.length c2, .slice none 0 0, rfl, Hr2.out.same hs23 (fun b hb hm => ?_), Hf2.out, World.ownsRow_nil _ _ _ _, by simp [FreshB, Value.ownBlock], Hs2.out.then hs23 fun x hx => .inr (by simp at hx; omega)⟩
  simp only [List.mem_cons, List.not_mem_nil, or_false] at hm
  rcases hm with rfl | rfl
  ·exact Hr2.out.ne HB2.out (by decide) hb
  ·exact Hr2.out.ne HR2.out (by decide) hb
 ·have hsub0 := hsub hc1
  have hcl := fun (W : World) (hW : Same [] w W) => CloneSub_calls _ r.length (tkCells r) W (hsub0.same hW) (tksOne _) (by omega)
  have hix := fun (W : World) (hW : Same [] w W) => IndexFunc_calls W _ r (hsub0.same hW) (by omega)
  rw [hc] at hix
  unfold idxV at hix
  dsimp only at hix
  clear hsub hsub0 hc
  unfold tkV
  clear hw hres t1 t2 t3 hx0 hpos hS hsA hRA hBA
  simp only [List.length_cons] at *
  go_enter Tryz.func82, Tryz.ntmps82
  go_wp2_with (first
   | (go_at_call 140; go_must (refine (hix _ HsA.out).mono ?_; rintro e1 W1 ⟨rfl, hs1⟩; have HB1 := Kd (hs1.get HBA.out (by simp)); have HR1 := Kd (hs1.get HRA.out (by simp)); have Hs1 := Kd (HsA.out.trans hs1); clear hs1))
   | (go_at_call 45; go_must (refine (hcl _ Hs1.out).mono ?_; rintro e2 W2 ⟨v2, rfl, hr2, hs2, hf2⟩; obtain ⟨A2, c2, rfl⟩ := hr2.shape; have hB2 := hs2.get HB1.out (by simp); have hR2 := hs2.get HR1.out (by simp); obtain ⟨b0, b1, b2, b3, b4, b5, b6, b7, b8, bf⟩ := blk9 hB2; have bl := blk_lt hB2; have HB2 := Kd hB2; have HR2 := Kd hR2; have Hr2 := Kd hr2; have Hs2 := Kd (Hs1.out.trans hs2); have Hf2 : Hid (FreshB w (.slice A2 r.length c2)) := Kd (FreshB.mono hf2 Hs1.out.size); clear hB2 hR2 hr2 hs2 hf2))
   | (refine wp_stRow rfl 161 _ _ rfl (w.heap.size + 1) #[.int .i64 2, .slice A2 r.length c2, .slice none 0 0, .bool true, .bool false, .string en.text, .int .i64 en.at_.off, .int .i64 en.at_.line, .int .i64 en.at_.col] (by go_simp) (by go_simp) 161 _ (((blk_set_other (w := W2.setCell ⟨w.heap.size + 1 + 1, 3, none⟩ (.bool true)) ⟨w.heap.size + 1 + 1, 1, none⟩ (.slice A2 r.length c2) (b := w.heap.size + 1) (by simp)).trans (blk_set_other _ _ (by simp))).trans HR2.out) (by kernel_rfl) rfl (by simp [Value.oneCell']) ?_; intro W3 hR3 hs3; obtain ⟨y0, y1, y2, y3, y4, y5, y6, y7, y8, yf⟩ := blk9 hR3; have HR3 := Kd hR3; have Hs3 := Kd hs3; clear hR3 hs3))
  refine bodyPost_ret_by (v := .agg #[.int .i64 2, .slice A2 r.length c2, .slice none 0 0, .bool true, .bool false, .string en.text, .int .i64 en.at_.off, .int .i64 en.at_.line, .int .i64 en.at_.col]) (by simp [results, Tryz.f82, go_sem, y0, y1, y2, y3, y4, y5, y6, y7, y8]) rfl ?_
  have hs23 : Same [w.heap.size + 1 + 1, w.heap.size + 1] W2 W3 := ((Same.setCell (S := [w.heap.size + 1 + 1, w.heap.size + 1]) _ _ _ (by simp)).trans (Same.setCell _ _ _ (by simp))).trans (Hs3.out.mono fun x hx => .inl (by simp at hx; simp [hx]))
  refine ⟨.slice A2 r.length c2, .slice none 0 0, rfl, Hr2.out.same hs23 (fun b hb hm => ?_), Hf2.out, World.ownsRow_nil _ _ _ _, by simp [FreshB, Value.ownBlock], Hs2.out.then hs23 fun x hx => .inr (by simp at hx; omega)⟩
  simp only [List.mem_cons, List.not_mem_nil, or_false] at hm
  rcases hm with rfl | rfl
  ·exact Hr2.out.ne HB2.out (by decide) hb
  ·exact Hr2.out.ne HR2.out (by decide) hb
theorem parse_packed (w : World) (va : Value) (x : Tk) (r : List Tk) (hw : Row w 54 4 va (x :: r).length (tkCells (x :: r))) (hn : (x :: r).length ≤ 16384) (hts : ∀ t ∈ r, TkP t) (hta : ∀ t ∈ r, AscP t) (en : Tk) (hx : (x.text.toList == [40]) = true) (i : Nat) (hc : closeAt r = some i) :
  Calls Tryz.prog 82 #[va, tkV en] w (ParseR (parseOf (x :: r) en) w) := by
 have hres : parseOf (x :: r) en = ⟨2, r.take i, (LRd.zero.words (r.drop (i + 1))).out, false, (LRd.zero.words (r.drop (i + 1))).within, en⟩ := by unfold parseOf; dsimp only; rw [if_neg (by rw [hx]; decide), hc]
 rw [hres]
 have hpos : 0 < (x :: r).length := by simp
 obtain ⟨g, c, hv, t0, t1, t2, t3, hgl⟩ := tk_elem hw hpos
 subst hv
 have hS := Sub.of_row hw
 have hcc : r.length + 1 ≤ c := by
  obtain ⟨g', off', c', hv', h2, -, -⟩ := hS.ex
  cases hv'
  simpa using h2
 rw [Nat.zero_mul] at t0
 have hx0 : (x :: r)[0] = x := rfl
 rw [hx0] at t0
 have hnr : r.length ≤ 16384 := by simp at hn; omega
 have k0 : ((r.length : Int) + 1 == 0) = false := by rw [beq_eq_false_iff_ne]; omega
 have hsub : ¬ c - 1 = 0 → Sub w 4 (.slice (some ⟨g, 4, none⟩) r.length (c - 1)) r.length (tkCells r) := fun _ => by
  have h := hS.drop (i := 1) (by simp)
  simpa using h
 have hgw : g < w.heap.size := hgl
 have hsA := ((Same.alloc [] w (.cells #[.string en.text, .int .i64 en.at_.off, .int .i64 en.at_.line, .int .i64 en.at_.col] 54)).trans ((Same.alloc [] _ (.cells #[.int .i64 0, .slice none 0 0, .slice none 0 0, .bool false, .bool false, .string ⟨#[]⟩, .int .i64 0, .int .i64 0, .int .i64 0] 161)).trans (Same.alloc [] _ (.cells #[.int .i64 2, .slice none 0 0, .slice none 0 0, .bool false, .bool false, .string en.text, .int .i64 en.at_.off, .int .i64 en.at_.line, .int .i64 en.at_.col] 161))))
 have hRA := blk_old (blk_new (w.alloc (.cells #[.string en.text, .int .i64 en.at_.off, .int .i64 en.at_.line, .int .i64 en.at_.col] 54)) (.cells #[.int .i64 0, .slice none 0 0, .slice none 0 0, .bool false, .bool false, .string ⟨#[]⟩, .int .i64 0, .int .i64 0, .int .i64 0] 161)) (.cells #[.int .i64 2, .slice none 0 0, .slice none 0 0, .bool false, .bool false, .string en.text, .int .i64 en.at_.off, .int .i64 en.at_.line, .int .i64 en.at_.col] 161)
 have hBA := blk_new ((w.alloc (.cells #[.string en.text, .int .i64 en.at_.off, .int .i64 en.at_.line, .int .i64 en.at_.col] 54)).alloc (.cells #[.int .i64 0, .slice none 0 0, .slice none 0 0, .bool false, .bool false, .string ⟨#[]⟩, .int .i64 0, .int .i64 0, .int .i64 0] 161)) (.cells #[.int .i64 2, .slice none 0 0, .slice none 0 0, .bool false, .bool false, .string en.text, .int .i64 en.at_.off, .int .i64 en.at_.line, .int .i64 en.at_.col] 161)
 rw [size_alloc'] at hRA
 rw [size_alloc', size_alloc'] at hBA
 have HsA := Kd hsA
 have HRA := Kd hRA
 have HBA := Kd hBA
 have hil := closeAt_lt hc
 have hc1 : ¬ c - 1 = 0 := by omega
 have hsub0 := hsub hc1
 have hcl := fun (W : World) (hW : Same [] w W) => CloneSub_calls _ i (tkCells (r.take i)) W ((hsub0.take (i := i) (by omega)).same hW) (tksOne _) (by omega)
 have hix := fun (W : World) (hW : Same [] w W) => IndexFunc_calls W _ r (hsub0.same hW) (by omega)
 rw [hc] at hix
 unfold idxV at hix
 dsimp only at hix
 have hd1 : ∀ t ∈ r.drop (i + 1), TkP t := fun t ht => hts t (List.mem_of_mem_drop ht)
 have hd2 : ∀ t ∈ r.drop (i + 1), AscP t := fun t ht => hta t (List.mem_of_mem_drop ht)
 have hdl : (r.drop (i + 1)).length = r.length - (i + 1) := List.length_drop
 by_cases hc2 : c - 1 - (i + 1) = 0
 ·have hd0 : r.drop (i + 1) = [] := List.eq_nil_of_length_eq_zero (by omega)
  have hsub1 : Sub w 4 (.slice (some ⟨g, 4, none⟩) (r.length - (i + 1)) 0) (r.drop (i + 1)).length (tkCells (r.drop (i + 1))) := by
   have : r.length - (i + 1) = 0 := by omega
   rw [hd0, this]
   exact ⟨rfl, g, 4, 0, rfl, Nat.le_refl _, hgw, fun j u hj => by simp [tkCells] at hj⟩
  have hde := fun (W : World) (hW : Same [] w W) => Decode_calls W _ (r.drop (i + 1)) (hsub1.same hW) (by omega) hd1 hd2
  unfold DecR at hde
  clear hsub hsub0 hsub1 hc hd0 hd1 hd2 hdl hts hta
  unfold tkV
  clear hw hres t1 t2 t3 hx0 hpos hS hsA hRA hBA
  simp only [List.length_cons] at *
  go_enter Tryz.func82, Tryz.ntmps82
  go_wp2_with (first
   | (go_at_call 140; go_must (refine (hix _ HsA.out).mono ?_; rintro e1 W1 ⟨rfl, hs1⟩; have HB1 := Kd (hs1.get HBA.out (by simp)); have HR1 := Kd (hs1.get HRA.out (by simp)); have Hs1 := Kd (HsA.out.trans hs1); clear hs1))
   | (go_at_call 45; go_must (refine (hcl _ Hs1.out).mono ?_; rintro e2 W2 ⟨v2, rfl, hr2, hs2, hf2⟩; obtain ⟨A2, c2, rfl⟩ := hr2.shape; have hB2 := hs2.get HB1.out (by simp); have hR2 := hs2.get HR1.out (by simp); obtain ⟨-, b1, -, -, -, -, -, -, -, bf⟩ := blk9 hB2; have bl := blk_lt hB2; have HB2 := Kd hB2; have HR2 := Kd hR2; have Hr2 := Kd hr2; have hs2' := Hs1.out.trans hs2; have HsS : Hid (Same [] w (W2.setCell ⟨w.heap.size + 1 + 1, 1, none⟩ (.slice A2 i c2))) := Kd (hs2'.setNew _ _ (by simp; omega)); have Hs2 := Kd hs2'; have Hf2 : Hid (FreshB w (.slice A2 i c2)) := Kd (FreshB.mono hf2 Hs1.out.size); have HBS : Hid ((W2.setCell ⟨w.heap.size + 1 + 1, 1, none⟩ (.slice A2 i c2)).heap[w.heap.size + 1 + 1]? = some (.cells #[.int .i64 2, .slice A2 i c2, .slice none 0 0, .bool false, .bool false, .string en.text, .int .i64 en.at_.off, .int .i64 en.at_.line, .int .i64 en.at_.col] 161 (0, 0))) := Kd (by have hx := blk_set hB2 1 (.slice A2 i c2); simpa using hx); have HRS := Kd ((blk_set_other (w := W2) ⟨w.heap.size + 1 + 1, 1, none⟩ (.slice A2 i c2) (b := w.heap.size + 1) (by simp)).trans hR2); clear hB2 hR2 hr2 hs2 hs2' hf2))
   | (go_at_call 142; go_must (refine (hde _ HsS.out).mono ?_; rintro e3 W3 ⟨v3, rfl, hr3, hf3, hs3⟩; obtain ⟨A3, c3, rfl⟩ := hr3.shape; have hB3 := hs3.get HBS.out (by simp); have hR3 := hs3.get HRS.out (by simp); obtain ⟨b0, b1', b2, b3, b4, b5, b6, b7, b8, bf'⟩ := blk9 hB3; have bl' := blk_lt hB3; have HB3 := Kd hB3; have HR3 := Kd hR3; have Hr3 := Kd hr3; have Hs3 := Kd hs3; have Hf3 : Hid (FreshB w (.slice A3 (LRd.zero.words (r.drop (i + 1))).out.length c3)) := Kd (FreshB.mono hf3 HsS.out.size); clear hB3 hR3 hr3 hs3 hf3))
   | (refine wp_stRow rfl 161 _ _ rfl (w.heap.size + 1) #[.int .i64 2, .slice A2 i c2, .slice A3 (LRd.zero.words (r.drop (i + 1))).out.length c3, .bool false, .bool (LRd.zero.words (r.drop (i + 1))).within, .string en.text, .int .i64 en.at_.off, .int .i64 en.at_.line, .int .i64 en.at_.col] (by go_simp) (by go_simp) 161 _ (((blk_set_other (w := W3.setCell ⟨w.heap.size + 1 + 1, 2, none⟩ (.slice A3 (LRd.zero.words (r.drop (i + 1))).out.length c3)) ⟨w.heap.size + 1 + 1, 4, none⟩ (.bool (LRd.zero.words (r.drop (i + 1))).within) (b := w.heap.size + 1) (by simp)).trans (blk_set_other _ _ (by simp))).trans HR3.out) (by kernel_rfl) rfl (by simp [Value.oneCell']) ?_; intro W4 hR4 hs4; obtain ⟨y0, y1, y2, y3, y4, y5, y6, y7, y8, yf⟩ := blk9 hR4; have HR4 := Kd hR4; have Hs4 := Kd hs4; clear hR4 hs4))
  refine bodyPost_ret_by (v := .agg #[.int .i64 2, .slice A2 i c2, .slice A3 (LRd.zero.words (r.drop (i + 1))).out.length c3, .bool false, .bool (LRd.zero.words (r.drop (i + 1))).within, .string en.text, .int .i64 en.at_.off, .int .i64 en.at_.line, .int .i64 en.at_.col]) (by simp [results, Tryz.f82, go_sem, y0, y1, y2, y3, y4, y5, y6, y7, y8]) rfl ?_
  have hs34 : Same [w.heap.size + 1 + 1, w.heap.size + 1] W3 W4 := ((Same.setCell (S := [w.heap.size + 1 + 1, w.heap.size + 1]) _ _ _ (by simp)).trans (Same.setCell _ _ _ (by simp))).trans (Hs4.out.mono fun x hx => .inl (by simp at hx; simp [hx]))
  have hs24 : Same [w.heap.size + 1 + 1, w.heap.size + 1] W2 W4 := ((Same.setCell (S := [w.heap.size + 1 + 1, w.heap.size + 1]) W2 _ _ (by simp)).trans (Hs3.out.mono (by simp))).trans hs34
  have hli : (r.take i).length = i := by rw [List.length_take]; omega
  refine ⟨.slice A2 i c2, .slice A3 (LRd.zero.words (r.drop (i + 1))).out.length c3, rfl, ?_, Hf2.out, Hr3.out.same hs34 (fun b hb hm => ?_), Hf3.out, (HsS.out.trans Hs3.out).then hs34 fun x hx => .inr (by simp at hx; omega)⟩
  ·dsimp only
   rw [hli]
   refine Hr2.out.same hs24 (fun b hb hm => ?_)
   simp only [List.mem_cons, List.not_mem_nil, or_false] at hm
   rcases hm with rfl | rfl
   ·exact Hr2.out.ne HB2.out (by decide) hb
   ·exact Hr2.out.ne HR2.out (by decide) hb
  ·simp only [List.mem_cons, List.not_mem_nil, or_false] at hm
   rcases hm with rfl | rfl
   ·exact Hr3.out.ne HB3.out (by decide) hb
   ·exact Hr3.out.ne HR3.out (by decide) hb
 ·have hsub1 := hsub0.drop (i := i + 1) (by omega)
  rw [← hdl] at hsub1
  have hde := fun (W : World) (hW : Same [] w W) => Decode_calls W _ (r.drop (i + 1)) (hsub1.same hW) (by omega) hd1 hd2
  rw [hdl] at hde
  unfold DecR at hde
  clear hsub hsub0 hsub1 hc hd1 hd2 hdl hts hta
  unfold tkV
  clear hw hres t1 t2 t3 hx0 hpos hS hsA hRA hBA
  simp only [List.length_cons] at *
  go_enter Tryz.func82, Tryz.ntmps82
  go_wp2_with (first
   | (go_at_call 140; go_must (refine (hix _ HsA.out).mono ?_; rintro e1 W1 ⟨rfl, hs1⟩; have HB1 := Kd (hs1.get HBA.out (by simp)); have HR1 := Kd (hs1.get HRA.out (by simp)); have Hs1 := Kd (HsA.out.trans hs1); clear hs1))
   | (go_at_call 45; go_must (refine (hcl _ Hs1.out).mono ?_; rintro e2 W2 ⟨v2, rfl, hr2, hs2, hf2⟩; obtain ⟨A2, c2, rfl⟩ := hr2.shape; have hB2 := hs2.get HB1.out (by simp); have hR2 := hs2.get HR1.out (by simp); obtain ⟨-, b1, -, -, -, -, -, -, -, bf⟩ := blk9 hB2; have bl := blk_lt hB2; have HB2 := Kd hB2; have HR2 := Kd hR2; have Hr2 := Kd hr2; have hs2' := Hs1.out.trans hs2; have HsS : Hid (Same [] w (W2.setCell ⟨w.heap.size + 1 + 1, 1, none⟩ (.slice A2 i c2))) := Kd (hs2'.setNew _ _ (by simp; omega)); have Hs2 := Kd hs2'; have Hf2 : Hid (FreshB w (.slice A2 i c2)) := Kd (FreshB.mono hf2 Hs1.out.size); have HBS : Hid ((W2.setCell ⟨w.heap.size + 1 + 1, 1, none⟩ (.slice A2 i c2)).heap[w.heap.size + 1 + 1]? = some (.cells #[.int .i64 2, .slice A2 i c2, .slice none 0 0, .bool false, .bool false, .string en.text, .int .i64 en.at_.off, .int .i64 en.at_.line, .int .i64 en.at_.col] 161 (0, 0))) := Kd (by have hx := blk_set hB2 1 (.slice A2 i c2); simpa using hx); have HRS := Kd ((blk_set_other (w := W2) ⟨w.heap.size + 1 + 1, 1, none⟩ (.slice A2 i c2) (b := w.heap.size + 1) (by simp)).trans hR2); clear hB2 hR2 hr2 hs2 hs2' hf2))
   | (go_at_call 142; go_must (refine (hde _ HsS.out).mono ?_; rintro e3 W3 ⟨v3, rfl, hr3, hf3, hs3⟩; obtain ⟨A3, c3, rfl⟩ := hr3.shape; have hB3 := hs3.get HBS.out (by simp); have hR3 := hs3.get HRS.out (by simp); obtain ⟨b0, b1', b2, b3, b4, b5, b6, b7, b8, bf'⟩ := blk9 hB3; have bl' := blk_lt hB3; have HB3 := Kd hB3; have HR3 := Kd hR3; have Hr3 := Kd hr3; have Hs3 := Kd hs3; have Hf3 : Hid (FreshB w (.slice A3 (LRd.zero.words (r.drop (i + 1))).out.length c3)) := Kd (FreshB.mono hf3 HsS.out.size); clear hB3 hR3 hr3 hs3 hf3))
   | (refine wp_stRow rfl 161 _ _ rfl (w.heap.size + 1) #[.int .i64 2, .slice A2 i c2, .slice A3 (LRd.zero.words (r.drop (i + 1))).out.length c3, .bool false, .bool (LRd.zero.words (r.drop (i + 1))).within, .string en.text, .int .i64 en.at_.off, .int .i64 en.at_.line, .int .i64 en.at_.col] (by go_simp) (by go_simp) 161 _ (((blk_set_other (w := W3.setCell ⟨w.heap.size + 1 + 1, 2, none⟩ (.slice A3 (LRd.zero.words (r.drop (i + 1))).out.length c3)) ⟨w.heap.size + 1 + 1, 4, none⟩ (.bool (LRd.zero.words (r.drop (i + 1))).within) (b := w.heap.size + 1) (by simp)).trans (blk_set_other _ _ (by simp))).trans HR3.out) (by kernel_rfl) rfl (by simp [Value.oneCell']) ?_; intro W4 hR4 hs4; obtain ⟨y0, y1, y2, y3, y4, y5, y6, y7, y8, yf⟩ := blk9 hR4; have HR4 := Kd hR4; have Hs4 := Kd hs4; clear hR4 hs4))
  refine bodyPost_ret_by (v := .agg #[.int .i64 2, .slice A2 i c2, .slice A3 (LRd.zero.words (r.drop (i + 1))).out.length c3, .bool false, .bool (LRd.zero.words (r.drop (i + 1))).within, .string en.text, .int .i64 en.at_.off, .int .i64 en.at_.line, .int .i64 en.at_.col]) (by simp [results, Tryz.f82, go_sem, y0, y1, y2, y3, y4, y5, y6, y7, y8]) rfl ?_
  have hs34 : Same [w.heap.size + 1 + 1, w.heap.size + 1] W3 W4 := ((Same.setCell (S := [w.heap.size + 1 + 1, w.heap.size + 1]) _ _ _ (by simp)).trans (Same.setCell _ _ _ (by simp))).trans (Hs4.out.mono fun x hx => .inl (by simp at hx; simp [hx]))
  have hs24 : Same [w.heap.size + 1 + 1, w.heap.size + 1] W2 W4 := ((Same.setCell (S := [w.heap.size + 1 + 1, w.heap.size + 1]) W2 _ _ (by simp)).trans (Hs3.out.mono (by simp))).trans hs34
  have hli : (r.take i).length = i := by rw [List.length_take]; omega
  refine ⟨.slice A2 i c2, .slice A3 (LRd.zero.words (r.drop (i + 1))).out.length c3, rfl, ?_, Hf2.out, Hr3.out.same hs34 (fun b hb hm => ?_), Hf3.out, (HsS.out.trans Hs3.out).then hs34 fun x hx => .inr (by simp at hx; omega)⟩
  ·dsimp only
   rw [hli]
   refine Hr2.out.same hs24 (fun b hb hm => ?_)
   simp only [List.mem_cons, List.not_mem_nil, or_false] at hm
   rcases hm with rfl | rfl
   ·exact Hr2.out.ne HB2.out (by decide) hb
   ·exact Hr2.out.ne HR2.out (by decide) hb
  ·simp only [List.mem_cons, List.not_mem_nil, or_false] at hm
   rcases hm with rfl | rfl
   ·exact Hr3.out.ne HB3.out (by decide) hb
   ·exact Hr3.out.ne HR3.out (by decide) hb
theorem Parse_calls (w : World) (va : Value) (ws : List Tk) (hw : Row w 54 4 va ws.length (tkCells ws)) (hn : ws.length ≤ 16384) (hts : ∀ t ∈ ws, TkP t) (hta : ∀ t ∈ ws, AscP t) (en : Tk) :
  Calls Tryz.prog 82 #[va, tkV en] w (ParseR (parseOf ws en) w) := by
 match ws, hw, hn, hts, hta with
 | [], hw, hn, _, _ => exact parse_plain w va [] hw hn en (.inl rfl)
 | x :: r, hw, hn, hts, hta =>
  cases hx : (x.text.toList == [40]) with
  | false => exact parse_plain w va (x :: r) hw hn en (.inr ⟨x, r, rfl, hx⟩)
  | true =>
   cases hc : closeAt r with
   | none => exact parse_broken w va x r hw hn en hx hc
   | some i => exact parse_packed w va x r hw hn (fun t ht => hts t (List.mem_cons_of_mem _ ht)) (fun t ht => hta t (List.mem_cons_of_mem _ ht)) en hx i hc
end Go.Proofs.YtdhkmfpfbjcdiaaGreatDoor
