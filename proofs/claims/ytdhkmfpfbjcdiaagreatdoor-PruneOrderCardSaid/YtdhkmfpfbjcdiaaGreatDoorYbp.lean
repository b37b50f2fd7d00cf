/- lemmalaw texts, part 42. -/
import Derived.Test.YtdhkmfpfbjcdiaaGreatDoorYbf
import Derived.Test.YtdhkmfpfbjcdiaaGreatDoorYbn
import Derived.Test.YtdhkmfpfbjcdiaaGreatDoorYbo
import Derived.Deep.MidRow
import Derived.Laws.Rows
set_option maxRecDepth 100000
set_option linter.unusedVariables false
set_option linter.unusedSimpArgs false
set_option maxHeartbeats 32000000
namespace Go.Proofs.YtdhkmfpfbjcdiaaGreatDoor
open Go.RowKit
def asV (a : Asr) (p : AsP) : Value := .agg #[.int .i64 a.number, .string a.label, .bool a.isThm, p.fh, p.fp, p.fg, p.sh, p.sp, p.pr, .string a.at_.text, .int .i64 a.at_.at_.off, .int .i64 a.at_.at_.line, .int .i64 a.at_.at_.col, .string a.end_.text, .int .i64 a.end_.at_.off, .int .i64 a.end_.at_.line, .int .i64 a.end_.at_.col]
def asO (a : Asr) (fh fp fg sh sp pr : Value) : Obj := .cells #[.int .i64 a.number, .string a.label, .bool a.isThm, fh, fp, fg, sh, sp, pr, .string a.at_.text, .int .i64 a.at_.at_.off, .int .i64 a.at_.at_.line, .int .i64 a.at_.at_.col, .string a.end_.text, .int .i64 a.end_.at_.off, .int .i64 a.end_.at_.line, .int .i64 a.end_.at_.col] 56
theorem asO_cells {w : World} {b : Nat} {a : Asr} {fh fp fg sh sp pr : Value} (h : w.heap[b]? = some (asO a fh fp fg sh sp pr)) : w.cell? ⟨b, 0, none⟩ = some (.int .i64 a.number) ∧ w.cell? ⟨b, 1, none⟩ = some (.string a.label) ∧ w.cell? ⟨b, 2, none⟩ = some (.bool a.isThm) ∧ w.cell? ⟨b, 3, none⟩ = some fh ∧ w.cell? ⟨b, 4, none⟩ = some fp ∧ w.cell? ⟨b, 5, none⟩ = some fg ∧ w.cell? ⟨b, 6, none⟩ = some sh ∧ w.cell? ⟨b, 7, none⟩ = some sp ∧ w.cell? ⟨b, 8, none⟩ = some pr ∧
  w.cell? ⟨b, 9, none⟩ = some (.string a.at_.text) ∧ w.cell? ⟨b, 10, none⟩ = some (.int .i64 a.at_.at_.off) ∧ w.cell? ⟨b, 11, none⟩ = some (.int .i64 a.at_.at_.line) ∧ w.cell? ⟨b, 12, none⟩ = some (.int .i64 a.at_.at_.col) ∧ w.cell? ⟨b, 13, none⟩ = some (.string a.end_.text) ∧ w.cell? ⟨b, 14, none⟩ = some (.int .i64 a.end_.at_.off) ∧ w.cell? ⟨b, 15, none⟩ = some (.int .i64 a.end_.at_.line) ∧ w.cell? ⟨b, 16, none⟩ = some (.int .i64 a.end_.at_.col) ∧ ∀ i, w.frozen? ⟨b, i, none⟩ = false := by
 unfold asO at h
 exact ⟨blk_c h, blk_c h, blk_c h, blk_c h, blk_c h, blk_c h, blk_c h, blk_c h, blk_c h, blk_c h, blk_c h, blk_c h, blk_c h, blk_c h, blk_c h, blk_c h, blk_c h, blk_free h⟩
structure AsNew (w : World) (a : Asr) (p : AsP) (w' : World) : Prop where
 inn : AsIn w' [] a p
 fh : FreshB w p.fh
 fes : ∀ ev ∈ p.fes, FreshB w ev
 fp : FreshB w p.fp
 fg : FreshB w p.fg
 sh : FreshB w p.sh
 ses : ∀ ev ∈ p.ses, FreshB w ev
 sp : FreshB w p.sp
 pr : FreshB w p.pr
structure Bs.Ok (B : Bs) : Prop where
 ok : B.ld.Ok
theorem BsAt.asr_at {w : World} {nb : Nat} {P : BP} {B : Bs} (h : BsAt w nb P B) {k : Nat} (hk : k < B.ld.asserts.length) : ∃ g c p, P.av = .slice (some ⟨g, 0, none⟩) B.ld.asserts.length c ∧ (∀ j u, (asCells1 B.ld.asserts[k] p)[j]? = some u → w.cell? ⟨g, k * 17 + j, none⟩ = some u) ∧ g < w.heap.size ∧ AsIn w [] B.ld.asserts[k] p := by
 have hl : k < P.aps.length := by rw [h.ain.len]; exact hk
 obtain ⟨p, hp, hin⟩ := h.ain.get (List.getElem?_eq_getElem hk)
 have hpe : P.aps[k] = p := by rw [List.getElem?_eq_getElem hl] at hp; exact Option.some.inj hp
 obtain ⟨g, c, hv, hc⟩ := h.asr.elem (i := k) hk (ys := asCells1 B.ld.asserts[k] p) (asCells1_len _ _) (by rw [asCells_at _ _ _ hk hl, hpe]) (by decide)
 refine ⟨g, c, p, hv, fun j u hj => ?_, World.block_lt_of_cell? _ _ (hc 0 (by decide)).1, hin⟩
 have hj17 : j < 17 := by
  have := (List.getElem?_eq_some_iff.1 hj).1
  rw [asCells1_len] at this
  exact this
 rw [(hc j hj17).1]
 simp [List.getD_eq_getElem?_getD, hj]
theorem prs_one (l : List Pr) : ∀ u ∈ prCells l, u.oneCell' = true := by
 intro u hu
 simp only [prCells, List.mem_flatMap, encPr, List.mem_cons, List.not_mem_nil, or_false] at hu
 obtain ⟨p, -, h | h⟩ := hu <;> subst h <;> rfl
theorem tks_one (l : List Tk) : ∀ u ∈ tkCells l, u.oneCell' = true := by
 intro u hu
 unfold tkCells at hu
 obtain ⟨x, -, h⟩ := List.mem_flatMap.1 hu
 exact tk_one x u h
theorem Row.fin2 {w w9 : World} {B R : Nat} {c1 c2 : Array Value} {f1 f2 : Nat × Nat} (hs : Same [B, R] w w9) (hB : w.heap[B]? = some (.cells c1 56 f1)) (hR : w.heap[R]? = some (.cells c2 56 f2)) {e k n : Nat} {v : Value} {xs : List Value} (h : Row w e k v n xs) (he : e ≠ 56) : Row w9 e k v n xs :=
 h.same hs fun b hb hm => by
  simp only [List.mem_cons, List.not_mem_nil, or_false] at hm
  rcases hm with rfl | rfl
  ·exact h.ne hB he hb
  ·exact h.ne hR he hb
theorem HypsIn.fin2 {w w9 : World} {B R : Nat} {c1 c2 : Array Value} {f1 f2 : Nat × Nat} (hs : Same [B, R] w w9) (hB : w.heap[B]? = some (.cells c1 56 f1)) (hR : w.heap[R]? = some (.cells c2 56 f2)) {v : Value} {evs : List Value} {l : List Hy} (h : HypsIn w [] v evs l) : HypsIn w9 [] v evs l :=
 ⟨h.row.fin2 hs hB hR (by decide), h.exprs.imp fun _ _ hi => ⟨hi.row.fin2 hs hB hR (by decide), by simp⟩, h.flo⟩
structure AsSmall (a : Asr) : Prop where
 hyps : a.hyps.length ≤ 1000000
 he : ∀ x ∈ a.hyps, x.expr.length ≤ 1000000
 pairs : a.pairs.length ≤ 1000000
 goal : a.goal.length ≤ 1000000
 shyps : a.shyps.length ≤ 1000000
 she : ∀ x ∈ a.shyps, x.expr.length ≤ 1000000
 spairs : a.spairs.length ≤ 1000000
 proof : a.proof.length ≤ 1000000
theorem At_good (w : World) (nb : Nat) (P : BP) (B : Bs) (h : BsAt w nb P B) (k : Nat) (hk : k < B.ld.asserts.length) (hsm : AsSmall B.ld.asserts[k]) (hn : B.ld.asserts.length ≤ 1024) :
  Calls Tryz.prog 18 #[.pointer (some ⟨nb, 0, none⟩), .int .i64 k] w fun e w' => ∃ p, e = .returned (.tuple #[asV B.ld.asserts[k] p, .int .i64 0]) ∧ AsNew w B.ld.asserts[k] p w' ∧ Same [] w w' := by
 obtain ⟨g, c, p, hav, hcell, hgl, hin⟩ := h.asr_at hk
 have n4 := blk_c (i := 4) (v := P.av) h.blk
 rw [hav] at n4
 have nl := blk_lt h.blk
 obtain ⟨a, ha⟩ : ∃ a, B.ld.asserts[k] = a := ⟨_, rfl⟩
 rw [ha] at hcell hin hsm ⊢
 obtain ⟨fh, fp, fg, sh, sp, pr, fes, ses⟩ := p
 obtain ⟨A1, c1, hfh⟩ := hin.fh.row.shape
 obtain ⟨A2, c2, hfp⟩ := hin.fp.row.shape
 obtain ⟨A3, c3, hfg⟩ := hin.fg.row.shape
 obtain ⟨A4, c4, hsh⟩ := hin.sh.row.shape
 obtain ⟨A5, c5, hsp⟩ := hin.sp.row.shape
 obtain ⟨A6, c6, hpr⟩ := hin.pr.row.shape
 dsimp only at hfh hfp hfg hsh hsp hpr
 subst hfh hfp hfg hsh hsp hpr
 have hra : w.rangeAt g (k * 17) [.int .i64 a.number, .string a.label, .bool a.isThm, .slice A1 a.hyps.length c1, .slice A2 a.pairs.length c2, .slice A3 a.goal.length c3, .slice A4 a.shyps.length c4, .slice A5 a.spairs.length c5, .slice A6 a.proof.length c6, .string a.at_.text, .int .i64 a.at_.at_.off, .int .i64 a.at_.at_.line, .int .i64 a.at_.at_.col, .string a.end_.text, .int .i64 a.end_.at_.off, .int .i64 a.end_.at_.line, .int .i64 a.end_.at_.col] := hcell
 have hsA : Same [] w ((w.alloc (.cells #[.int .i64 0, .string ⟨#[]⟩, .bool false, .slice none 0 0, .slice none 0 0, .slice none 0 0, .slice none 0 0, .slice none 0 0, .slice none 0 0, .string ⟨#[]⟩, .int .i64 0, .int .i64 0, .int .i64 0, .string ⟨#[]⟩, .int .i64 0, .int .i64 0, .int .i64 0] 56)).alloc (asO a (.slice A1 a.hyps.length c1) (.slice A2 a.pairs.length c2) (.slice A3 a.goal.length c3) (.slice A4 a.shyps.length c4) (.slice A5 a.spairs.length c5) (.slice A6 a.proof.length c6))) := (Same.alloc _ _ _).trans (Same.alloc _ _ _)
 have hR := blk_old (blk_new w (.cells #[.int .i64 0, .string ⟨#[]⟩, .bool false, .slice none 0 0, .slice none 0 0, .slice none 0 0, .slice none 0 0, .slice none 0 0, .slice none 0 0, .string ⟨#[]⟩, .int .i64 0, .int .i64 0, .int .i64 0, .string ⟨#[]⟩, .int .i64 0, .int .i64 0, .int .i64 0] 56)) (asO a (.slice A1 a.hyps.length c1) (.slice A2 a.pairs.length c2) (.slice A3 a.goal.length c3) (.slice A4 a.shyps.length c4) (.slice A5 a.spairs.length c5) (.slice A6 a.proof.length c6))
 have hB := blk_new (w.alloc (.cells #[.int .i64 0, .string ⟨#[]⟩, .bool false, .slice none 0 0, .slice none 0 0, .slice none 0 0, .slice none 0 0, .slice none 0 0, .slice none 0 0, .string ⟨#[]⟩, .int .i64 0, .int .i64 0, .int .i64 0, .string ⟨#[]⟩, .int .i64 0, .int .i64 0, .int .i64 0] 56)) (asO a (.slice A1 a.hyps.length c1) (.slice A2 a.pairs.length c2) (.slice A3 a.goal.length c3) (.slice A4 a.shyps.length c4) (.slice A5 a.spairs.length c5) (.slice A6 a.proof.length c6))
 rw [size_alloc'] at hB
 have Hin := Kd hin
 have Hra := Kd hra
 clear hra
 have Hsm := Kd hsm
 have HsA := Kd hsA
 have HR := Kd hR
 have HB := Kd hB
 clear h hcell hin hsm hsA hR hB ha
 have hh1 := fun (W : World) (hW : Same [] w W) => hyps_calls W [] _ _ a.hyps (Hin.out.fh.same hW) Hsm.out.hyps Hsm.out.he
 have hp1 := fun (W : World) (hW : Same [] w W) => ClonePair_calls _ _ _ W (Hin.out.fp.row.same hW (by simp)) (prs_one _) Hsm.out.pairs
 have hg1 := fun (W : World) (hW : Same [] w W) => CloneInt_calls _ _ _ W (Hin.out.fg.row.same hW (by simp)) (ints_one _) Hsm.out.goal
 have hh2 := fun (W : World) (hW : Same [] w W) => hyps_calls W [] _ _ a.shyps (Hin.out.sh.same hW) Hsm.out.shyps Hsm.out.she
 have hp2 := fun (W : World) (hW : Same [] w W) => ClonePair_calls _ _ _ W (Hin.out.sp.row.same hW (by simp)) (prs_one _) Hsm.out.spairs
 have ht2 := fun (W : World) (hW : Same [] w W) => CloneToken_calls _ _ _ W (Hin.out.pr.row.same hW (by simp)) (tks_one _) Hsm.out.proof
 go_enter Tryz.func18, Tryz.ntmps18
 go_wp2_with (refine wpList_load_mid rfl 56 _ rfl g (k * 17) (by go_simp) [.int .i64 a.number, .string a.label, .bool a.isThm, .slice A1 a.hyps.length c1, .slice A2 a.pairs.length c2, .slice A3 a.goal.length c3, .slice A4 a.shyps.length c4, .slice A5 a.spairs.length c5, .slice A6 a.proof.length c6, .string a.at_.text, .int .i64 a.at_.at_.off, .int .i64 a.at_.at_.line, .int .i64 a.at_.at_.col, .string a.end_.text, .int .i64 a.end_.at_.off, .int .i64 a.end_.at_.line, .int .i64 a.end_.at_.col] _ (fun j v hj => (Same.alloc [] w _).cell (Hra.out j v hj) (by simp)) Tryz.underlying56 rfl (by kernel_rfl) ?_)
 clear n4 nl hgl
 obtain ⟨Wa, hWa⟩ : ∃ Wa, (w.alloc (.cells #[.int .i64 0, .string ⟨#[]⟩, .bool false, .slice none 0 0, .slice none 0 0, .slice none 0 0, .slice none 0 0, .slice none 0 0, .slice none 0 0, .string ⟨#[]⟩, .int .i64 0, .int .i64 0, .int .i64 0, .string ⟨#[]⟩, .int .i64 0, .int .i64 0, .int .i64 0] 56)).alloc (asO a (.slice A1 a.hyps.length c1) (.slice A2 a.pairs.length c2) (.slice A3 a.goal.length c3) (.slice A4 a.shyps.length c4) (.slice A5 a.spairs.length c5) (.slice A6 a.proof.length c6)) = Wa := ⟨_, rfl⟩
 rw [hWa] at HsA HR HB
 have hWa' := hWa
 unfold asO at hWa'
 rw [hWa']
 clear hWa hWa'
 have HBa := HB
 have HRa := HR
 have HsWa := HsA
 obtain ⟨b0, b1, b2, b3, b4, b5, b6, b7, b8, b9, b10, b11, b12, b13, b14, b15, b16, bf⟩ := asO_cells HB.out
 have bl := blk_lt HB.out
 refine region_canon (.read 0 (.read 1 (.read 2 (.read 4 (.read 5 (.read 6 (.read 8 (.read 9 (.read 10 (.one 3 [4, 5, 6, 8, 9, 10] (.one 7 [8, 9, 10] (.one 11 [] (.read 12 (.read 13 (.one 14 [] (.done)))))))))))))))) (by kernel_rfl) (by kernel_rfl) ?_
 iterate 9 (refine canon_read rfl (fun K hK => ?_); go_simp; (try go_bits); (try (rw [if_pos (by omega)]; go_simp)); refine hK _ ?_; clear hK K)
 refine canon_oneL rfl ?_
 go_wp2_with (go_at_call 42; go_must (refine (hh1 _ (HsWa.out.trans (Same.drew [] _))).mono ?_; rintro e3 W3 ⟨v3, evs3, rfl, hh3, hf3, hfe3, hs3⟩; obtain ⟨A3', c3', rfl⟩ := hh3.row.shape))
 have hs3' := (Same.drew [] Wa).trans hs3
 have hB3 := hs3'.get HBa.out (by simp)
 have hR3 := hs3'.get HRa.out (by simp)
 have HsW3 := Kd (HsWa.out.trans hs3')
 clear b0 b1 b2 b3 b4 b5 b6 b7 b8 b9 b10 b11 b12 b13 b14 b15 b16 bf bl
 obtain ⟨b0, b1, b2, b3, b4, b5, b6, b7, b8, b9, b10, b11, b12, b13, b14, b15, b16, bf⟩ := asO_cells hB3
 have bl := blk_lt hB3
 have HB3 := Kd hB3
 have HR3 := Kd hR3
 clear hB3 hR3
 have Hh3 := Kd hh3
 have Hf3 : Hid (FreshB w (.slice A3' a.hyps.length c3')) := Kd (FreshB.mono hf3 HsWa.out.size)
 have Hfe3 : Hid (∀ ev ∈ evs3, FreshB w ev) := Kd (fun ev hev => FreshB.mono (hfe3 ev hev) HsWa.out.size)
 clear hh3 hf3 hfe3 hs3 hs3'
 refine EQ.A ?_
 refine canon_oneL rfl ?_
 go_wp2_with (go_at_call 43; go_must (refine (hp1 _ HsW3.out).mono ?_; rintro e4 W4 ⟨v4, rfl, hr4, hs4, hf4⟩; obtain ⟨A4', c4', rfl⟩ := hr4.shape))
 have hB4 := hs4.get HB3.out (by simp)
 have hR4 := hs4.get HR3.out (by simp)
 have HsW4 := Kd (HsW3.out.trans hs4)
 clear b0 b1 b2 b3 b4 b5 b6 b7 b8 b9 b10 b11 b12 b13 b14 b15 b16 bf bl
 obtain ⟨b0, b1, b2, b3, b4, b5, b6, b7, b8, b9, b10, b11, b12, b13, b14, b15, b16, bf⟩ := asO_cells hB4
 have bl := blk_lt hB4
 have HB4 := Kd hB4
 have HR4 := Kd hR4
 clear hB4 hR4
 have Hr4 := Kd hr4
 have Hf4 : Hid (FreshB w (.slice A4' a.pairs.length c4')) := Kd (FreshB.mono hf4 HsW3.out.size)
 have Hs34 := Kd hs4
 clear hr4 hf4 hs4
 refine EQ.A ?_
 refine canon_oneL rfl ?_
 go_wp2_with (go_at_call 44; go_must (refine (hg1 _ HsW4.out).mono ?_; rintro e5 W5 ⟨v5, rfl, hr5, hs5, hf5⟩; obtain ⟨A5', c5', rfl⟩ := hr5.shape))
 have hB5 := hs5.get HB4.out (by simp)
 have hR5 := hs5.get HR4.out (by simp)
 have HsW5 := Kd (HsW4.out.trans hs5)
 clear b0 b1 b2 b3 b4 b5 b6 b7 b8 b9 b10 b11 b12 b13 b14 b15 b16 bf bl
 obtain ⟨b0, b1, b2, b3, b4, b5, b6, b7, b8, b9, b10, b11, b12, b13, b14, b15, b16, bf⟩ := asO_cells hB5
 have bl := blk_lt hB5
 have HB5 := Kd hB5
 have HR5 := Kd hR5
 clear hB5 hR5
 have Hr5 := Kd hr5
 have Hf5 : Hid (FreshB w (.slice A5' a.goal.length c5')) := Kd (FreshB.mono hf5 HsW4.out.size)
 have Hs45 := Kd hs5
 clear hr5 hf5 hs5
 refine EQ.A ?_
 iterate 2 (refine canon_read rfl (fun K hK => ?_); go_simp; (try go_bits); (try (rw [if_pos (by omega)]; go_simp)); refine hK _ ?_; clear hK K)
 refine canon_oneL rfl ?_
 go_wp2
 refine EQ.A ?_
 refine canon_done ?_
 obtain ⟨Wb, hWb⟩ : ∃ Wb, ((W5.setCell ⟨w.heap.size + 1, 3, none⟩ (.slice A3' a.hyps.length c3')).setCell ⟨w.heap.size + 1, 4, none⟩ (.slice A4' a.pairs.length c4')).setCell ⟨w.heap.size + 1, 5, none⟩ (.slice A5' a.goal.length c5') = Wb := ⟨_, rfl⟩
 rw [hWb]
 have hBb : Wb.heap[w.heap.size + 1]? = some (asO a (.slice A3' a.hyps.length c3') (.slice A4' a.pairs.length c4') (.slice A5' a.goal.length c5') (.slice A4 a.shyps.length c4) (.slice A5 a.spairs.length c5) (.slice A6 a.proof.length c6)) := by
  rw [← hWb]
  have hx := HB5.out
  unfold asO at hx
  have hx := blk_set (blk_set (blk_set hx 3 (.slice A3' a.hyps.length c3')) 4 (.slice A4' a.pairs.length c4')) 5 (.slice A5' a.goal.length c5')
  simpa [asO] using hx
 have hRb := (((blk_set_other (w := (W5.setCell ⟨w.heap.size + 1, 3, none⟩ (.slice A3' a.hyps.length c3')).setCell ⟨w.heap.size + 1, 4, none⟩ (.slice A4' a.pairs.length c4')) ⟨w.heap.size + 1, 5, none⟩ (.slice A5' a.goal.length c5') (b := w.heap.size) (by simp)).trans (blk_set_other _ _ (by simp))).trans (blk_set_other _ _ (by simp))).trans HR5.out
 rw [hWb] at hRb
 have hs5b : Same [w.heap.size + 1, w.heap.size] W5 Wb := by
  rw [← hWb]
  exact ((Same.setCell _ _ _ (by simp)).trans (Same.setCell _ _ _ (by simp))).trans (Same.setCell _ _ _ (by simp))
 have HsWb : Hid (Same [] w Wb) := Kd (HsW5.out.then hs5b fun x hx => .inr (by simp at hx; omega))
 have Hs5b := Kd hs5b
 clear hs5b hWb b0 b1 b2 b3 b4 b5 b6 b7 b8 b9 b10 b11 b12 b13 b14 b15 b16 bf bl
 obtain ⟨b0, b1, b2, b3, b4, b5, b6, b7, b8, b9, b10, b11, b12, b13, b14, b15, b16, bf⟩ := asO_cells hBb
 have bl := blk_lt hBb
 have HBb := Kd hBb
 have HRb := Kd hRb
 clear hBb hRb
 go_wp2
 refine region_canon (.read 0 (.read 1 (.read 2 (.read 4 (.read 5 (.read 6 (.one 3 [4, 5, 6] (.one 7 [] (.read 8 (.read 9 (.one 10 [] (.done)))))))))))) (by kernel_rfl) (by kernel_rfl) ?_
 iterate 6 (refine canon_read rfl (fun K hK => ?_); go_simp; (try go_bits); (try (rw [if_pos (by omega)]; go_simp)); refine hK _ ?_; clear hK K)
 refine canon_oneL rfl ?_
 go_wp2_with (go_at_call 42; go_must (refine (hh2 _ (HsWb.out.trans (Same.drew [] _))).mono ?_; rintro e6 W6 ⟨v6, evs6, rfl, hh6, hf6, hfe6, hs6⟩; obtain ⟨A6', c6', rfl⟩ := hh6.row.shape))
 have hs6' := (Same.drew [] Wb).trans hs6
 have hB6 := hs6'.get HBb.out (by simp)
 have hR6 := hs6'.get HRb.out (by simp)
 have HsW6 := Kd (HsWb.out.trans hs6')
 clear b0 b1 b2 b3 b4 b5 b6 b7 b8 b9 b10 b11 b12 b13 b14 b15 b16 bf bl
 obtain ⟨b0, b1, b2, b3, b4, b5, b6, b7, b8, b9, b10, b11, b12, b13, b14, b15, b16, bf⟩ := asO_cells hB6
 have bl := blk_lt hB6
 have HB6 := Kd hB6
 have HR6 := Kd hR6
 clear hB6 hR6
 have Hh6 := Kd hh6
 have Hf6 : Hid (FreshB w (.slice A6' a.shyps.length c6')) := Kd (FreshB.mono hf6 HsWb.out.size)
 have Hfe6 : Hid (∀ ev ∈ evs6, FreshB w ev) := Kd (fun ev hev => FreshB.mono (hfe6 ev hev) HsWb.out.size)
 have Hs56 := Kd (Hs5b.out.trans (hs6'.mono (T := [w.heap.size + 1, w.heap.size]) (by simp)))
 clear hh6 hf6 hfe6 hs6 hs6'
 refine EQ.A ?_
 refine canon_oneL rfl ?_
 go_wp2_with (go_at_call 43; go_must (refine (hp2 _ HsW6.out).mono ?_; rintro e7 W7 ⟨v7, rfl, hr7, hs7, hf7⟩; obtain ⟨A7', c7', rfl⟩ := hr7.shape))
 have hB7 := hs7.get HB6.out (by simp)
 have hR7 := hs7.get HR6.out (by simp)
 have HsW7 := Kd (HsW6.out.trans hs7)
 clear b0 b1 b2 b3 b4 b5 b6 b7 b8 b9 b10 b11 b12 b13 b14 b15 b16 bf bl
 obtain ⟨b0, b1, b2, b3, b4, b5, b6, b7, b8, b9, b10, b11, b12, b13, b14, b15, b16, bf⟩ := asO_cells hB7
 have bl := blk_lt hB7
 have HB7 := Kd hB7
 have HR7 := Kd hR7
 clear hB7 hR7
 have Hr7 := Kd hr7
 have Hf7 : Hid (FreshB w (.slice A7' a.spairs.length c7')) := Kd (FreshB.mono hf7 HsW6.out.size)
 have Hs67 := Kd hs7
 clear hr7 hf7 hs7
 refine EQ.A ?_
 iterate 2 (refine canon_read rfl (fun K hK => ?_); go_simp; (try go_bits); (try (rw [if_pos (by omega)]; go_simp)); refine hK _ ?_; clear hK K)
 refine canon_oneL rfl ?_
 go_wp2
 refine EQ.A ?_
 refine canon_done ?_
 obtain ⟨Wc, hWc⟩ : ∃ Wc, (W7.setCell ⟨w.heap.size + 1, 6, none⟩ (.slice A6' a.shyps.length c6')).setCell ⟨w.heap.size + 1, 7, none⟩ (.slice A7' a.spairs.length c7') = Wc := ⟨_, rfl⟩
 rw [hWc]
 have hBc : Wc.heap[w.heap.size + 1]? = some (asO a (.slice A3' a.hyps.length c3') (.slice A4' a.pairs.length c4') (.slice A5' a.goal.length c5') (.slice A6' a.shyps.length c6') (.slice A7' a.spairs.length c7') (.slice A6 a.proof.length c6)) := by
  rw [← hWc]
  have hx := HB7.out
  unfold asO at hx
  have hx := blk_set (blk_set hx 6 (.slice A6' a.shyps.length c6')) 7 (.slice A7' a.spairs.length c7')
  simpa [asO] using hx
 have hRc := ((blk_set_other (w := W7.setCell ⟨w.heap.size + 1, 6, none⟩ (.slice A6' a.shyps.length c6')) ⟨w.heap.size + 1, 7, none⟩ (.slice A7' a.spairs.length c7') (b := w.heap.size) (by simp)).trans (blk_set_other _ _ (by simp))).trans HR7.out
 rw [hWc] at hRc
 have hs7c : Same [w.heap.size + 1, w.heap.size] W7 Wc := by
  rw [← hWc]
  exact (Same.setCell _ _ _ (by simp)).trans (Same.setCell _ _ _ (by simp))
 have HsWc : Hid (Same [] w Wc) := Kd (HsW7.out.then hs7c fun x hx => .inr (by simp at hx; omega))
 have Hs7c := Kd hs7c
 clear hs7c hWc b0 b1 b2 b3 b4 b5 b6 b7 b8 b9 b10 b11 b12 b13 b14 b15 b16 bf bl
 obtain ⟨b0, b1, b2, b3, b4, b5, b6, b7, b8, b9, b10, b11, b12, b13, b14, b15, b16, bf⟩ := asO_cells hBc
 have bl := blk_lt hBc
 have HBc := Kd hBc
 have HRc := Kd hRc
 clear hBc hRc
 go_wp2_with (first
  | (go_at_call 45; go_must (refine (ht2 _ HsWc.out).mono ?_; rintro e8 W8 ⟨v8, rfl, hr8, hs8, hf8⟩; obtain ⟨A8', c8', rfl⟩ := hr8.shape; have hB8 := hs8.get HBc.out (by simp); have hR8 := hs8.get HRc.out (by simp); obtain ⟨-, -, -, -, -, -, -, -, d8, -, -, -, -, -, -, -, -, df⟩ := asO_cells hB8; have dl := blk_lt hB8; have HB9 : Hid ((W8.setCell ⟨w.heap.size + 1, 8, none⟩ (.slice A8' a.proof.length c8')).heap[w.heap.size + 1]? = some (.cells #[.int .i64 a.number, .string a.label, .bool a.isThm, .slice A3' a.hyps.length c3', .slice A4' a.pairs.length c4', .slice A5' a.goal.length c5', .slice A6' a.shyps.length c6', .slice A7' a.spairs.length c7', .slice A8' a.proof.length c8', .string a.at_.text, .int .i64 a.at_.at_.off, .int .i64 a.at_.at_.line, .int .i64 a.at_.at_.col, .string a.end_.text, .int .i64 a.end_.at_.off, .int .i64 a.end_.at_.line, .int .i64 a.end_.at_.col] 56 (0, 0))) := Kd (by have hx := hB8; unfold asO at hx; have hx := blk_set hx 8 (.slice A8' a.proof.length c8'); simpa using hx); have HB8 := Kd hB8; have HR8 := Kd hR8; have Hr8 := Kd hr8; have Hs8 := Kd hs8; have Hf8 := Kd hf8; clear hB8 hR8 hr8 hs8 hf8))
  | (refine wpList_load_row rfl 56 _ rfl (w.heap.size + 1) (by go_simp) 56 #[.int .i64 a.number, .string a.label, .bool a.isThm, .slice A3' a.hyps.length c3', .slice A4' a.pairs.length c4', .slice A5' a.goal.length c5', .slice A6' a.shyps.length c6', .slice A7' a.spairs.length c7', .slice A8' a.proof.length c8', .string a.at_.text, .int .i64 a.at_.at_.off, .int .i64 a.at_.at_.line, .int .i64 a.at_.at_.col, .string a.end_.text, .int .i64 a.end_.at_.off, .int .i64 a.end_.at_.line, .int .i64 a.end_.at_.col] _ _ HB9.out Tryz.underlying56 rfl (by kernel_rfl) ?_)
  | (refine wp_stRow rfl 56 _ _ rfl w.heap.size #[.int .i64 a.number, .string a.label, .bool a.isThm, .slice A3' a.hyps.length c3', .slice A4' a.pairs.length c4', .slice A5' a.goal.length c5', .slice A6' a.shyps.length c6', .slice A7' a.spairs.length c7', .slice A8' a.proof.length c8', .string a.at_.text, .int .i64 a.at_.at_.off, .int .i64 a.at_.at_.line, .int .i64 a.at_.at_.col, .string a.end_.text, .int .i64 a.end_.at_.off, .int .i64 a.end_.at_.line, .int .i64 a.end_.at_.col] (by go_simp) (by go_simp) 56 _ ((blk_set_other (w := W8) ⟨w.heap.size + 1, 8, none⟩ (.slice A8' a.proof.length c8') (b := w.heap.size) (by simp)).trans HR8.out) (by kernel_rfl) rfl (by simp [Value.oneCell']) ?_; intro W9 hR9 hs9; have HR9 := Kd hR9; have Hs9 := Kd hs9; clear hR9 hs9))
 obtain ⟨y0, y1, y2, y3, y4, y5, y6, y7, y8, y9, y10, y11, y12, y13, y14, y15, y16, yf⟩ := asO_cells (a := a) (fh := .slice A3' a.hyps.length c3') (fp := .slice A4' a.pairs.length c4') (fg := .slice A5' a.goal.length c5') (sh := .slice A6' a.shyps.length c6') (sp := .slice A7' a.spairs.length c7') (pr := .slice A8' a.proof.length c8') HR9.out
 refine bodyPost_ret_by (v := .tuple #[.agg #[.int .i64 a.number, .string a.label, .bool a.isThm, .slice A3' a.hyps.length c3', .slice A4' a.pairs.length c4', .slice A5' a.goal.length c5', .slice A6' a.shyps.length c6', .slice A7' a.spairs.length c7', .slice A8' a.proof.length c8', .string a.at_.text, .int .i64 a.at_.at_.off, .int .i64 a.at_.at_.line, .int .i64 a.at_.at_.col, .string a.end_.text, .int .i64 a.end_.at_.off, .int .i64 a.end_.at_.line, .int .i64 a.end_.at_.col], .int .i64 0]) (by simp [results, Tryz.f18, go_sem, y0, y1, y2, y3, y4, y5, y6, y7, y8, y9, y10, y11, y12, y13, y14, y15, y16]) rfl ?_
 have hs89 : Same [w.heap.size + 1, w.heap.size] W8 W9 := (Same.setCell (S := [w.heap.size + 1, w.heap.size]) W8 ⟨w.heap.size + 1, 8, none⟩ (.slice A8' a.proof.length c8') (by simp)).trans (Hs9.out.mono fun x hx => .inl (by simp at hx; simp [hx]))
 have q3 : Same [w.heap.size + 1, w.heap.size] Wc W9 := (Hs8.out.mono (by simp)).trans hs89
 have q7 := Hs7c.out.trans q3
 have q6 := (Hs67.out.mono (T := [w.heap.size + 1, w.heap.size]) (by simp)).trans q7
 have q5 := Hs56.out.trans q6
 have q4 := (Hs45.out.mono (T := [w.heap.size + 1, w.heap.size]) (by simp)).trans q5
 have q33 := (Hs34.out.mono (T := [w.heap.size + 1, w.heap.size]) (by simp)).trans q4
 refine ⟨⟨.slice A3' a.hyps.length c3', .slice A4' a.pairs.length c4', .slice A5' a.goal.length c5', .slice A6' a.shyps.length c6', .slice A7' a.spairs.length c7', .slice A8' a.proof.length c8', evs3, evs6⟩, rfl, ⟨⟨Hh3.out.fin2 q33 HB3.out HR3.out, by simp, ⟨Hr4.out.fin2 q4 HB4.out HR4.out (by decide), by simp⟩, ⟨Hr5.out.fin2 q5 HB5.out HR5.out (by decide), by simp⟩, Hh6.out.fin2 q6 HB6.out HR6.out, by simp, ⟨Hr7.out.fin2 q7 HB7.out HR7.out (by decide), by simp⟩, ⟨Hr8.out.fin2 hs89 HB8.out HR8.out (by decide), by simp⟩⟩, Hf3.out, Hfe3.out, Hf4.out, Hf5.out, Hf6.out, Hfe6.out, Hf7.out, FreshB.mono Hf8.out HsWc.out.size⟩, HsWc.out.then q3 fun x hx => .inr (by simp at hx; omega)⟩
section
variable {P : Program} {ops : Array Oper} {rest : List Oper} {o : Oper} {a : Act} {Q : Exit → Act → World → Prop} {w : World} {b : Nat} {l : List (ByteArray × Value)} {t kt et : TypeId}
theorem wp_sins (h : SMap w b l) (ht : P.underlying t = some (.map kt et)) (hk : P.underlying kt = some .string)
  (hg : o.guard = none) (m x v : Operand) (hop : o.op = .insert t m x v) (k : ByteArray) (u : Value) (hm : a.eval m = .map (some b)) (hx : a.eval x = .string k) (hv : a.eval v = u)
  (hK : ∀ w', SMap w' b (aput k u l) → Same [b] w w' → wpList P ops Q rest (a.put o.dst undef) w') : wpList P ops Q (o :: rest) a w := by
 refine wpList_plain hg fun K' hK' => ?_
 obtain ⟨w', hrun, r1, r2⟩ := h.run_put ht hk k u
 unfold Oper.wp
 simp [execOp, hop, hm, hx, hv, hrun, Result.andThen]
 exact hK' _ _ (hK w' r1 r2)
end
def setM (l : List ByteArray) : List (ByteArray × Value) := l.map fun s => (s, .agg #[])
def inS (k : ByteArray) (l : List ByteArray) : Bool := (aget k (setM l)).isSome
theorem setM_get (k : ByteArray) : ∀ l : List ByteArray, aget k (setM l) = if inS k l = true then some (.agg #[]) else none
 | [] => rfl
 | x :: l => by
  have := setM_get k l
  unfold inS setM at this ⊢
  rw [List.map_cons, aget]
  by_cases h : k = x
  ·rw [if_pos h]; rfl
  ·rw [if_neg h]; exact this
theorem setM_put (k : ByteArray) : ∀ l : List ByteArray, aput k (.agg #[]) (setM l) = setM (if inS k l = true then l else l ++ [k])
 | [] => by simp [setM, aput, inS, aget]
 | x :: l => by
  have := setM_put k l
  unfold inS setM at this ⊢
  rw [List.map_cons, aput, aget]
  by_cases h : k = x
  ·rw [if_pos h, if_pos h]; rfl
  ·rw [if_neg h, if_neg h, this]
   split <;> rfl
def openQ : ByteArray := ⟨#[63]⟩
def nameStep (out : List ByteArray) (t : Tk) : List ByteArray := if inS t.text (openQ :: out) = true then out else out ++ [t.text]
def namesOf (l : List Tk) : List ByteArray := l.foldl nameStep []
def namedOf (a : Asr) : List ByteArray := if a.isThm = true then namesOf (parseOf a.proof a.end_).labels else []
theorem namesOf_take (l : List Tk) (k : Nat) (hk : k < l.length) : namesOf (l.take (k + 1)) = nameStep (namesOf (l.take k)) l[k] := by
 unfold namesOf
 rw [List.take_succ_eq_append_getElem hk, List.foldl_append]
 rfl
theorem namesOf_len (l : List Tk) : ∀ k, k ≤ l.length → (namesOf (l.take k)).length ≤ k
 | 0, _ => by simp [namesOf]
 | k + 1, hk => by
  have := namesOf_len l k (by omega)
  rw [namesOf_take l k (by omega)]
  unfold nameStep
  split
  ·omega
  ·simp; omega
theorem Tryz.proofLabels (a : Int) (A B : Option Addr) (n c m d : Nat) (x y : Bool) (s : ByteArray) (p q r : Int) (w : World) : (Instr.field 161 (.agg #[.int .i64 a, .slice A n c, .slice B m d, .bool x, .bool y, .string s, .int .i64 p, .int .i64 q, .int .i64 r]) 1).run Tryz.prog w = .ok (.slice A n c) w := by kernel_rfl
theorem Count_calls (w : World) (nb : Nat) (P : BP) (B : Bs) (h : BsAt w nb P B) : Calls Tryz.prog 16 #[.pointer (some ⟨nb, 0, none⟩)] w fun e w' => e = .returned (.int .i64 B.ld.asserts.length) ∧ w' = w := by
 obtain ⟨Av, cv, hav⟩ := h.asr.shape
 have n4 := blk_c (i := 4) (v := P.av) h.blk
 rw [hav] at n4
 have nl := blk_lt h.blk
 clear h hav
 go_enter Tryz.func16, Tryz.ntmps16
 go_wp2
 go_ret
 exact ⟨rfl, rfl⟩
theorem AsIn.shapes {w : World} {M : List Nat} {a : Asr} {p : AsP} (h : AsIn w M a p) : ∃ A1 c1 A2 c2 A3 c3 A4 c4 A5 c5 A6 c6, p.fh = .slice A1 a.hyps.length c1 ∧ p.fp = .slice A2 a.pairs.length c2 ∧ p.fg = .slice A3 a.goal.length c3 ∧ p.sh = .slice A4 a.shyps.length c4 ∧ p.sp = .slice A5 a.spairs.length c5 ∧ p.pr = .slice A6 a.proof.length c6 := by
 obtain ⟨A1, c1, h1⟩ := h.fh.row.shape
 obtain ⟨A2, c2, h2⟩ := h.fp.row.shape
 obtain ⟨A3, c3, h3⟩ := h.fg.row.shape
 obtain ⟨A4, c4, h4⟩ := h.sh.row.shape
 obtain ⟨A5, c5, h5⟩ := h.sp.row.shape
 obtain ⟨A6, c6, h6⟩ := h.pr.row.shape
 exact ⟨A1, c1, A2, c2, A3, c3, A4, c4, A5, c5, A6, c6, h1, h2, h3, h4, h5, h6⟩
theorem AsNew.move {w w1 w2 : World} {a : Asr} {p : AsP} (h : AsNew w a p w1) {R : Nat} {cs : Array Value} {fr : Nat × Nat} (hR : w1.heap[R]? = some (.cells cs 56 fr)) (hs : Same [R] w1 w2) : AsNew w a p w2 := by
 have hs2 : Same [R, R] w1 w2 := hs.mono fun x hx => .inl (by simp at hx; simp [hx])
 exact ⟨⟨h.inn.fh.fin2 hs2 hR hR, by simp, ⟨h.inn.fp.row.fin2 hs2 hR hR (by decide), by simp⟩, ⟨h.inn.fg.row.fin2 hs2 hR hR (by decide), by simp⟩, h.inn.sh.fin2 hs2 hR hR, by simp, ⟨h.inn.sp.row.fin2 hs2 hR hR (by decide), by simp⟩, ⟨h.inn.pr.row.fin2 hs2 hR hR (by decide), by simp⟩⟩, h.fh, h.fes, h.fp, h.fg, h.sh, h.ses, h.sp, h.pr⟩
theorem AsNew.same {w w1 w2 : World} {a : Asr} {p : AsP} (h : AsNew w a p w1) (hs : Same [] w1 w2) : AsNew w a p w2 := ⟨h.inn.move (Move.of_same hs), h.fh, h.fes, h.fp, h.fg, h.sh, h.ses, h.sp, h.pr⟩
theorem AsNew.before {w0 w w1 : World} {a : Asr} {p : AsP} (h : AsNew w a p w1) (hz : w0.heap.size ≤ w.heap.size) : AsNew w0 a p w1 := ⟨h.inn, h.fh.mono hz, fun e he => (h.fes e he).mono hz, h.fp.mono hz, h.fg.mono hz, h.sh.mono hz, fun e he => (h.ses e he).mono hz, h.sp.mono hz, h.pr.mono hz⟩
theorem readAt_row {P : Program} {ops : Array Oper} {o : Oper} {a : Act} {w : World} {K : Value → Prop} (hgd : o.guard = none) (ty : TypeId) (x : Operand) (ho : o.op = .load ty x)
  (g : Nat) (hx : a.eval x = .pointer (some ⟨g, 0, none⟩)) (t : TypeId) (cs : Array Value) (fr : Nat × Nat) (d : TypeDesc) (hg : w.heap[g]? = some (.cells cs t fr))
  (hu : P.underlying ty = some d) (hd : (match d with | .struct _ | .array _ _ => true | _ => false) = true) (hi : (P.info? ty).map (·.size) = some cs.size) (h : K (.agg cs)) : ReadAt P ops o a w K := by
 have hw : Region.wanted o (yielded ops a.tmps) = true := by simp [Region.wanted, hgd]
 unfold ReadAt
 rw [if_pos hw]
 have hr : (execOp a.eval o).run P w = .ok (.value (.agg cs)) w := by
  unfold execOp
  simp only [ho, hx, Instr.loadAt, Instr.sureAddr, Sem.run_bind, Sem.run_pure, Result.andThen_ok, run_loadVar_row w g t ty cs fr d hg hu hd hi]
 rw [hr]
 exact ⟨rfl, h⟩
theorem theorem_good (w : World) (nb : Nat) (P : BP) (B : Bs) (h : BsAt w nb P B) (k : Nat) (hk : k < B.ld.asserts.length) (hsm : AsSmall B.ld.asserts[k]) (hn : B.ld.asserts.length ≤ 1024) :
  Calls Tryz.prog 81 #[.pointer (some ⟨nb, 0, none⟩), .int .i64 k] w fun e w' => ∃ p, e = .returned (.tuple #[asV B.ld.asserts[k] p, .bool B.ld.asserts[k].isThm]) ∧ AsNew w B.ld.asserts[k] p w' ∧ Same [] w w' := by
 have hat := fun (W : World) (hW : Same [] w W) => At_good W nb P B (h.same hW) k hk hsm hn
 obtain ⟨a, ha⟩ : ∃ a, B.ld.asserts[k] = a := ⟨_, rfl⟩
 rw [ha] at hat ⊢
 clear h ha hsm hk
 go_enter Tryz.func81, Tryz.ntmps81
 go_wp2_with (first
  | go_at_call 18; go_must (refine (hat _ (Same.alloc [] _ _)).mono ?_; rintro e1 W1 ⟨⟨fh, fp, fg, sh, sp, pr, fes, ses⟩, rfl, hnw, hs1⟩; obtain ⟨A1, c1, A2, c2, A3, c3, A4, c4, A5, c5, A6, c6, q1, q2, q3, q4, q5, q6⟩ := hnw.inn.shapes; dsimp only at q1 q2 q3 q4 q5 q6; subst q1 q2 q3 q4 q5 q6; have HR1 := Kd (hs1.get (blk_new w (.cells #[.int .i64 0, .string ⟨#[]⟩, .bool false, .slice none 0 0, .slice none 0 0, .slice none 0 0, .slice none 0 0, .slice none 0 0, .slice none 0 0, .string ⟨#[]⟩, .int .i64 0, .int .i64 0, .int .i64 0, .string ⟨#[]⟩, .int .i64 0, .int .i64 0, .int .i64 0] 56)) (by simp)); have Hs1 := Kd hs1; have Hnw := Kd hnw; unfold asV; clear hs1 hnw)
  | (refine wp_stRow rfl 56 _ _ rfl W1.heap.size #[.int .i64 a.number, .string a.label, .bool a.isThm, .slice A1 a.hyps.length c1, .slice A2 a.pairs.length c2, .slice A3 a.goal.length c3, .slice A4 a.shyps.length c4, .slice A5 a.spairs.length c5, .slice A6 a.proof.length c6, .string a.at_.text, .int .i64 a.at_.at_.off, .int .i64 a.at_.at_.line, .int .i64 a.at_.at_.col, .string a.end_.text, .int .i64 a.end_.at_.off, .int .i64 a.end_.at_.line, .int .i64 a.end_.at_.col] (by go_simp) (by go_simp) 56 _ (blk_new _ _) (by kernel_rfl) rfl (by simp [Value.oneCell']) ?_; intro W2 hB2 hs2; have HB2 := Kd hB2; have Hs2 := Kd hs2; clear hB2 hs2))
 have Hs12 : Hid (Same [] W1 W2) := Kd ((Same.alloc [] W1 _).then Hs2.out fun x hx => .inr (by simp at hx; omega))
 have HR2 := Kd (Hs2.out.get (blk_old HR1.out _) (by have := blk_lt HR1.out; simp; omega))
 obtain ⟨-, -, b2, -, -, -, -, -, -, -, -, -, -, -, -, -, -, bf⟩ := asO_cells (a := a) (fh := .slice A1 a.hyps.length c1) (fp := .slice A2 a.pairs.length c2) (fg := .slice A3 a.goal.length c3) (sh := .slice A4 a.shyps.length c4) (sp := .slice A5 a.spairs.length c5) (pr := .slice A6 a.proof.length c6) HB2.out
 have bl := blk_lt HB2.out
 refine region_canon (.read 0 (.read 1 (.read 2 (.read 3 (.read 4 (.read 5 (.read 6 (.one 7 [4, 5, 6] (.read 8 (.done)))))))))) (by kernel_rfl) (by kernel_rfl) ?_
 refine canon_read rfl (fun K hK => ?_)
 refine readAt_row rfl 56 _ rfl W1.heap.size (by go_simp) 56 #[.int .i64 a.number, .string a.label, .bool a.isThm, .slice A1 a.hyps.length c1, .slice A2 a.pairs.length c2, .slice A3 a.goal.length c3, .slice A4 a.shyps.length c4, .slice A5 a.spairs.length c5, .slice A6 a.proof.length c6, .string a.at_.text, .int .i64 a.at_.at_.off, .int .i64 a.at_.at_.line, .int .i64 a.at_.at_.col, .string a.end_.text, .int .i64 a.end_.at_.off, .int .i64 a.end_.at_.line, .int .i64 a.end_.at_.col] _ _ HB2.out Tryz.underlying56 rfl (by kernel_rfl) ?_
 refine hK _ ?_
 clear hK K
 iterate 6 (refine canon_read rfl (fun K hK => ?_); go_simp; (try go_bits); (try (rw [if_pos (by omega)]; go_simp)); refine hK _ ?_; clear hK K)
 refine canon_oneL rfl ?_
 refine wp_stRow rfl 56 _ _ rfl w.heap.size #[.int .i64 a.number, .string a.label, .bool a.isThm, .slice A1 a.hyps.length c1, .slice A2 a.pairs.length c2, .slice A3 a.goal.length c3, .slice A4 a.shyps.length c4, .slice A5 a.spairs.length c5, .slice A6 a.proof.length c6, .string a.at_.text, .int .i64 a.at_.at_.off, .int .i64 a.at_.at_.line, .int .i64 a.at_.at_.col, .string a.end_.text, .int .i64 a.end_.at_.off, .int .i64 a.end_.at_.line, .int .i64 a.end_.at_.col] (by go_simp) (by go_simp) 56 _ HR2.out (by kernel_rfl) rfl (by simp [Value.oneCell']) ?_
 intro W3 hR3 hs3
 have hB3 := hs3.get HB2.out (by have := blk_lt HR1.out; simp; omega)
 obtain ⟨-, -, d2, -, -, -, -, -, -, -, -, -, -, -, -, -, -, df⟩ := asO_cells (a := a) (fh := .slice A1 a.hyps.length c1) (fp := .slice A2 a.pairs.length c2) (fg := .slice A3 a.goal.length c3) (sh := .slice A4 a.shyps.length c4) (sp := .slice A5 a.spairs.length c5) (pr := .slice A6 a.proof.length c6) hB3
 have dl := blk_lt hB3
 obtain ⟨y0, y1, y2, y3, y4, y5, y6, y7, y8, y9, y10, y11, y12, y13, y14, y15, y16, yf⟩ := asO_cells (a := a) (fh := .slice A1 a.hyps.length c1) (fp := .slice A2 a.pairs.length c2) (fg := .slice A3 a.goal.length c3) (sh := .slice A4 a.shyps.length c4) (sp := .slice A5 a.spairs.length c5) (pr := .slice A6 a.proof.length c6) hR3
 have Hs3 := Kd hs3
 clear hs3 hR3 hB3 b2 bf bl
 go_wp2
 refine EQ.A ?_
 iterate 1 (refine canon_read rfl (fun K hK => ?_); go_simp; (try go_bits); (try (rw [if_pos (by omega)]; go_simp)); refine hK _ ?_; clear hK K)
 refine canon_done ?_
 go_wp2
 refine bodyPost_ret_by (v := .tuple #[.agg #[.int .i64 a.number, .string a.label, .bool a.isThm, .slice A1 a.hyps.length c1, .slice A2 a.pairs.length c2, .slice A3 a.goal.length c3, .slice A4 a.shyps.length c4, .slice A5 a.spairs.length c5, .slice A6 a.proof.length c6, .string a.at_.text, .int .i64 a.at_.at_.off, .int .i64 a.at_.at_.line, .int .i64 a.at_.at_.col, .string a.end_.text, .int .i64 a.end_.at_.off, .int .i64 a.end_.at_.line, .int .i64 a.end_.at_.col], .bool a.isThm]) (by simp [results, Tryz.f81, go_sem, y0, y1, y2, y3, y4, y5, y6, y7, y8, y9, y10, y11, y12, y13, y14, y15, y16]) rfl ?_
 have hsA : Same [] w W2 := ((Same.alloc _ _ _).trans Hs1.out).trans Hs12.out
 have hRd := (heap_drew W2 w.heap.size).trans HR2.out
 have hnw2 := ((Hnw.out.same Hs12.out).same (Same.drew [] W2)).before (w0 := w) (by rw [size_alloc']; omega)
 have hnw3 := hnw2.move hRd Hs3.out
 exact ⟨⟨.slice A1 a.hyps.length c1, .slice A2 a.pairs.length c2, .slice A3 a.goal.length c3, .slice A4 a.shyps.length c4, .slice A5 a.spairs.length c5, .slice A6 a.proof.length c6, fes, ses⟩, rfl, hnw3, (hsA.trans (Same.drew [] _)).then Hs3.out fun x hx => .inr (by simp at hx; omega)⟩
end Go.Proofs.YtdhkmfpfbjcdiaaGreatDoor
