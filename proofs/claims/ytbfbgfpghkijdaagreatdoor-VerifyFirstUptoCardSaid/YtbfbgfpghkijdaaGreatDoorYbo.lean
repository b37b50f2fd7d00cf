/- lemmalaw texts, part 41. -/
import Derived.Test.YtbfbgfpghkijdaaGreatDoorYbm
import Derived.Test.YtbfbgfpghkijdaaGreatDoorYbn
import Derived.Deep.MidRow
set_option maxRecDepth 100000
set_option linter.unusedVariables false
set_option linter.unusedSimpArgs false
set_option maxHeartbeats 32000000
namespace Go.Proofs.YtbfbgfpghkijdaaGreatDoor
open Go.RowKit
def asV (a : Asr) (p : AsP) : Value := .agg #[.int .i64 a.number, .string a.label, .bool a.isThm, p.fh, p.fp, p.fg, p.sh, p.sp, p.pr, .string a.at_.text, .int .i64 a.at_.at_.off, .int .i64 a.at_.at_.line, .int .i64 a.at_.at_.col, .string a.end_.text, .int .i64 a.end_.at_.off, .int .i64 a.end_.at_.line, .int .i64 a.end_.at_.col]
def asO (a : Asr) (fh fp fg sh sp pr : Value) : Obj := .cells #[.int .i64 a.number, .string a.label, .bool a.isThm, fh, fp, fg, sh, sp, pr, .string a.at_.text, .int .i64 a.at_.at_.off, .int .i64 a.at_.at_.line, .int .i64 a.at_.at_.col, .string a.end_.text, .int .i64 a.end_.at_.off, .int .i64 a.end_.at_.line, .int .i64 a.end_.at_.col] 71
theorem CL {w : World} {b : Nat} {a : Asr} {fh fp fg sh sp pr : Value} (h : w.heap[b]? = some (asO a fh fp fg sh sp pr)) : w.cell? ⟨b, 0, none⟩ = some (.int .i64 a.number) ∧ w.cell? ⟨b, 1, none⟩ = some (.string a.label) ∧ w.cell? ⟨b, 2, none⟩ = some (.bool a.isThm) ∧ w.cell? ⟨b, 3, none⟩ = some fh ∧ w.cell? ⟨b, 4, none⟩ = some fp ∧ w.cell? ⟨b, 5, none⟩ = some fg ∧ w.cell? ⟨b, 6, none⟩ = some sh ∧ w.cell? ⟨b, 7, none⟩ = some sp ∧ w.cell? ⟨b, 8, none⟩ = some pr ∧
  w.cell? ⟨b, 9, none⟩ = some (.string a.at_.text) ∧ w.cell? ⟨b, 10, none⟩ = some (.int .i64 a.at_.at_.off) ∧ w.cell? ⟨b, 11, none⟩ = some (.int .i64 a.at_.at_.line) ∧ w.cell? ⟨b, 12, none⟩ = some (.int .i64 a.at_.at_.col) ∧ w.cell? ⟨b, 13, none⟩ = some (.string a.end_.text) ∧ w.cell? ⟨b, 14, none⟩ = some (.int .i64 a.end_.at_.off) ∧ w.cell? ⟨b, 15, none⟩ = some (.int .i64 a.end_.at_.line) ∧ w.cell? ⟨b, 16, none⟩ = some (.int .i64 a.end_.at_.col) ∧ ∀ i, w.frozen? ⟨b, i, none⟩ = false := by
 unfold asO at h
 exact ⟨Ai h, Ai h, Ai h, Ai h, Ai h, Ai h, Ai h, Ai h, Ai h, Ai h, Ai h, Ai h, Ai h, Ai h, Ai h, Ai h, Ai h, AE h⟩
structure ET (w : World) (a : Asr) (p : AsP) (w' : World) : Prop where
 inn : E5 w' [] a p
 fh : AH w p.fh
 fes : ∀ ev ∈ p.fes, AH w ev
 fp : AH w p.fp
 fg : AH w p.fg
 sh : AH w p.sh
 ses : ∀ ev ∈ p.ses, AH w ev
 sp : AH w p.sp
 pr : AH w p.pr
structure Bs.Ok (B : Bs) : Prop where
 ok : B.ld.Ok
theorem FG.asr_at {w : World} {nb : Nat} {P : BP} {B : Bs} (h : FG w nb P B) {k : Nat} (hk : k < B.ld.asserts.length) : ∃ g c p, P.av = .slice (some ⟨g, 0, none⟩) B.ld.asserts.length c ∧ (∀ j u, (C1 B.ld.asserts[k] p)[j]? = some u → w.cell? ⟨g, k * 17 + j, none⟩ = some u) ∧ g < w.heap.size ∧ E5 w [] B.ld.asserts[k] p := by
 have hl : k < P.aps.length := by rw [h.ain.len]; exact hk
 obtain ⟨p, hp, hin⟩ := h.ain.get (List.getElem?_eq_getElem hk)
 have hpe : P.aps[k] = p := by rw [List.getElem?_eq_getElem hl] at hp; exact Option.some.inj hp
 obtain ⟨g, c, hv, hc⟩ := h.asr.elem (i := k) hk (ys := C1 B.ld.asserts[k] p) (CT _ _) (by rw [JT _ _ _ hk hl, hpe]) (by decide)
 refine ⟨g, c, p, hv, fun j u hj => ?_, World.block_lt_of_cell? _ _ (hc 0 (by decide)).1, hin⟩
 have hj17 : j < 17 := by
  have := (List.getElem?_eq_some_iff.1 hj).1
  rw [CT] at this
  exact this
 rw [(hc j hj17).1]
 simp [List.getD_eq_getElem?_getD, hj]
theorem Lo (l : List Pr) : ∀ u ∈ AT l, u.oneCell' = true := by
 intro u hu
 simp only [AT, List.mem_flatMap, BT, List.mem_cons, List.not_mem_nil, or_false] at hu
 obtain ⟨p, -, h | h⟩ := hu <;> subst h <;> rfl
theorem zq125 {P : Prop} (h : P := by
 intro u hu
 unfold AC at hu
 obtain ⟨x, -, h⟩ := List.mem_flatMap.1 hu
 exact LZ x u h) : P := h
theorem QY (l : List Tk) : ∀ u ∈ AC l, u.oneCell' = true := by
 exact zq125
theorem Row.fin2 {w w9 : World} {B R : Nat} {c1 c2 : Array Value} {f1 f2 : Nat × Nat} (hs : Ad [B, R] w w9) (hB : w.heap[B]? = some (.cells c1 71 f1)) (hR : w.heap[R]? = some (.cells c2 71 f2)) {e k n : Nat} {v : Value} {xs : List Value} (h : Row w e k v n xs) (he : e ≠ 71) : Row w9 e k v n xs :=
 h.same hs fun b hb hm => by
  simp only [List.mem_cons, List.not_mem_nil, or_false] at hm
  rcases hm with rfl | rfl
  ·exact h.ne hB he hb
  ·exact h.ne hR he hb
theorem Bi.fin2 {w w9 : World} {B R : Nat} {c1 c2 : Array Value} {f1 f2 : Nat × Nat} (hs : Ad [B, R] w w9) (hB : w.heap[B]? = some (.cells c1 71 f1)) (hR : w.heap[R]? = some (.cells c2 71 f2)) {v : Value} {evs : List Value} {l : List Hy} (h : Bi w [] v evs l) : Bi w9 [] v evs l :=
 ⟨h.row.fin2 hs hB hR (by decide), h.exprs.imp fun _ _ hi => ⟨hi.row.fin2 hs hB hR (by decide), by simp⟩, h.flo⟩
structure GT (a : Asr) : Prop where
 hyps : a.hyps.length ≤ 1000000
 he : ∀ x ∈ a.hyps, x.expr.length ≤ 100000
 pairs : a.pairs.length ≤ 1000000
 goal : a.goal.length ≤ 1000000
 shyps : a.shyps.length ≤ 900000
 she : ∀ x ∈ a.shyps, x.expr.length ≤ 100000
 spairs : a.spairs.length ≤ 900000
 proof : a.proof.length ≤ 1000000
theorem Ja (w : World) (nb : Nat) (P : BP) (B : Bs) (h : FG w nb P B) (k : Nat) (hk : k < B.ld.asserts.length) (hsm : GT B.ld.asserts[k]) (hn : B.ld.asserts.length ≤ 1024) :
  Calls Tryz.prog 22 #[.pointer (some ⟨nb, 0, none⟩), .int .i64 k] w fun e w' => ∃ p, e = .returned (.tuple #[asV B.ld.asserts[k] p, .int .i64 0]) ∧ ET w B.ld.asserts[k] p w' ∧ Ad [] w w' := by
 obtain ⟨g, c, p, hav, hcell, hgl, hin⟩ := h.asr_at hk
 have n4 := Ai (i := 4) (v := P.av) h.blk
 rw [hav] at n4
 have nl := Af h.blk
 obtain ⟨a, ha⟩ : ∃ a, B.ld.asserts[k] = a := ⟨_, rfl⟩
 rw [ha] at hcell hin hsm ⊢
 obtain ⟨fh, fp, fg, sh, sp, pr, fes, ses⟩ := p
 obtain ⟨A1, c1, hfh⟩ := hin.fh.row.shape
 obtain ⟨A2, c2, hfp⟩ := hin.fp.row.shape
 obtain ⟨A3, c3, hfg⟩ := hin.fg.row.shape
 obtain ⟨A4, c4, hsh⟩ := hin.sh.row.shape
 obtain ⟨A5, c5, hsp⟩ := hin.sp.row.shape
 obtain ⟨A6, c6, hpr⟩ := hin.pr.row.shape
 dsimp only at hfh hfp hfg hsh hsp hpr
 subst hfh hfp hfg hsh hsp hpr
 have hra : w.rangeAt g (k * 17) [.int .i64 a.number, .string a.label, .bool a.isThm, .slice A1 a.hyps.length c1, .slice A2 a.pairs.length c2, .slice A3 a.goal.length c3, .slice A4 a.shyps.length c4, .slice A5 a.spairs.length c5, .slice A6 a.proof.length c6, .string a.at_.text, .int .i64 a.at_.at_.off, .int .i64 a.at_.at_.line, .int .i64 a.at_.at_.col, .string a.end_.text, .int .i64 a.end_.at_.off, .int .i64 a.end_.at_.line, .int .i64 a.end_.at_.col] := hcell
 have hsA : Ad [] w ((w.alloc (.cells #[.int .i64 0, .string ⟨#[]⟩, .bool false, .slice none 0 0, .slice none 0 0, .slice none 0 0, .slice none 0 0, .slice none 0 0, .slice none 0 0, .string ⟨#[]⟩, .int .i64 0, .int .i64 0, .int .i64 0, .string ⟨#[]⟩, .int .i64 0, .int .i64 0, .int .i64 0] 71)).alloc (asO a (.slice A1 a.hyps.length c1) (.slice A2 a.pairs.length c2) (.slice A3 a.goal.length c3) (.slice A4 a.shyps.length c4) (.slice A5 a.spairs.length c5) (.slice A6 a.proof.length c6))) := (Ad.alloc _ _ _).trans (Ad.alloc _ _ _)
 have hR := AR (Aj w (.cells #[.int .i64 0, .string ⟨#[]⟩, .bool false, .slice none 0 0, .slice none 0 0, .slice none 0 0, .slice none 0 0, .slice none 0 0, .slice none 0 0, .string ⟨#[]⟩, .int .i64 0, .int .i64 0, .int .i64 0, .string ⟨#[]⟩, .int .i64 0, .int .i64 0, .int .i64 0] 71)) (asO a (.slice A1 a.hyps.length c1) (.slice A2 a.pairs.length c2) (.slice A3 a.goal.length c3) (.slice A4 a.shyps.length c4) (.slice A5 a.spairs.length c5) (.slice A6 a.proof.length c6))
 have hB := Aj (w.alloc (.cells #[.int .i64 0, .string ⟨#[]⟩, .bool false, .slice none 0 0, .slice none 0 0, .slice none 0 0, .slice none 0 0, .slice none 0 0, .slice none 0 0, .string ⟨#[]⟩, .int .i64 0, .int .i64 0, .int .i64 0, .string ⟨#[]⟩, .int .i64 0, .int .i64 0, .int .i64 0] 71)) (asO a (.slice A1 a.hyps.length c1) (.slice A2 a.pairs.length c2) (.slice A3 a.goal.length c3) (.slice A4 a.shyps.length c4) (.slice A5 a.spairs.length c5) (.slice A6 a.proof.length c6))
 rw [AA] at hB
 have Hin := Kd hin
 have Hra := Kd hra
 clear hra
 have Hsm := Kd hsm
 have HsA := Kd hsA
 have HR := Kd hR
 have HB := Kd hB
 clear h hcell hin hsm hsA hR hB ha
 have hh1 := fun (W : World) (hW : Ad [] w W) => Js W [] _ _ a.hyps (Hin.out.fh.same hW) Hsm.out.hyps (fun x hx => Nat.le_trans (Hsm.out.he x hx) (by decide))
 have hp1 := fun (W : World) (hW : Ad [] w W) => DV _ _ _ W (Hin.out.fp.row.same hW (by simp)) (Lo _) Hsm.out.pairs
 have hg1 := fun (W : World) (hW : Ad [] w W) => CP _ _ _ W (Hin.out.fg.row.same hW (by simp)) (En _) Hsm.out.goal
 have hh2 := fun (W : World) (hW : Ad [] w W) => Js W [] _ _ a.shyps (Hin.out.sh.same hW) (Nat.le_trans Hsm.out.shyps (by decide)) (fun x hx => Nat.le_trans (Hsm.out.she x hx) (by decide))
 have hp2 := fun (W : World) (hW : Ad [] w W) => DV _ _ _ W (Hin.out.sp.row.same hW (by simp)) (Lo _) (Nat.le_trans Hsm.out.spairs (by decide))
 have ht2 := fun (W : World) (hW : Ad [] w W) => EX _ _ _ W (Hin.out.pr.row.same hW (by simp)) (QY _) (Nat.le_trans Hsm.out.proof (by decide))
 go_enter Tryz.func22, Tryz.ntmps22
 go_wp2_with (refine wpList_load_mid rfl 71 _ rfl g (k * 17) (by go_simp) [.int .i64 a.number, .string a.label, .bool a.isThm, .slice A1 a.hyps.length c1, .slice A2 a.pairs.length c2, .slice A3 a.goal.length c3, .slice A4 a.shyps.length c4, .slice A5 a.spairs.length c5, .slice A6 a.proof.length c6, .string a.at_.text, .int .i64 a.at_.at_.off, .int .i64 a.at_.at_.line, .int .i64 a.at_.at_.col, .string a.end_.text, .int .i64 a.end_.at_.off, .int .i64 a.end_.at_.line, .int .i64 a.end_.at_.col] _ (fun j v hj => (Ad.alloc [] w _).cell (Hra.out j v hj) (by simp)) Tryz.underlying71 rfl (by kernel_rfl) ?_)
 clear n4 nl hgl
 obtain ⟨Wa, hWa⟩ : ∃ Wa, (w.alloc (.cells #[.int .i64 0, .string ⟨#[]⟩, .bool false, .slice none 0 0, .slice none 0 0, .slice none 0 0, .slice none 0 0, .slice none 0 0, .slice none 0 0, .string ⟨#[]⟩, .int .i64 0, .int .i64 0, .int .i64 0, .string ⟨#[]⟩, .int .i64 0, .int .i64 0, .int .i64 0] 71)).alloc (asO a (.slice A1 a.hyps.length c1) (.slice A2 a.pairs.length c2) (.slice A3 a.goal.length c3) (.slice A4 a.shyps.length c4) (.slice A5 a.spairs.length c5) (.slice A6 a.proof.length c6)) = Wa := ⟨_, rfl⟩
 rw [hWa] at HsA HR HB
 have hWa' := hWa
 unfold asO at hWa'
 rw [hWa']
 clear hWa hWa'
 have HBa := HB
 have HRa := HR
 have HsWa := HsA
 obtain ⟨b0, b1, b2, b3, b4, b5, b6, b7, b8, b9, b10, b11, b12, b13, b14, b15, b16, bf⟩ := CL HB.out
 have bl := Af HB.out
 refine AD (.read 0 (.read 1 (.read 2 (.read 4 (.read 5 (.read 6 (.read 8 (.read 9 (.read 10 (.one 3 [4, 5, 6, 8, 9, 10] (.one 7 [8, 9, 10] (.one 11 [] (.read 12 (.read 13 (.one 14 [] (.done)))))))))))))))) (by kernel_rfl) (by kernel_rfl) ?_
 iterate 9 (refine An rfl (fun K hK => ?_); go_simp; (try go_bits); (try (rw [if_pos (by omega)]; go_simp)); refine hK _ ?_; clear hK K)
 refine Ak rfl ?_
 go_wp2_with (go_at_call 49; go_must (refine (hh1 _ (HsWa.out.trans (Ad.drew [] _))).mono ?_; rintro e3 W3 ⟨v3, evs3, rfl, hh3, hf3, hfe3, hs3⟩; obtain ⟨A3', c3', rfl⟩ := hh3.row.shape))
 have hs3' := (Ad.drew [] Wa).trans hs3
 have hB3 := hs3'.get HBa.out (by simp)
 have hR3 := hs3'.get HRa.out (by simp)
 have HsW3 := Kd (HsWa.out.trans hs3')
 clear b0 b1 b2 b3 b4 b5 b6 b7 b8 b9 b10 b11 b12 b13 b14 b15 b16 bf bl
 obtain ⟨b0, b1, b2, b3, b4, b5, b6, b7, b8, b9, b10, b11, b12, b13, b14, b15, b16, bf⟩ := CL hB3
 have bl := Af hB3
 have HB3 := Kd hB3
 have HR3 := Kd hR3
 clear hB3 hR3
 have Hh3 := Kd hh3
 have Hf3 : Hid (AH w (.slice A3' a.hyps.length c3')) := Kd (AH.mono hf3 HsWa.out.size)
 have Hfe3 : Hid (∀ ev ∈ evs3, AH w ev) := Kd (fun ev hev => AH.mono (hfe3 ev hev) HsWa.out.size)
 clear hh3 hf3 hfe3 hs3 hs3'
 refine EQ.A ?_
 refine Ak rfl ?_
 go_wp2_with (go_at_call 50; go_must (refine (hp1 _ HsW3.out).mono ?_; rintro e4 W4 ⟨v4, rfl, hr4, hs4, hf4⟩; obtain ⟨A4', c4', rfl⟩ := hr4.shape))
 have hB4 := hs4.get HB3.out (by simp)
 have hR4 := hs4.get HR3.out (by simp)
 have HsW4 := Kd (HsW3.out.trans hs4)
 clear b0 b1 b2 b3 b4 b5 b6 b7 b8 b9 b10 b11 b12 b13 b14 b15 b16 bf bl
 obtain ⟨b0, b1, b2, b3, b4, b5, b6, b7, b8, b9, b10, b11, b12, b13, b14, b15, b16, bf⟩ := CL hB4
 have bl := Af hB4
 have HB4 := Kd hB4
 have HR4 := Kd hR4
 clear hB4 hR4
 have Hr4 := Kd hr4
 have Hf4 : Hid (AH w (.slice A4' a.pairs.length c4')) := Kd (AH.mono hf4 HsW3.out.size)
 have Hs34 := Kd hs4
 clear hr4 hf4 hs4
 refine EQ.A ?_
 refine Ak rfl ?_
 go_wp2_with (go_at_call 51; go_must (refine (hg1 _ HsW4.out).mono ?_; rintro e5 W5 ⟨v5, rfl, hr5, hs5, hf5⟩; obtain ⟨A5', c5', rfl⟩ := hr5.shape))
 have hB5 := hs5.get HB4.out (by simp)
 have hR5 := hs5.get HR4.out (by simp)
 have HsW5 := Kd (HsW4.out.trans hs5)
 clear b0 b1 b2 b3 b4 b5 b6 b7 b8 b9 b10 b11 b12 b13 b14 b15 b16 bf bl
 obtain ⟨b0, b1, b2, b3, b4, b5, b6, b7, b8, b9, b10, b11, b12, b13, b14, b15, b16, bf⟩ := CL hB5
 have bl := Af hB5
 have HB5 := Kd hB5
 have HR5 := Kd hR5
 clear hB5 hR5
 have Hr5 := Kd hr5
 have Hf5 : Hid (AH w (.slice A5' a.goal.length c5')) := Kd (AH.mono hf5 HsW4.out.size)
 have Hs45 := Kd hs5
 clear hr5 hf5 hs5
 refine EQ.A ?_
 iterate 2 (refine An rfl (fun K hK => ?_); go_simp; (try go_bits); (try (rw [if_pos (by omega)]; go_simp)); refine hK _ ?_; clear hK K)
 refine Ak rfl ?_
 go_wp2
 refine EQ.A ?_
 refine AB ?_
 obtain ⟨Wb, hWb⟩ : ∃ Wb, ((W5.setCell ⟨w.heap.size + 1, 3, none⟩ (.slice A3' a.hyps.length c3')).setCell ⟨w.heap.size + 1, 4, none⟩ (.slice A4' a.pairs.length c4')).setCell ⟨w.heap.size + 1, 5, none⟩ (.slice A5' a.goal.length c5') = Wb := ⟨_, rfl⟩
 rw [hWb]
 have hBb : Wb.heap[w.heap.size + 1]? = some (asO a (.slice A3' a.hyps.length c3') (.slice A4' a.pairs.length c4') (.slice A5' a.goal.length c5') (.slice A4 a.shyps.length c4) (.slice A5 a.spairs.length c5) (.slice A6 a.proof.length c6)) := by
  rw [← hWb]
  have hx := HB5.out
  unfold asO at hx
  have hx := AI (AI (AI hx 3 (.slice A3' a.hyps.length c3')) 4 (.slice A4' a.pairs.length c4')) 5 (.slice A5' a.goal.length c5')
  simpa [asO] using hx
 have hRb := (((AG (w := (W5.setCell ⟨w.heap.size + 1, 3, none⟩ (.slice A3' a.hyps.length c3')).setCell ⟨w.heap.size + 1, 4, none⟩ (.slice A4' a.pairs.length c4')) ⟨w.heap.size + 1, 5, none⟩ (.slice A5' a.goal.length c5') (b := w.heap.size) (by simp)).trans (AG _ _ (by simp))).trans (AG _ _ (by simp))).trans HR5.out
 rw [hWb] at hRb
 have hs5b : Ad [w.heap.size + 1, w.heap.size] W5 Wb := by
  rw [← hWb]
  exact ((Ad.setCell _ _ _ (by simp)).trans (Ad.setCell _ _ _ (by simp))).trans (Ad.setCell _ _ _ (by simp))
 have HsWb : Hid (Ad [] w Wb) := Kd (HsW5.out.then hs5b fun x hx => .inr (by simp at hx; omega))
 have Hs5b := Kd hs5b
 clear hs5b hWb b0 b1 b2 b3 b4 b5 b6 b7 b8 b9 b10 b11 b12 b13 b14 b15 b16 bf bl
 obtain ⟨b0, b1, b2, b3, b4, b5, b6, b7, b8, b9, b10, b11, b12, b13, b14, b15, b16, bf⟩ := CL hBb
 have bl := Af hBb
 have HBb := Kd hBb
 have HRb := Kd hRb
 clear hBb hRb
 go_wp2
 refine AD (.read 0 (.read 1 (.read 2 (.read 4 (.read 5 (.read 6 (.one 3 [4, 5, 6] (.one 7 [] (.read 8 (.read 9 (.one 10 [] (.done)))))))))))) (by kernel_rfl) (by kernel_rfl) ?_
 iterate 6 (refine An rfl (fun K hK => ?_); go_simp; (try go_bits); (try (rw [if_pos (by omega)]; go_simp)); refine hK _ ?_; clear hK K)
 refine Ak rfl ?_
 go_wp2_with (go_at_call 49; go_must (refine (hh2 _ (HsWb.out.trans (Ad.drew [] _))).mono ?_; rintro e6 W6 ⟨v6, evs6, rfl, hh6, hf6, hfe6, hs6⟩; obtain ⟨A6', c6', rfl⟩ := hh6.row.shape))
 have hs6' := (Ad.drew [] Wb).trans hs6
 have hB6 := hs6'.get HBb.out (by simp)
 have hR6 := hs6'.get HRb.out (by simp)
 have HsW6 := Kd (HsWb.out.trans hs6')
 clear b0 b1 b2 b3 b4 b5 b6 b7 b8 b9 b10 b11 b12 b13 b14 b15 b16 bf bl
 obtain ⟨b0, b1, b2, b3, b4, b5, b6, b7, b8, b9, b10, b11, b12, b13, b14, b15, b16, bf⟩ := CL hB6
 have bl := Af hB6
 have HB6 := Kd hB6
 have HR6 := Kd hR6
 clear hB6 hR6
 have Hh6 := Kd hh6
 have Hf6 : Hid (AH w (.slice A6' a.shyps.length c6')) := Kd (AH.mono hf6 HsWb.out.size)
 have Hfe6 : Hid (∀ ev ∈ evs6, AH w ev) := Kd (fun ev hev => AH.mono (hfe6 ev hev) HsWb.out.size)
 have Hs56 := Kd (Hs5b.out.trans (hs6'.mono (T := [w.heap.size + 1, w.heap.size]) (by simp)))
 clear hh6 hf6 hfe6 hs6 hs6'
 refine EQ.A ?_
 refine Ak rfl ?_
 go_wp2_with (go_at_call 50; go_must (refine (hp2 _ HsW6.out).mono ?_; rintro e7 W7 ⟨v7, rfl, hr7, hs7, hf7⟩; obtain ⟨A7', c7', rfl⟩ := hr7.shape))
 have hB7 := hs7.get HB6.out (by simp)
 have hR7 := hs7.get HR6.out (by simp)
 have HsW7 := Kd (HsW6.out.trans hs7)
 clear b0 b1 b2 b3 b4 b5 b6 b7 b8 b9 b10 b11 b12 b13 b14 b15 b16 bf bl
 obtain ⟨b0, b1, b2, b3, b4, b5, b6, b7, b8, b9, b10, b11, b12, b13, b14, b15, b16, bf⟩ := CL hB7
 have bl := Af hB7
 have HB7 := Kd hB7
 have HR7 := Kd hR7
 clear hB7 hR7
 have Hr7 := Kd hr7
 have Hf7 : Hid (AH w (.slice A7' a.spairs.length c7')) := Kd (AH.mono hf7 HsW6.out.size)
 have Hs67 := Kd hs7
 clear hr7 hf7 hs7
 refine EQ.A ?_
 iterate 2 (refine An rfl (fun K hK => ?_); go_simp; (try go_bits); (try (rw [if_pos (by omega)]; go_simp)); refine hK _ ?_; clear hK K)
 refine Ak rfl ?_
 go_wp2
 refine EQ.A ?_
 refine AB ?_
 obtain ⟨Wc, hWc⟩ : ∃ Wc, (W7.setCell ⟨w.heap.size + 1, 6, none⟩ (.slice A6' a.shyps.length c6')).setCell ⟨w.heap.size + 1, 7, none⟩ (.slice A7' a.spairs.length c7') = Wc := ⟨_, rfl⟩
 rw [hWc]
 have hBc : Wc.heap[w.heap.size + 1]? = some (asO a (.slice A3' a.hyps.length c3') (.slice A4' a.pairs.length c4') (.slice A5' a.goal.length c5') (.slice A6' a.shyps.length c6') (.slice A7' a.spairs.length c7') (.slice A6 a.proof.length c6)) := by
  rw [← hWc]
  have hx := HB7.out
  unfold asO at hx
  have hx := AI (AI hx 6 (.slice A6' a.shyps.length c6')) 7 (.slice A7' a.spairs.length c7')
  simpa [asO] using hx
 have hRc := ((AG (w := W7.setCell ⟨w.heap.size + 1, 6, none⟩ (.slice A6' a.shyps.length c6')) ⟨w.heap.size + 1, 7, none⟩ (.slice A7' a.spairs.length c7') (b := w.heap.size) (by simp)).trans (AG _ _ (by simp))).trans HR7.out
 rw [hWc] at hRc
 have hs7c : Ad [w.heap.size + 1, w.heap.size] W7 Wc := by
  rw [← hWc]
  exact (Ad.setCell _ _ _ (by simp)).trans (Ad.setCell _ _ _ (by simp))
 have HsWc : Hid (Ad [] w Wc) := Kd (HsW7.out.then hs7c fun x hx => .inr (by simp at hx; omega))
 have Hs7c := Kd hs7c
 clear hs7c hWc b0 b1 b2 b3 b4 b5 b6 b7 b8 b9 b10 b11 b12 b13 b14 b15 b16 bf bl
 obtain ⟨b0, b1, b2, b3, b4, b5, b6, b7, b8, b9, b10, b11, b12, b13, b14, b15, b16, bf⟩ := CL hBc
 have bl := Af hBc
 have HBc := Kd hBc
 have HRc := Kd hRc
 clear hBc hRc
 go_wp2_with (first
  | (go_at_call 52; go_must (refine (ht2 _ HsWc.out).mono ?_; rintro e8 W8 ⟨v8, rfl, hr8, hs8, hf8⟩; obtain ⟨A8', c8', rfl⟩ := hr8.shape; have hB8 := hs8.get HBc.out (by simp); have hR8 := hs8.get HRc.out (by simp); obtain ⟨-, -, -, -, -, -, -, -, d8, -, -, -, -, -, -, -, -, df⟩ := CL hB8; have dl := Af hB8; have HB9 : Hid ((W8.setCell ⟨w.heap.size + 1, 8, none⟩ (.slice A8' a.proof.length c8')).heap[w.heap.size + 1]? = some (.cells #[.int .i64 a.number, .string a.label, .bool a.isThm, .slice A3' a.hyps.length c3', .slice A4' a.pairs.length c4', .slice A5' a.goal.length c5', .slice A6' a.shyps.length c6', .slice A7' a.spairs.length c7', .slice A8' a.proof.length c8', .string a.at_.text, .int .i64 a.at_.at_.off, .int .i64 a.at_.at_.line, .int .i64 a.at_.at_.col, .string a.end_.text, .int .i64 a.end_.at_.off, .int .i64 a.end_.at_.line, .int .i64 a.end_.at_.col] 71 (0, 0))) := Kd (by have hx := hB8; unfold asO at hx; have hx := AI hx 8 (.slice A8' a.proof.length c8'); simpa using hx); have HB8 := Kd hB8; have HR8 := Kd hR8; have Hr8 := Kd hr8; have Hs8 := Kd hs8; have Hf8 := Kd hf8; clear hB8 hR8 hr8 hs8 hf8))
  | (refine wpList_load_row rfl 71 _ rfl (w.heap.size + 1) (by go_simp) 71 #[.int .i64 a.number, .string a.label, .bool a.isThm, .slice A3' a.hyps.length c3', .slice A4' a.pairs.length c4', .slice A5' a.goal.length c5', .slice A6' a.shyps.length c6', .slice A7' a.spairs.length c7', .slice A8' a.proof.length c8', .string a.at_.text, .int .i64 a.at_.at_.off, .int .i64 a.at_.at_.line, .int .i64 a.at_.at_.col, .string a.end_.text, .int .i64 a.end_.at_.off, .int .i64 a.end_.at_.line, .int .i64 a.end_.at_.col] _ _ HB9.out Tryz.underlying71 rfl (by kernel_rfl) ?_)
  | (refine AU rfl 71 _ _ rfl w.heap.size #[.int .i64 a.number, .string a.label, .bool a.isThm, .slice A3' a.hyps.length c3', .slice A4' a.pairs.length c4', .slice A5' a.goal.length c5', .slice A6' a.shyps.length c6', .slice A7' a.spairs.length c7', .slice A8' a.proof.length c8', .string a.at_.text, .int .i64 a.at_.at_.off, .int .i64 a.at_.at_.line, .int .i64 a.at_.at_.col, .string a.end_.text, .int .i64 a.end_.at_.off, .int .i64 a.end_.at_.line, .int .i64 a.end_.at_.col] (by go_simp) (by go_simp) 71 _ ((AG (w := W8) ⟨w.heap.size + 1, 8, none⟩ (.slice A8' a.proof.length c8') (b := w.heap.size) (by simp)).trans HR8.out) (by kernel_rfl) rfl (by simp [Value.oneCell']) ?_; intro W9 hR9 hs9; have HR9 := Kd hR9; have Hs9 := Kd hs9; clear hR9 hs9))
 obtain ⟨y0, y1, y2, y3, y4, y5, y6, y7, y8, y9, y10, y11, y12, y13, y14, y15, y16, yf⟩ := CL (a := a) (fh := .slice A3' a.hyps.length c3') (fp := .slice A4' a.pairs.length c4') (fg := .slice A5' a.goal.length c5') (sh := .slice A6' a.shyps.length c6') (sp := .slice A7' a.spairs.length c7') (pr := .slice A8' a.proof.length c8') HR9.out
 refine bodyPost_ret_by (v := .tuple #[.agg #[.int .i64 a.number, .string a.label, .bool a.isThm, .slice A3' a.hyps.length c3', .slice A4' a.pairs.length c4', .slice A5' a.goal.length c5', .slice A6' a.shyps.length c6', .slice A7' a.spairs.length c7', .slice A8' a.proof.length c8', .string a.at_.text, .int .i64 a.at_.at_.off, .int .i64 a.at_.at_.line, .int .i64 a.at_.at_.col, .string a.end_.text, .int .i64 a.end_.at_.off, .int .i64 a.end_.at_.line, .int .i64 a.end_.at_.col], .int .i64 0]) (by simp [results, Tryz.f22, go_sem, y0, y1, y2, y3, y4, y5, y6, y7, y8, y9, y10, y11, y12, y13, y14, y15, y16]) rfl ?_
 have hs89 : Ad [w.heap.size + 1, w.heap.size] W8 W9 := (Ad.setCell (S := [w.heap.size + 1, w.heap.size]) W8 ⟨w.heap.size + 1, 8, none⟩ (.slice A8' a.proof.length c8') (by simp)).trans (Hs9.out.mono fun x hx => .inl (by simp at hx; simp [hx]))
 have q3 : Ad [w.heap.size + 1, w.heap.size] Wc W9 := (Hs8.out.mono (by simp)).trans hs89
 have q7 := Hs7c.out.trans q3
 have q6 := (Hs67.out.mono (T := [w.heap.size + 1, w.heap.size]) (by simp)).trans q7
 have q5 := Hs56.out.trans q6
 have q4 := (Hs45.out.mono (T := [w.heap.size + 1, w.heap.size]) (by simp)).trans q5
 have q33 := (Hs34.out.mono (T := [w.heap.size + 1, w.heap.size]) (by simp)).trans q4
 refine ⟨⟨.slice A3' a.hyps.length c3', .slice A4' a.pairs.length c4', .slice A5' a.goal.length c5', .slice A6' a.shyps.length c6', .slice A7' a.spairs.length c7', .slice A8' a.proof.length c8', evs3, evs6⟩, rfl, ⟨⟨Hh3.out.fin2 q33 HB3.out HR3.out, by simp, ⟨Hr4.out.fin2 q4 HB4.out HR4.out (by decide), by simp⟩, ⟨Hr5.out.fin2 q5 HB5.out HR5.out (by decide), by simp⟩, Hh6.out.fin2 q6 HB6.out HR6.out, by simp, ⟨Hr7.out.fin2 q7 HB7.out HR7.out (by decide), by simp⟩, ⟨Hr8.out.fin2 hs89 HB8.out HR8.out (by decide), by simp⟩⟩, Hf3.out, Hfe3.out, Hf4.out, Hf5.out, Hf6.out, Hfe6.out, Hf7.out, AH.mono Hf8.out HsWc.out.size⟩, HsWc.out.then q3 fun x hx => .inr (by simp at hx; omega)⟩
structure MP where
 pv : Value
 gv : Value
 ev : Value
 evs : List Value
structure B3 (w : World) (m nb : Nat) (M : MP) (ps : List Pr) (goal : List Int) (st : Stk) : Prop where
 blk : w.heap[m]? = some (.cells #[M.pv, M.gv, fnB nb, M.ev, .int .i64 st.peak, .int .i64 st.count] 191 (0, 0))
 prs : Row w 47 2 M.pv ps.length (AT ps)
 gl : Row w 3 1 M.gv goal.length (Ay goal)
 ents : C5 w 24 M.ev st.entries.length M.evs
 exs : Bm (fun e x => Row w 3 1 x e.length (Ay e)) st.entries M.evs
 nent : st.entries.length ≤ 40
 npeak : st.peak ≤ 1000000
 ncnt : st.count ≤ 1000000
def MP.own (M : MP) (m : Nat) : List Nat := m :: M.ev.ownBlock.toList
theorem B3.same {w w' : World} {m nb : Nat} {M : MP} {ps : List Pr} {goal : List Int} {st : Stk} (h : B3 w m nb M ps goal st) (hs : Ad [] w w') : B3 w' m nb M ps goal st :=
 ⟨hs.get h.blk (by simp), h.prs.same hs (by simp), h.gl.same hs (by simp), h.ents.same hs (by simp), h.exs.imp fun _ _ h => h.same hs (by simp), h.nent, h.npeak, h.ncnt⟩
def Dt (m nb : Nat) (M : MP) (ps : List Pr) (goal : List Int) (st : Stk) (w w' : World) : Prop := ∃ M' : MP, B3 w' m nb M' ps goal st ∧ Ad (M.own m) w w' ∧ ∀ b, M'.ev.ownBlock = some b → M.ev.ownBlock = some b ∨ w.heap.size ≤ b
theorem Dt.of_same {m nb : Nat} {M : MP} {ps : List Pr} {goal : List Int} {st : Stk} {w w' : World} (h : B3 w m nb M ps goal st) (hs : Ad [] w w') : Dt m nb M ps goal st w w' := ⟨M, h.same hs, hs.mono (by simp), fun b hb => .inl hb⟩
theorem B3.keep {w W : World} {m nb : Nat} {M : MP} {ps : List Pr} {goal : List Int} {st : Stk} (h : B3 w m nb M ps goal st) (hs : Ad (M.own m) w W) {e k n : Nat} {v : Value} {xs : List Value} (hr : Row w e k v n xs) (h1 : e ≠ 191) (h2 : 24 ≠ e) : Row W e k v n xs :=
 hr.same hs fun b hb hm => by
  rcases List.mem_cons.1 hm with rfl | hm
  ·exact hr.ne h.blk h1 hb
  ·exact h.ents.ne_row hr h2 hb (Option.mem_toList.1 hm)
theorem B3.turn {w W : World} {m nb : Nat} {M : MP} {ps : List Pr} {goal : List Int} {st st' : Stk} (h : B3 w m nb M ps goal st) (hs : Ad (M.own m) w W) (ev' : Value) (evs' : List Value)
  (hb : W.heap[m]? = some (.cells #[M.pv, M.gv, fnB nb, ev', .int .i64 st'.peak, .int .i64 st'.count] 191 (0, 0))) (he : C5 W 24 ev' st'.entries.length evs') (hx : Bm (fun e x => Row W 3 1 x e.length (Ay e)) st'.entries evs')
  (n1 : st'.entries.length ≤ 40) (n2 : st'.peak ≤ 1000000) (n3 : st'.count ≤ 1000000) : B3 W m nb ⟨M.pv, M.gv, ev', evs'⟩ ps goal st' :=
 ⟨hb, h.keep hs h.prs (by decide) (by decide), h.keep hs h.gl (by decide) (by decide), he, hx, n1, n2, n3⟩
theorem JD {w : World} {b : Nat} {x0 x1 x2 x3 x4 x5 : Value} {t : TypeId} (h : w.heap[b]? = some (.cells #[x0, x1, x2, x3, x4, x5] t (0, 0))) : w.cell? ⟨b, 0, none⟩ = some x0 ∧ w.cell? ⟨b, 1, none⟩ = some x1 ∧ w.cell? ⟨b, 2, none⟩ = some x2 ∧ w.cell? ⟨b, 3, none⟩ = some x3 ∧ w.cell? ⟨b, 4, none⟩ = some x4 ∧ w.cell? ⟨b, 5, none⟩ = some x5 ∧ ∀ i, w.frozen? ⟨b, i, none⟩ = false :=
 ⟨Ai h, Ai h, Ai h, Ai h, Ai h, Ai h, AE h⟩
theorem Tryz.infoInts : (Tryz.prog.info? 24).map (fun i => (i.zero, i.size, i.bytes)) = some (some (.slice none 0 0), 1, 24) := by kernel_rfl
theorem zq79 {P : Prop} (h : P := by
 simp only [List.setIfInBounds_toArray, List.set_cons_succ, List.set_cons_zero] at h1
 exact h1) : P := h
theorem Lc (w : World) (m nb : Nat) (M : MP) (ps : List Pr) (goal : List Int) (st : Stk) (h : B3 w m nb M ps goal st) (x : Value) (e : List Int) (hx : Row w 3 1 x e.length (Ay e)) (hn : st.entries.length < 40) :
  Calls Tryz.prog 141 #[.pointer (some ⟨m, 0, none⟩), x] w fun r w' => r = .returned (.tuple #[]) ∧ Dt m nb M ps goal (st.lay e) w w' := by
 obtain ⟨c0, c1, c2, c3, c4, c5, cf⟩ := JD h.blk
 have cl := Af h.blk
 obtain ⟨Ae, ce, hev⟩ := h.ents.shape
 obtain ⟨Ax, cx, rfl⟩ := hx.shape
 rw [hev] at c3
 have hw1 : ∀ o : Obj, C5 (w.alloc o) 24 (.slice Ae st.entries.length ce) st.entries.length M.evs := fun o => by rw [← hev]; exact h.ents.same (Ad.alloc [] _ _) (by simp)
 have Hh := Kd h
 have Hx := Kd hx
 have Hev := Kd hev
 clear h hx hev
 go_enter Tryz.func141, Tryz.ntmps141
 go_wp2_with (at_builtin; go_must (refine PB rfl _ _ 189 rfl 24 24 _ Tryz.underlying189 Tryz.infoInts rfl (.slice Ae st.entries.length ce) _ M.evs w.heap.size rfl rfl (hw1 _) (.slice Ax e.length cx) (Aj _ _) rfl (by omega) (by decide) ?_; intro v6 W6 hr6 hs6 ho6; obtain ⟨A6, c6, rfl⟩ := hr6.shape; have hb6 := hs6.get (AR Hh.out.blk _) (fun hm => Hh.out.ents.ne Hh.out.blk (by decide) (by rw [Hev.out]; exact Option.mem_toList.1 hm)); obtain ⟨d0, d1, d2, d3, d4, d5, df⟩ := JD hb6; have dl := Af hb6; have Hr6 := Kd hr6; have Hs6 := Kd hs6; have Ho6 := Kd ho6; have Hb6 := Kd hb6; clear hr6 hs6 ho6 hb6))
 refine AD (.read 0 (.read 1 (.read 2 (.read 3 (.read 4 (.read 5 (.read 6 (.read 7 (.read 8 (.read 9 (.read 10 (.read 11 (.read 12 (.one 13 [] (.done))))))))))))))) (by kernel_rfl) (by kernel_rfl) ?_
 iterate 13 (refine An rfl (fun K hK => ?_); go_simp; (try go_bits); (try (rw [if_pos (by omega)]; go_simp)); refine hK _ ?_; clear hK K)
 refine Ak rfl ?_
 go_wp2
 refine EQ.A ?_
 refine AB ?_
 go_wp2
 go_end0
 have hsame : Ad (M.own m) w ((W6.setCell ⟨m, 3, none⟩ (.slice A6 (st.entries.length + 1) c6)).drew.setCell ⟨m, 4, none⟩ (.int .i64 (max (st.peak : Int) ((st.entries.length : Int) + 1)))) := by
  have h6 : Ad (m :: M.ev.ownBlock.toList) w W6 := (Ad.alloc _ w _).trans (Hs6.out.mono fun x hx => .inl (List.mem_cons_of_mem _ (by rw [Hev.out]; exact hx)))
  exact ((h6.set _ _ (List.mem_cons_self ..)).drew').set _ _ (List.mem_cons_self ..)
 have hnm : ∀ b, (Value.slice A6 (st.entries.length + 1) c6).ownBlock = some b → b ∉ [m] := fun b hb hm => by
  rw [List.mem_singleton] at hm
  subst hm
  exact Hr6.out.ne Hb6.out (by decide) hb
 refine ⟨rfl, ⟨M.pv, M.gv, .slice A6 (st.entries.length + 1) c6, M.evs ++ [.slice Ax e.length cx]⟩, ?_, ?_, fun b hb => ?_⟩
 ·refine Hh.out.turn ?_ _ _ ?_ ?_ ?_ ?_ ?_ ?_
  ·exact hsame
  ·have h1 := AI (w := (W6.setCell ⟨m, 3, none⟩ (.slice A6 (st.entries.length + 1) c6)).drew) (AI Hb6.out 3 (.slice A6 (st.entries.length + 1) c6)) 4 (.int .i64 (max (st.peak : Int) ((st.entries.length : Int) + 1)))
   have e1 : max (st.peak : Int) ((st.entries.length : Int) + 1) = ((st.lay e).peak : Nat) := by simp [Stk.lay]; omega
   rw [e1] at h1 ⊢
   exact zq79
  ·have e2 : (st.lay e).entries.length = st.entries.length + 1 := by simp [Stk.lay]
   rw [e2]
   exact ((Hr6.out.same (Ad.setCell (S := [m]) W6 _ _ (by simp)) hnm).same (Ad.drew [] _) (by simp)).same (Ad.setCell (S := [m]) _ _ _ (by simp)) hnm
  ·exact (Hh.out.exs.imp fun _ _ hr => Hh.out.keep hsame hr (by decide) (by decide)).snoc (Hh.out.keep hsame Hx.out (by decide) (by decide))
  ·simp [Stk.lay]; omega
  ·have := Hh.out.npeak; simp [Stk.lay]; omega
  ·exact Hh.out.ncnt
 ·exact hsame
 ·rcases Ho6.out with ho | ⟨c, hc, hle⟩
  ·left; rw [Hev.out, ← ho]; exact hb
  ·rw [hc] at hb; cases hb; rw [AA] at hle; exact .inr (by omega)
theorem Dt.before {m nb : Nat} {M : MP} {ps : List Pr} {goal : List Int} {st : Stk} {w w1 w' : World} (h : Dt m nb M ps goal st w1 w') (hs : Ad [] w w1) : Dt m nb M ps goal st w w' := by
 obtain ⟨M', h1, h2, h3⟩ := h
 exact ⟨M', h1, (hs.mono (by simp)).trans h2, fun b hb => (h3 b hb).imp_right fun h => Nat.le_trans hs.size h⟩
def Q9 (m nb : Nat) (M : MP) (ps : List Pr) (goal : List Int) (x : Nat × Stk) (w : World) (r : Ending) (w' : World) : Prop := r = .returned (.int .i64 x.1) ∧ Dt m nb M ps goal x.2 w w'
theorem Np (w : World) (m nb : Nat) (M : MP) (ps : List Pr) (goal : List Int) (st : Stk) (h : B3 w m nb M ps goal st) (x : Value) (e : List Int) (hx : Seg w x e) (hn : e.length ≤ 1000000) :
  Calls Tryz.prog 96 #[.pointer (some ⟨m, 0, none⟩), x] w (Q9 m nb M ps goal (st.push e) w) := by
 obtain ⟨c0, c1, c2, c3, c4, c5, cf⟩ := JD h.blk
 have cl := Af h.blk
 obtain ⟨Ae, ce, hev⟩ := h.ents.shape
 rw [hev] at c3
 have hne := h.nent
 obtain ⟨Ax, cx, rfl⟩ := hx.shape
 by_cases hb : 40 ≤ st.entries.length
 ·have hp : st.push e = (117, st) := if_pos hb
  rw [hp]
  have Hh := Kd h
  clear h hx hev hp
  go_enter Tryz.func96, Tryz.ntmps96
  go_wp2
  go_ret
  exact ⟨rfl, Dt.of_same Hh.out (Ad.refl _ _)⟩
 ·have hp : st.push e = (0, st.lay e) := if_neg hb
  rw [hp]
  have hcl := Cb _ e w hx hn
  have hly := fun (W : World) (hW : Ad [] w W) (v : Value) (hv : Row W 3 1 v e.length (Ay e)) => Lc W m nb M ps goal st (h.same hW) v e hv (by omega)
  clear h hx hev hp
  go_enter Tryz.func96, Tryz.ntmps96
  go_wp2_with (first
   | (go_at_call 51; go_must (refine hcl.mono ?_; rintro e1 W1 ⟨v1, rfl, hr1, hs1, hf1⟩; have Hr1 := Kd hr1; have Hs1 := Kd hs1; clear hr1 hs1 hf1))
   | (go_at_call 141; go_must (refine (hly W1 Hs1.out _ Hr1.out).mono ?_; rintro e2 W2 ⟨rfl, hm2⟩; have Hm2 := Kd hm2; clear hm2)))
  go_ret
  exact ⟨rfl, Hm2.out.before Hs1.out⟩
def Stk.endN (st : Stk) (goal : List Int) : Nat := if st.entries.length ≠ 1 then 118 else if st.entries.headD [] ≠ goal then 119 else 0
theorem zq51 {P : Prop} (h : P := by
 have heq2 := fun (W : World) (hW : Ad [] w W) => heq W hW
 simp only [hd] at heq2
 clear h he hhd hel hgl heq hr hc h1 h2 h4 hev hn hn1 h0l hq hd hen hE hgv
 go_enter Tryz.func95, Tryz.ntmps95
 go_wp2
 go_quiet ((go_at_call 140; exact Calls.quiet_of_same (heq2 _ (by first | exact Ad.refl _ _ | exact Ad.drewN _ _ _ | exact Ad.drew _ _))))
 go_wp2
 go_ret
 exact ⟨rfl, Ad.drewN _ _ _⟩) : P := h
theorem Pl (w : World) (m nb : Nat) (M : MP) (ps : List Pr) (goal : List Int) (st : Stk) (h : B3 w m nb M ps goal st) (hg : goal.length ≤ 1000000) (he : ∀ e ∈ st.entries, e.length ≤ 1000000) :
  Calls Tryz.prog 95 #[.pointer (some ⟨m, 0, none⟩)] w fun r w' => r = .returned (.int .i64 (st.endN goal)) ∧ Ad [] w w' := by
 obtain ⟨c0, c1, c2, c3, c4, c5, cf⟩ := JD h.blk
 have cl := Af h.blk
 obtain ⟨Ae, ce, hev⟩ := h.ents.shape
 rw [hev] at c3
 by_cases hn : st.entries.length = 1
 ·have hc := h.ents.sub
  rcases hc with ⟨_, h0⟩ | hc
  ·omega
  ·obtain ⟨g, off, c', h1, h2, h3, h4⟩ := hc.ex
   rw [h1] at hev
   cases hev
   have h0l : 0 < st.entries.length := by omega
   obtain ⟨ev, hev, hr⟩ := h.exs.get (List.getElem?_eq_getElem h0l)
   have t0 := h4 0 ev hev
   rw [Nat.add_zero] at t0
   obtain ⟨E, hE⟩ : ∃ E, st.entries[0] = E := ⟨_, rfl⟩
   rw [hE] at hr
   have hhd : st.entries.headD [] = E := by
    cases hst : st.entries with
    | nil => rw [hst] at h0l; simp at h0l
    | cons a l => simp only [hst, List.getElem_cons_zero] at hE; rw [← hE]; rfl
   have hel : E.length ≤ 1000000 := by rw [← hE]; exact he _ (List.getElem_mem h0l)
   obtain ⟨Av, cv, rfl⟩ := hr.shape
   obtain ⟨Ag, cg, hgv⟩ := h.gl.shape
   rw [hgv] at c1
   have hgl := h.gl
   rw [hgv] at hgl
   have heq := fun (W : World) (hW : Ad [] w W) => FY W _ _ E goal (Seg.of_row (hr.same hW (by simp))) (Seg.of_row (hgl.same hW (by simp))) hel hg
   have hen : st.endN goal = if E ≠ goal then 119 else 0 := by unfold Stk.endN; rw [if_neg (by omega), hhd]
   rw [hen]
   have hn1 : (st.entries.length : Int) = 1 := by omega
   rw [hn] at c3
   by_cases hq : E = goal
   ·rw [if_neg (by simpa using hq)]
    have hd : decide (E = goal) = true := decide_eq_true hq
    exact zq51
   ·rw [if_pos (by simpa using hq)]
    have hd : decide (E = goal) = false := decide_eq_false hq
    exact zq51
 ·have hen : st.endN goal = 118 := if_pos hn
  rw [hen]
  have hne : ((st.entries.length : Int) != 1) = true := by simp; omega
  clear h he hen hn hev
  go_enter Tryz.func95, Tryz.ntmps95
  go_wp2
  go_ret
  exact ⟨rfl, Ad.refl _ _⟩
def cxV (hv pv mv : Value) (before : Int) (gv : Value) : Value := .agg #[hv, pv, mv, .int .i64 before, gv]
theorem N2 (w : World) (nb : Nat) (hv pv mv gv : Value) (before : Int) (ps : List Pr) (goal : List Int) (hp : Row w 47 2 pv ps.length (AT ps)) (hg : Seg w gv goal) (hn : ps.length ≤ 1000000) (hn2 : goal.length ≤ 1000000) :
  Calls Tryz.prog 91 #[cxV hv pv mv before gv, fnB nb] w fun r w' => ∃ m M, r = .returned (.pointer (some ⟨m, 0, none⟩)) ∧ B3 w' m nb M ps goal ⟨[], 0, 0⟩ ∧ M.ev = .slice none 0 0 ∧ w.heap.size ≤ m ∧ Ad [] w w' := by
 unfold cxV fnB
 have hp2 := fun (W : World) (hW : Ad [] w W) => DV pv ps.length _ W (hp.same hW (by simp)) (Lo _) hn
 have hg2 := fun (W : World) (hW : Ad [] w W) => Cb gv goal W (hg.same hW) hn2
 obtain ⟨Ap, cp, rfl⟩ := hp.shape
 obtain ⟨Ag, cg, rfl⟩ := hg.shape
 have hB0 : (w.alloc (.cells #[hv, .slice Ap ps.length cp, mv, .int .i64 before, .slice Ag goal.length cg] 35)).heap[w.heap.size]? = some (.cells #[hv, .slice Ap ps.length cp, mv, .int .i64 before, .slice Ag goal.length cg] 35 (0, 0)) := Aj _ _
 have HB0 := Kd hB0
 clear hp hg hB0
 go_enter Tryz.func91, Tryz.ntmps91
 go_wp2
 refine AD (.read 0 (.read 1 (.read 3 (.read 4 (.read 6 (.one 2 [3, 4, 6] (.one 5 [6] (.read 7 (.one 8 [] (.read 9 (.done))))))))))) (by kernel_rfl) (by kernel_rfl) ?_
 iterate 5 (refine An rfl (fun K hK => ?_); go_simp; (try go_bits); (try (rw [if_pos (by omega)]; go_simp)); refine hK _ ?_; clear hK K)
 refine Ak rfl ?_
 go_wp2_with (go_at_call 50; go_must (refine (hp2 _ ((Ad.alloc [] _ _).trans (Ad.drew [] _))).mono ?_; rintro e1 W1 ⟨v1, rfl, hr1, hs1, hf1⟩; obtain ⟨A1, c1, rfl⟩ := hr1.shape))
 have hB1 := hs1.get ((K3 _ _).trans HB0.out) (by simp)
 have d4 := Ai (i := 4) (v := .slice Ag goal.length cg) hB1
 have dl := Af hB1
 have Hs1 : Hid (Ad [] w W1) := Kd (((Ad.alloc [] _ _).trans (Ad.drew [] _)).trans hs1)
 have Hr1 := Kd hr1
 clear hs1 hr1 hf1 hB1
 refine EQ.A ?_
 refine Ak rfl ?_
 go_wp2_with (go_at_call 51; go_must (refine (hg2 _ Hs1.out).mono ?_; rintro e2 W2 ⟨v2, rfl, hr2, hs2, hf2⟩; obtain ⟨A2, c2, rfl⟩ := hr2.shape))
 have Hs2 := Kd hs2
 have Hr2 := Kd hr2
 clear hs2 hr2 hf2
 refine EQ.A ?_
 iterate 1 (refine An rfl (fun K hK => ?_); go_simp; (try go_bits); (try (rw [if_pos (by omega)]; go_simp)); refine hK _ ?_; clear hK K)
 refine Ak rfl ?_
 go_wp2
 refine EQ.A ?_
 iterate 1 (refine An rfl (fun K hK => ?_); go_simp; (try go_bits); (try (rw [if_pos (by omega)]; go_simp)); refine hK _ ?_; clear hK K)
 refine AB ?_
 go_wp2
 go_ret
 refine ⟨W2.heap.size, ⟨.slice A1 ps.length c1, .slice A2 goal.length c2, .slice none 0 0, []⟩, rfl, ⟨Aj _ _, (Hr1.out.same Hs2.out (by simp)).same (Ad.alloc [] _ _) (by simp), Hr2.out.same (Ad.alloc [] _ _) (by simp), C5.nil _ _, trivial, by simp, by simp, by simp⟩, rfl, (Hs1.out.trans Hs2.out).size, (Hs1.out.trans Hs2.out).trans (Ad.alloc _ _ _)⟩
end Go.Proofs.YtbfbgfpghkijdaaGreatDoor
