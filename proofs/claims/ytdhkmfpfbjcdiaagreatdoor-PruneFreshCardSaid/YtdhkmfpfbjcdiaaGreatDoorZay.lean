/- lemmalaw texts, part 25. -/
import Derived.Test.YtdhkmfpfbjcdiaaGreatDoorZax
set_option maxRecDepth 100000
set_option linter.unusedVariables false
set_option linter.unusedSimpArgs false
namespace Go.Proofs.YtdhkmfpfbjcdiaaGreatDoor
open Go.RowKit
def stV (s : St) (wv pv : Value) : Value := .agg #[.int .i64 s.kind, .string s.label.text, .int .i64 s.label.at_.off, .int .i64 s.label.at_.line, .int .i64 s.label.at_.col, .string s.key.text, .int .i64 s.key.at_.off, .int .i64 s.key.at_.line, .int .i64 s.key.at_.col, .bool s.proving, wv, pv, .string s.end_.text, .int .i64 s.end_.at_.off, .int .i64 s.end_.at_.line, .int .i64 s.end_.at_.col]
def stO (s : St) (wv pv : Value) : Obj := .cells #[.int .i64 s.kind, .string s.label.text, .int .i64 s.label.at_.off, .int .i64 s.label.at_.line, .int .i64 s.label.at_.col, .string s.key.text, .int .i64 s.key.at_.off, .int .i64 s.key.at_.line, .int .i64 s.key.at_.col, .bool s.proving, wv, pv, .string s.end_.text, .int .i64 s.end_.at_.off, .int .i64 s.end_.at_.line, .int .i64 s.end_.at_.col] 73
theorem stO_cells {w : World} {b : Nat} {s : St} {wv pv : Value} (h : w.heap[b]? = some (stO s wv pv)) : w.cell? ⟨b, 0, none⟩ = some (.int .i64 s.kind) ∧ w.cell? ⟨b, 1, none⟩ = some (.string s.label.text) ∧ w.cell? ⟨b, 2, none⟩ = some (.int .i64 s.label.at_.off) ∧ w.cell? ⟨b, 3, none⟩ = some (.int .i64 s.label.at_.line) ∧ w.cell? ⟨b, 4, none⟩ = some (.int .i64 s.label.at_.col) ∧
    w.cell? ⟨b, 5, none⟩ = some (.string s.key.text) ∧ w.cell? ⟨b, 6, none⟩ = some (.int .i64 s.key.at_.off) ∧ w.cell? ⟨b, 7, none⟩ = some (.int .i64 s.key.at_.line) ∧ w.cell? ⟨b, 8, none⟩ = some (.int .i64 s.key.at_.col) ∧ w.cell? ⟨b, 9, none⟩ = some (.bool s.proving) ∧ w.cell? ⟨b, 10, none⟩ = some wv ∧ w.cell? ⟨b, 11, none⟩ = some pv ∧
    w.cell? ⟨b, 12, none⟩ = some (.string s.end_.text) ∧ w.cell? ⟨b, 13, none⟩ = some (.int .i64 s.end_.at_.off) ∧ w.cell? ⟨b, 14, none⟩ = some (.int .i64 s.end_.at_.line) ∧ w.cell? ⟨b, 15, none⟩ = some (.int .i64 s.end_.at_.col) ∧ ∀ i, w.frozen? ⟨b, i, none⟩ = false := by
  unfold stO at h
  exact ⟨blk_c h, blk_c h, blk_c h, blk_c h, blk_c h, blk_c h, blk_c h, blk_c h, blk_c h, blk_c h, blk_c h, blk_c h, blk_c h, blk_c h, blk_c h, blk_c h, blk_free h⟩
theorem need_ok (w : World) (t : Tk) (n : Nat) (h : n = 0) : Calls Tryz.prog 63 #[tkV t, .int .i64 n] w fun e w' => e = .returned (.tuple #[]) ∧ Same [] w w' := by
  refine (need_calls w t n).mono fun e w' hr => ?_
  rw [NeedR, if_pos h] at hr
  exact hr
theorem need_bad (w : World) (t : Tk) (n : Nat) (h : n ≠ 0) : Calls Tryz.prog 63 #[tkV t, .int .i64 n] w (StopR t n w) := by
  refine (need_calls w t n).mono fun e w' hr => ?_
  rw [NeedR, if_neg h] at hr
  exact hr
def hyV (x : Hy) (ev : Value) : Value := .agg #[.string x.label, .bool x.floating, .int .i64 x.var, ev]
set_option maxHeartbeats 4000000 in
theorem lhyp_calls (w : World) (F : LF) (V : LV) (L : Ld) (h : LdAt w F V L) (hl : L.labels ≤ 1000000) (s : St) (Aw Ap : Option Addr) (nw cw np cp : Nat) (x : Hy) (hs : x.label.size ≤ maxLen) (ev : Value) (hv : Ints w (V.blocks F) ev x.expr) :
    Calls Tryz.prog 74 #[.pointer (some ⟨F.l, 0, none⟩), stV s (.slice Aw nw cw) (.slice Ap np cp), hyV x ev] w (LdX F V (L.hyp s x) w) := by
  have l0 := blk_c (i := 0) (v := .pointer (some ⟨F.nb, 0, none⟩)) h.lb
  have l2 := blk_c (i := 2) (v := .int .i64 L.labels) h.lb
  have lf := blk_free h.lb
  have ll := blk_lt h.lb
  have n2 := blk_c (i := 2) (v := .pointer (some ⟨F.t, 0, none⟩)) h.nbb
  have n6 := blk_c (i := 6) (v := .map (some F.mh)) h.nbb
  have nl := blk_lt h.nbb
  obtain ⟨Ae, ce, rfl⟩ := hv.row.shape
  have hlt := h.lt
  have H := Lib.hid h
  have Hv := Lib.hid hv
  have Hlt := Lib.hid hlt
  unfold stV hyV
  clear h hv hlt
  go_enter Tryz.func74, Tryz.ntmps74
  go_wp2
  obtain ⟨W2, hW2⟩ : ∃ W2, ((w.setCell ⟨F.l, 2, none⟩ (.int .i64 ((L.labels : Int) + 1))).alloc (stO s (.slice Aw nw cw) (.slice Ap np cp))).alloc (.cells #[.string x.label, .bool x.floating, .int .i64 x.var, .slice Ae x.expr.length ce] 150) = W2 := ⟨_, rfl⟩
  have hW2' := hW2
  unfold stO at hW2'
  rw [hW2']
  have key : LdAt W2 F V { L with labels := L.labels + 1 } ∧ Move (V.blocks F) (V.blocks F) w W2 ∧ W2.heap[w.heap.size]? = some (stO s (.slice Aw nw cw) (.slice Ap np cp)) ∧ W2.heap[w.heap.size + 1]? = some (.cells #[.string x.label, .bool x.floating, .int .i64 x.var, .slice Ae x.expr.length ce] 150 (0, 0)) := by
    have hb1 := blk_set H.out.lb 2 (.int .i64 ((L.labels : Int) + 1))
    obtain ⟨h1, m1⟩ := H.out.setLabels (n := L.labels + 1) (by simpa using hb1) (Same.setCell w _ _ (S := [F.l]) (by simp))
    have hz := size_set' w ⟨F.l, 2, none⟩ (.int .i64 ((L.labels : Int) + 1))
    have hs2 : Same [] (w.setCell ⟨F.l, 2, none⟩ (.int .i64 ((L.labels : Int) + 1))) W2 := by rw [← hW2]; exact (Same.alloc _ _ _).trans (Same.alloc _ _ _)
    refine ⟨h1.same hs2, m1.trans (Move.of_same hs2), ?_, ?_⟩
    · rw [← hW2, ← hz]
      exact blk_old (blk_new _ _) _
    · have := blk_new ((w.setCell ⟨F.l, 2, none⟩ (.int .i64 ((L.labels : Int) + 1))).alloc (stO s (.slice Aw nw cw) (.slice Ap np cp))) (.cells #[.string x.label, .bool x.floating, .int .i64 x.var, .slice Ae x.expr.length ce] 150)
      rw [size_alloc', hz, hW2] at this
      exact this
  obtain ⟨hL2, hm2, hS2, hX2⟩ := key
  clear hW2 hW2' l0 l2 lf ll n2 n6 nl
  have l0 := blk_c (i := 0) (v := .pointer (some ⟨F.nb, 0, none⟩)) hL2.lb
  have ll := blk_lt hL2.lb
  have n2 := blk_c (i := 2) (v := .pointer (some ⟨F.t, 0, none⟩)) hL2.nbb
  have n6 := blk_c (i := 6) (v := .map (some F.mh)) hL2.nbb
  have nl := blk_lt hL2.nbb
  obtain ⟨s0, s1, s2, s3, s4, s5, s6, s7, s8, s9, s10, s11, s12, s13, s14, s15, sf⟩ := stO_cells hS2
  obtain ⟨x0, x1, x2, x3, xf⟩ := blk4 hX2
  have sl := blk_lt hS2
  have xl := blk_lt hX2
  have hlb := fun (W : World) (hW : Same [] W2 W) => symLabel_calls W F.t V.TA L.tbl (hL2.tbl.same hW (by simp)) x.label hs
  have hnok := fun W n hn => need_ok W s.label n hn
  have hnbad := fun W n hn => need_bad W s.label n hn
  unfold tkV at hnok hnbad
  have HL2 := Lib.hid hL2
  have Hm2 := Lib.hid hm2
  have HS2 := Lib.hid hS2
  have HX2 := Lib.hid hX2
  clear hL2 hm2 hS2 hX2
  refine region_canonP (.read 0 (.read 1 (.read 2 (.read 3 (.read 4 (.read 5 (.read 6 (.read 7 (.read 8 (.read 9 (.read 10 (.one 11 [0, 1] (.one 12 [] (.done)))))))))))))) (by kernel_rfl) (by kernel_rfl) ?_
  iterate 11 (refine canonP_read rfl (fun K hK => ?_); go_simp; (try go_bits); (try (rw [if_pos (by omega)]; go_simp)); refine hK _ ?_; clear hK K)
  refine canonP_oneL rfl ?_
  go_wp2_with (go_at_call 132; go_must (refine (hlb _ (Same.drew [] _)).mono ?_; rintro e3 W3 ⟨rfl, TA3, hT3, hm3⟩))
  obtain ⟨hL3, hmv3⟩ := (HL2.out.same (Same.drew [] W2)).setTbl hT3 hm3
  dsimp only at hL3 hmv3
  have hmv03 := (Hm2.out.trans (Move.of_same (Same.drew [] W2))).trans hmv3
  have hS3 := hm3.same.get ((Same.drew [] W2).get HS2.out (by simp)) (fun hm => by have := HL2.out.tbl.lt _ hm; have h3 := Hlt.out _ (LV.mem.2 (.inr (.inr (.inr (.inr (.inr (.inr (.inl hm)))))))); omega)
  have hX3 := hm3.same.get ((Same.drew [] W2).get HX2.out (by simp)) (fun hm => by have := HL2.out.tbl.lt _ hm; have h3 := Hlt.out _ (LV.mem.2 (.inr (.inr (.inr (.inr (.inr (.inr (.inl hm)))))))); omega)
  clear hT3 hm3 l0 ll n2 n6 nl x0 x1 x2 x3 xf xl s0 s1 s2 s3 s4 s5 s6 s7 s8 s9 s10 s11 s12 s13 s14 s15 sf sl
  have l0 := blk_c (i := 0) (v := .pointer (some ⟨F.nb, 0, none⟩)) hL3.lb
  have ll := blk_lt hL3.lb
  have n6 := blk_c (i := 6) (v := .map (some F.mh)) hL3.nbb
  have nl := blk_lt hL3.nbb
  obtain ⟨x0, x1, x2, x3, xf⟩ := blk4 hX3
  obtain ⟨s0, s1, s2, s3, s4, s5, s6, s7, s8, s9, s10, s11, s12, s13, s14, s15, sf⟩ := stO_cells hS3
  have sl := blk_lt hS3
  have xl := blk_lt hX3
  have HL3 := Lib.hid hL3
  have Hmv3 := Lib.hid hmv03
  have HX3 := Lib.hid hX3
  clear hL3 hmv3 hmv03 hX3 hS3
  refine EP.mk rfl ?_ ?_
  · repeat (first | exact rr_nil | (refine rr_skip rfl ?_) | (refine rr_cons rfl (by go_simp; (try go_bits); (try (rw [if_pos (by omega)]; go_simp)); (try trivial)) ?_))
  refine canonP_oneL rfl ?_
  by_cases hz : (L.tbl.label x.label).1 = 0
  · have hr : L.hyp s x = .ok { L with labels := L.labels + 1, tbl := (L.tbl.label x.label).2, hyps := aput x.label x L.hyps } := by unfold Ld.hyp needE; rw [if_pos hz]; rfl
    rw [hr]
    have HZ := Lib.hid hz
    clear hz
    go_wp2_with (go_at_call 63; go_must (refine (hnok _ _ HZ.out).mono ?_; rintro e4 W4 ⟨rfl, hs4⟩))
    have hL4 := HL3.out.same hs4
    have hX4 := hs4.get HX3.out (by simp)
    have Hmv4 := Lib.hid (Hmv3.out.trans (Move.of_same hs4))
    clear hs4 l0 ll n6 nl x0 x1 x2 x3 xf xl s0 s1 s2 s3 s4 s5 s6 s7 s8 s9 s10 s11 s12 s13 s14 s15 sf sl
    refine EP.mk rfl ?_ ?_
    · repeat (first | exact rr_nil | (refine rr_skip rfl ?_) | (refine rr_cons rfl (by go_simp; (try go_bits); (try (rw [if_pos (by omega)]; go_simp)); (try trivial)) ?_))
    refine canonP_done ?_
    have l0 := blk_c (i := 0) (v := .pointer (some ⟨F.nb, 0, none⟩)) hL4.lb
    have ll := blk_lt hL4.lb
    have n6 := blk_c (i := 6) (v := .map (some F.mh)) hL4.nbb
    have nl := blk_lt hL4.nbb
    obtain ⟨x0, x1, x2, x3, xf⟩ := blk4 hX4
    have xl := blk_lt hX4
    have HL4 := Lib.hid hL4
    clear hL4 hX4
    go_wp2
    refine region_canon (.read 0 (.read 1 (.read 2 (.read 3 (.read 4 (.read 5 (.read 6 (.read 7 (.read 8 (.read 9 (.one 10 [] (.done)))))))))))) (by kernel_rfl) (by kernel_rfl) ?_
    iterate 10 (refine canon_read rfl (fun K hK => ?_); go_simp; (try go_bits); (try (rw [if_pos (by omega)]; go_simp)); refine hK _ ?_; clear hK K)
    refine canon_oneL rfl ?_
    refine wp_sput (HL4.out.hyps.same (Same.drew [] _) (by simp)) Tryz.underlying81 Tryz.underlying9 rfl _ _ _ rfl x.label (.agg #[.string x.label, .bool x.floating, .int .i64 x.var, .slice Ae x.expr.length ce]) (by go_simp) (by go_simp) (by go_simp) ?_
    intro W5 hm5 hs5
    have hL5 := HL4.out.same (Same.drew [] W4)
    have hv4 : Ints W4.drew (LV.blocks { V with TA := TA3 } F) (.slice Ae x.expr.length ce) x.expr := Hv.out.move (Hmv4.out.trans (Move.of_same (Same.drew [] W4)))
    obtain ⟨hL6, hm6⟩ := hL5.setHyp x.label x hv4 hm5 hs5
    have Hm6 := Lib.hid ((Hmv4.out.trans (Move.of_same (Same.drew [] W4))).trans hm6)
    have HL6 := Lib.hid hL6
    clear hL5 hv4 hL6 hm6
    go_wp2
    refine EQ.mk rfl ?_ ?_
    · repeat (first | exact rr_nil | (refine rr_skip rfl ?_) | (refine rr_cons rfl (by go_simp; (try go_bits); (try (rw [if_pos (by omega)]; go_simp)); (try trivial)) ?_))
    refine canon_done ?_
    go_wp2
    refine bodyPost_end (results_none rfl _ _ _) rfl ?_
    exact ⟨rfl, _, HL6.out, Hm6.out⟩
  · have hr : L.hyp s x = .error (s.label, (L.tbl.label x.label).1) := by unfold Ld.hyp needE; rw [if_neg hz]; rfl
    rw [hr]
    have HZ := Lib.hid hz
    clear hz
    go_wp2_with (go_at_call 63; go_must (refine (hnbad _ _ HZ.out).mono ?_; rintro e4 W4 ⟨b, rfl, hf, hs4⟩))
    refine ⟨rfl, fun a' ha' => ⟨ha', ?_⟩⟩
    exact ⟨b, rfl, hf, Hmv3.out.same.then (hs4.mono (T := V.blocks F) (by simp)) fun _ hx => .inl hx⟩
end Go.Proofs.YtdhkmfpfbjcdiaaGreatDoor
namespace Go.Proofs.YtdhkmfpfbjcdiaaGreatDoor
open Go.RowKit
structure LRd where
  out : List (Int × Tk)
  n : Nat
  within : Bool
def LRd.tell (r : LRd) (n : Int) (t : Tk) : LRd := ⟨r.out ++ [(n, t)], 0, false⟩
def LRd.broken (r : LRd) (t : Tk) : LRd := if r.within = true then r.tell (-3) t else r
def meaningN (c : Nat) : Int := if c = 90 then -1 else if c = 63 then -2 else -3
def LRd.letter (r : LRd) (c : Nat) (t : Tk) : LRd :=
  if 85 ≤ c ∧ c ≤ 89 then ⟨r.out, min (r.n * 5 + (c - 85) + 1) 1125899906842624, true⟩
  else if 65 ≤ c ∧ c ≤ 84 then r.tell ((min (r.n * 20 + (c - 65)) 1125899906842624 : Nat) : Int) t
  else (r.broken t).tell (meaningN c) t
def codeCells (l : List (Int × Tk)) : List Value := l.flatMap fun p => .int .i64 p.1 :: p.2.cells
theorem codeCells_snoc (l : List (Int × Tk)) (n : Int) (t : Tk) : codeCells (l ++ [(n, t)]) = codeCells l ++ [.int .i64 n, .string t.text, .int .i64 t.at_.off, .int .i64 t.at_.line, .int .i64 t.at_.col] := by simp [codeCells, Tk.cells, Ps.cells]
structure LrAt (w : World) (r : Nat) (v : Value) (R : LRd) : Prop where
  blk : w.heap[r]? = some (.cells #[v, .int .i64 R.n, .bool R.within] 251 (0, 0))
  row : Row w 278 5 v R.out.length (codeCells R.out)
theorem LrAt.same {w w' : World} {r : Nat} {v : Value} {R : LRd} (h : LrAt w r v R) (hs : Same [] w w') : LrAt w' r v R := ⟨hs.get h.blk (by simp), h.row.same hs (by simp)⟩
def LrR (r : Nat) (v : Value) (R' : LRd) (w w' : World) : Prop := ∃ v', LrAt w' r v' R' ∧ Same (r :: v.ownBlock.toList) w w' ∧ (v'.ownBlock = v.ownBlock ∨ ∃ b, v'.ownBlock = some b ∧ w.heap.size ≤ b)
theorem LrR.then {r : Nat} {v v1 : Value} {R' : LRd} {w w1 w' : World} (hs : Same (r :: v.ownBlock.toList) w w1) (ho : v1.ownBlock = v.ownBlock ∨ ∃ b, v1.ownBlock = some b ∧ w.heap.size ≤ b) (h : LrR r v1 R' w1 w') : LrR r v R' w w' := by
  obtain ⟨v', h1, h2, h3⟩ := h
  refine ⟨v', h1, hs.then h2 fun x hx => ?_, ?_⟩
  · rcases List.mem_cons.1 hx with rfl | hx
    · exact .inl (List.mem_cons_self ..)
    · have hx' := Option.mem_toList.1 hx
      rcases ho with ho | ⟨b, hb, hle⟩
      · exact .inl (List.mem_cons_of_mem _ (Option.mem_toList.2 (by rw [← ho]; exact hx')))
      · have he : some b = some x := hb.symm.trans hx'
        cases he
        exact .inr hle
  · rcases h3 with h3 | ⟨b, hb, hle⟩
    · rw [h3]; exact ho
    · exact .inr ⟨b, hb, Nat.le_trans hs.size hle⟩
theorem Tryz.infoCode : (Tryz.prog.info? 278).map (fun i => (i.zero, i.size, i.bytes)) = some (some (.agg #[.int .i64 0, .string ByteArray.empty, .int .i64 0, .int .i64 0, .int .i64 0]), 5, 48) := by kernel_rfl
set_option maxHeartbeats 2000000 in
theorem tell_calls (w : World) (r : Nat) (v : Value) (R : LRd) (h : LrAt w r v R) (hn : R.out.length ≤ 2000000000000) (n : Int) (t : Tk) : Calls Tryz.prog 181 #[.pointer (some ⟨r, 0, none⟩), .int .i64 n, tkV t] w fun e w' => e = .returned (.tuple #[]) ∧ LrR r v (R.tell n t) w w' := by
  obtain ⟨Av, cv, rfl⟩ := h.row.shape
  have c0 := blk_c (i := 0) (v := .slice Av R.out.length cv) h.blk
  have rl := blk_lt h.blk
  have hne := h.row.ne h.blk (by decide)
  have H := Lib.hid h
  have Hne := Lib.hid hne
  unfold tkV
  clear h hne
  go_enter Tryz.func181, Tryz.ntmps181
  go_wp2
  refine region_canon (.read 0 (.read 1 (.read 2 (.read 3 (.read 4 (.read 5 (.read 6 (.read 7 (.one 8 [0, 1, 2, 3, 4] (.one 9 [0] (.read 10 (.read 11 (.one 12 [] (.done)))))))))))))) (by kernel_rfl) (by kernel_rfl) ?_
  iterate 8 (refine canon_read rfl (fun K hK => ?_); go_simp; (try go_bits); (try (rw [if_pos (by omega)]; go_simp)); refine hK _ ?_; clear hK K)
  refine canon_oneL rfl ?_
  go_wp2
  refine EQ.mk rfl ?_ ?_
  · repeat (first | exact rr_nil | (refine rr_skip rfl ?_) | (refine rr_cons rfl (by go_simp; (try go_bits); (try (rw [if_pos (by omega)]; go_simp)); (try trivial)) ?_))
  refine canon_oneL rfl ?_
  refine wp_push (W := (w.alloc (.cells #[.string t.text, .int .i64 t.at_.off, .int .i64 t.at_.line, .int .i64 t.at_.col] 54)).drew) rfl _ _ 159 rfl 278 5 48 _ Tryz.underlying159 Tryz.infoCode rfl (by decide) (.slice Av R.out.length cv) _ _ (by go_simp) (H.out.row.same ((Same.alloc [] w _).trans (Same.drew [] _)) (by simp)) [.int .i64 n, .string t.text, .int .i64 t.at_.off, .int .i64 t.at_.line, .int .i64 t.at_.col] (by go_simp) rfl (by simp [Value.oneCell']) (by omega) (by decide) ?_
  intro v3 w3 hr3 hs3 ho3
  obtain ⟨A3, c3, rfl⟩ := hr3.shape
  have hs03 := ((Same.alloc _ w _).trans (Same.drew _ _)).trans hs3
  have hb3 := hs03.get H.out.blk (by simpa using Hne.out)
  have d0 := blk_c (i := 0) (v := .slice Av R.out.length cv) hb3
  have d1 := blk_c (i := 1) (v := .int .i64 R.n) hb3
  have d2 := blk_c (i := 2) (v := .bool R.within) hb3
  have df := blk_free hb3
  have dl := blk_lt hb3
  have Hb3 := Lib.hid hb3
  have Hr3 := Lib.hid hr3
  have Hs3 := Lib.hid hs03
  have Ho3 := Lib.hid ho3
  clear hs3 hs03 hr3 ho3 hb3
  go_wp2
  refine EQ.mk rfl ?_ ?_
  · repeat (first | exact rr_nil | (refine rr_skip rfl ?_) | (refine rr_cons rfl (by go_simp; (try go_bits); (try (rw [if_pos (by omega)]; go_simp)); (try trivial)) ?_))
  iterate 2 (refine canon_read rfl (fun K hK => ?_); go_simp; (try go_bits); (try (rw [if_pos (by omega)]; go_simp)); refine hK _ ?_; clear hK K)
  refine canon_oneL rfl ?_
  go_wp2
  refine EQ.mk rfl ?_ ?_
  · repeat (first | exact rr_nil | (refine rr_skip rfl ?_) | (refine rr_cons rfl (by go_simp; (try go_bits); (try (rw [if_pos (by omega)]; go_simp)); (try trivial)) ?_))
  refine canon_done ?_
  go_wp2
  refine bodyPost_end (results_none rfl _ _ _) rfl ?_
  refine ⟨rfl, .slice A3 (R.out.length + 1) c3, ⟨?_, ?_⟩, (Hs3.out.mono fun x hx => .inl (List.mem_cons_of_mem _ hx)).trans (((Same.setCell _ _ _ (by simp)).trans (Same.setCell _ _ _ (by simp))).trans (Same.setCell _ _ _ (by simp))), ?_⟩
  · have hx := blk_set (blk_set (blk_set Hb3.out 0 (.slice A3 (R.out.length + 1) c3)) 1 (.int .i64 0)) 2 (.bool false)
    simpa [LRd.tell] using hx
  · unfold LRd.tell
    dsimp only
    rw [codeCells_snoc, List.length_append]
    have hn3 : ∀ b, (Value.slice A3 (R.out.length + 1) c3).ownBlock = some b → b ∉ [r] := fun b hb hm => by
      have := List.mem_singleton.1 hm
      subst this
      exact Hr3.out.ne Hb3.out (by decide) hb
    exact ((Hr3.out.same (Same.setCell _ _ _ (S := [r]) (by simp)) hn3).same (Same.setCell _ _ _ (S := [r]) (by simp)) hn3).same (Same.setCell _ _ _ (S := [r]) (by simp)) hn3
  · exact Ho3.out.imp id fun ⟨b, h1, h2⟩ => ⟨b, h1, by rw [size_drew', size_alloc'] at h2; omega⟩
end Go.Proofs.YtdhkmfpfbjcdiaaGreatDoor
namespace Go.Proofs.YtdhkmfpfbjcdiaaGreatDoor
open Go.RowKit
theorem LrAt.keep {w w' : World} {r : Nat} {v : Value} {R : LRd} (h : LrAt w r v R) (hs : Same [] w w') : LrR r v R w w' := ⟨v, h.same hs, hs.mono (by simp), .inl rfl⟩
set_option maxHeartbeats 2000000 in
theorem broken_calls (w : World) (r : Nat) (v : Value) (R : LRd) (h : LrAt w r v R) (hn : R.out.length ≤ 2000000000000) (t : Tk) : Calls Tryz.prog 182 #[.pointer (some ⟨r, 0, none⟩), tkV t] w fun e w' => e = .returned (.tuple #[]) ∧ LrR r v (R.broken t) w w' := by
  have c2 := blk_c (i := 2) (v := .bool R.within) h.blk
  have rl := blk_lt h.blk
  have htl := fun (W : World) (hW : Same [] w W) => tell_calls W r v R (h.same hW) hn (-3) t
  have H := Lib.hid h
  unfold tkV at htl ⊢
  unfold LRd.broken
  clear h
  cases hw : R.within with
  | false =>
    rw [if_neg (by decide)]
    rw [hw] at c2
    clear hw
    go_enter Tryz.func182, Tryz.ntmps182
    go_wp2
    refine bodyPost_end (results_none rfl _ _ _) rfl ?_
    exact ⟨rfl, H.out.keep (Same.alloc _ _ _)⟩
  | true =>
    rw [if_pos rfl]
    rw [hw] at c2
    clear hw
    go_enter Tryz.func182, Tryz.ntmps182
    go_wp2_with (go_at_call 181; go_must (refine (htl _ (Same.alloc [] _ _)).mono ?_; rintro e1 W1 ⟨rfl, hr1⟩))
    refine bodyPost_end (results_none rfl _ _ _) rfl ?_
    exact ⟨rfl, LrR.then ((Same.alloc [] _ _).mono (by simp)) (.inl rfl) hr1⟩
set_option maxHeartbeats 2000000 in
theorem meaning_calls (w : World) (c : Nat) (hc : c < 256) : Calls Tryz.prog 183 #[.int .i32 c] w fun e w' => e = .returned (.int .i64 (meaningN c)) ∧ w' = w := by
  by_cases h1 : c = 90
  · subst h1
    go_enter Tryz.func183, Tryz.ntmps183
    go_wp2
    go_ret
    exact ⟨rfl, rfl⟩
  · by_cases h2 : c = 63
    · subst h2
      go_enter Tryz.func183, Tryz.ntmps183
      go_wp2
      go_ret
      exact ⟨rfl, rfl⟩
    · have hm : meaningN c = -3 := by unfold meaningN; rw [if_neg h1, if_neg h2]
      have k1 : ((c : Int) == 90) = false := by rw [beq_eq_false_iff_ne]; omega
      have k2 : ((c : Int) == 63) = false := by rw [beq_eq_false_iff_ne]; omega
      rw [hm]
      by_cases h3 : c = 40
      · subst h3
        clear h1 h2 hm k1 k2
        go_enter Tryz.func183, Tryz.ntmps183
        go_wp2
        go_ret
        exact ⟨rfl, rfl⟩
      · by_cases h4 : c = 41
        · subst h4
          clear h1 h2 h3 hm k1 k2
          go_enter Tryz.func183, Tryz.ntmps183
          go_wp2
          go_ret
          exact ⟨rfl, rfl⟩
        · have k3 : ((c : Int) == 40) = false := by rw [beq_eq_false_iff_ne]; omega
          have k4 : ((c : Int) == 41) = false := by rw [beq_eq_false_iff_ne]; omega
          clear h1 h2 h3 h4 hm
          go_enter Tryz.func183, Tryz.ntmps183
          go_wp2
          go_ret
          exact ⟨rfl, rfl⟩
set_option maxHeartbeats 4000000 in
theorem letter_calls (w : World) (r : Nat) (v : Value) (R : LRd) (h : LrAt w r v R) (hn : R.out.length ≤ 1000000000000) (hm : R.n ≤ 1125899906842624) (c : Nat) (hc : c < 256) (t : Tk) : Calls Tryz.prog 166 #[.pointer (some ⟨r, 0, none⟩), .int .i32 c, tkV t] w fun e w' => e = .returned (.tuple #[]) ∧ LrR r v (R.letter c t) w w' := by
  obtain ⟨Av, cv, rfl⟩ := h.row.shape
  have c0 := blk_c (i := 0) (v := .slice Av R.out.length cv) h.blk
  have c1 := blk_c (i := 1) (v := .int .i64 R.n) h.blk
  have c2 := blk_c (i := 2) (v := .bool R.within) h.blk
  have rf := blk_free h.blk
  have rl := blk_lt h.blk
  have hne := h.row.ne h.blk (by decide)
  have htl := fun (W : World) (hW : Same [] w W) (n : Int) => tell_calls W r _ R (h.same hW) (by omega) n t
  have hbr := fun (W : World) (hW : Same [] w W) => broken_calls W r _ R (h.same hW) (by omega) t
  have hmn := fun W => meaning_calls W c hc
  have H := Lib.hid h
  have Hne := Lib.hid hne
  unfold tkV at htl hbr ⊢
  clear h hne
  by_cases hA : 85 ≤ c ∧ c ≤ 89
  · have hres : R.letter c t = ⟨R.out, min (R.n * 5 + (c - 85) + 1) 1125899906842624, true⟩ := by unfold LRd.letter; rw [if_pos hA]
    rw [hres]
    obtain ⟨hA1, hA2⟩ := hA
    clear hres htl hbr hmn
    go_enter Tryz.func166, Tryz.ntmps166
    go_wp2
    refine bodyPost_end (results_none rfl _ _ _) rfl ?_
    have e : ((min (R.n * 5 + (c - 85) + 1) 1125899906842624 : Nat) : Int) = min ((R.n : Int) * 5 + ((c : Int) - 85) + 1) 1125899906842624 := by omega
    have hn3 : ∀ b, (Value.slice Av R.out.length cv).ownBlock = some b → b ∉ [r] := fun b hb hm => Hne.out (List.mem_singleton.1 hm ▸ hb)
    refine ⟨rfl, .slice Av R.out.length cv, ⟨?_, ((H.out.row.same (Same.setCell _ _ _ (S := [r]) (by simp)) hn3).same (Same.setCell _ _ _ (S := [r]) (by simp)) hn3).same (Same.alloc [] _ _) (by simp)⟩, ((Same.setCell _ _ _ (by simp)).trans (Same.setCell _ _ _ (by simp))).trans (Same.alloc _ _ _), .inl rfl⟩
    have hx := blk_old (blk_set (blk_set H.out.blk 1 (.int .i64 (min ((R.n : Int) * 5 + ((c : Int) - 85) + 1) 1125899906842624))) 2 (.bool true)) (.cells #[.string t.text, .int .i64 t.at_.off, .int .i64 t.at_.line, .int .i64 t.at_.col] 54)
    dsimp only
    rw [e]
    simpa using hx
  · by_cases hB : 65 ≤ c ∧ c ≤ 84
    · have e : ((min (R.n * 20 + (c - 65)) 1125899906842624 : Nat) : Int) = min ((R.n : Int) * 20 + ((c : Int) - 65)) 1125899906842624 := by omega
      have hres : R.letter c t = R.tell (min ((R.n : Int) * 20 + ((c : Int) - 65)) 1125899906842624) t := by unfold LRd.letter; rw [if_neg hA, if_pos hB, e]
      rw [hres]
      obtain ⟨hB1, hB2⟩ := hB
      have hA' : ¬ 85 ≤ c := by omega
      clear hres hbr hmn hA e
      go_enter Tryz.func166, Tryz.ntmps166
      go_wp2
      refine region_canon (.read 0 (.read 1 (.read 2 (.read 3 (.read 4 (.read 5 (.read 6 (.read 7 (.read 8 (.read 9 (.read 10 (.read 11 (.one 12 [] (.done)))))))))))))) (by kernel_rfl) (by kernel_rfl) ?_
      iterate 12 (refine canon_read rfl (fun K hK => ?_); go_simp; (try go_bits); (try (rw [if_pos (by omega)]; go_simp)); refine hK _ ?_; clear hK K)
      refine canon_oneL rfl ?_
      go_wp2_with (go_at_call 181; go_must (refine (htl _ ((Same.alloc [] _ _).trans (Same.drew [] _)) _).mono ?_; rintro e1 W1 ⟨rfl, hr1⟩))
      refine EQ.mk rfl ?_ ?_
      · repeat (first | exact rr_nil | (refine rr_skip rfl ?_) | (refine rr_cons rfl (by go_simp; (try go_bits); (try (rw [if_pos (by omega)]; go_simp)); (try trivial)) ?_))
      refine canon_done ?_
      go_wp2
      refine bodyPost_end (results_none rfl _ _ _) rfl ?_
      exact ⟨rfl, LrR.then (((Same.alloc [] _ _).trans (Same.drew [] _)).mono (by simp)) (.inl rfl) hr1⟩
    · have hres : R.letter c t = (R.broken t).tell (meaningN c) t := by unfold LRd.letter; rw [if_neg hA, if_neg hB]
      rw [hres]
      have hvl : ∀ b, (Value.slice Av R.out.length cv).ownBlock = some b → b < w.heap.size := fun b hb => H.out.row.lt hb
      have hbl : (R.broken t).out.length ≤ R.out.length + 1 := by
        unfold LRd.broken LRd.tell
        split <;> simp
      have hnot : w.heap.size ∉ r :: (Value.slice Av R.out.length cv).ownBlock.toList := fun hx => by
        rcases List.mem_cons.1 hx with hx | hx
        · omega
        · have := hvl _ (Option.mem_toList.1 hx)
          omega
      have Hnot := Lib.hid hnot
      clear hres htl hvl hnot
      have hcase : (¬ 85 ≤ c ∧ ¬ 65 ≤ c) ∨ (85 ≤ c ∧ ¬ c ≤ 89 ∧ 65 ≤ c ∧ ¬ c ≤ 84) := by omega
      clear hA hB
      rcases hcase with ⟨k1, k2⟩ | ⟨k1, k2, k3, k4⟩
      · go_enter Tryz.func166, Tryz.ntmps166
        go_wp2_with (go_at_call 182; go_must (refine (hbr _ (Same.alloc [] _ _)).mono ?_; rintro e1 W1 ⟨rfl, v1, h1, hs1, ho1⟩; have hT1 := hs1.get (blk_new w (.cells #[.string t.text, .int .i64 t.at_.off, .int .i64 t.at_.line, .int .i64 t.at_.col] 54)) Hnot.out; obtain ⟨b0, b1, b2, b3, bf⟩ := blk4 hT1; have bl := blk_lt hT1; have H1 := Lib.hid h1; have Hs1 := Lib.hid hs1; have Ho1 := Lib.hid ho1; clear h1 hs1 ho1 hT1))
        have htl := fun (W : World) (hW : Same [] W1 W) (n : Int) => tell_calls W r v1 (R.broken t) (H1.out.same hW) (by omega) n t
        unfold tkV at htl
        refine region_canon (.read 0 (.read 1 (.read 3 (.one 2 [0, 3] (.one 4 [] (.done)))))) (by kernel_rfl) (by kernel_rfl) ?_
        iterate 3 (refine canon_read rfl (fun K hK => ?_); go_simp; (try go_bits); (try (rw [if_pos (by omega)]; go_simp)); refine hK _ ?_; clear hK K)
        refine canon_oneL rfl ?_
        go_wp2_with (go_at_call 183; go_must (refine (hmn _).mono ?_; rintro e2 W2 ⟨rfl, hw2⟩; obtain rfl := hw2))
        refine EQ.mk rfl ?_ ?_
        · repeat (first | exact rr_nil | (refine rr_skip rfl ?_) | (refine rr_cons rfl (by go_simp; (try go_bits); (try (rw [if_pos (by omega)]; go_simp)); (try trivial)) ?_))
        refine canon_oneL rfl ?_
        go_wp2_with (go_at_call 181; go_must (refine (htl _ (Same.drew [] _) _).mono ?_; rintro e3 W3 ⟨rfl, hr3⟩))
        refine EQ.mk rfl ?_ ?_
        · repeat (first | exact rr_nil | (refine rr_skip rfl ?_) | (refine rr_cons rfl (by go_simp; (try go_bits); (try (rw [if_pos (by omega)]; go_simp)); (try trivial)) ?_))
        refine canon_done ?_
        go_wp2
        refine bodyPost_end (results_none rfl _ _ _) rfl ?_
        exact ⟨rfl, LrR.then (((Same.alloc [] _ _).mono (by simp)).trans Hs1.out) (Ho1.out.imp id fun ⟨b, q1, q2⟩ => ⟨b, q1, by rw [size_alloc'] at q2; omega⟩) (LrR.then ((Same.drew [] _).mono (by simp)) (.inl rfl) hr3)⟩
      · go_enter Tryz.func166, Tryz.ntmps166
        go_wp2_with (go_at_call 182; go_must (refine (hbr _ (Same.alloc [] _ _)).mono ?_; rintro e1 W1 ⟨rfl, v1, h1, hs1, ho1⟩; have hT1 := hs1.get (blk_new w (.cells #[.string t.text, .int .i64 t.at_.off, .int .i64 t.at_.line, .int .i64 t.at_.col] 54)) Hnot.out; obtain ⟨b0, b1, b2, b3, bf⟩ := blk4 hT1; have bl := blk_lt hT1; have H1 := Lib.hid h1; have Hs1 := Lib.hid hs1; have Ho1 := Lib.hid ho1; clear h1 hs1 ho1 hT1))
        have htl := fun (W : World) (hW : Same [] W1 W) (n : Int) => tell_calls W r v1 (R.broken t) (H1.out.same hW) (by omega) n t
        unfold tkV at htl
        refine region_canon (.read 0 (.read 1 (.read 3 (.one 2 [0, 3] (.one 4 [] (.done)))))) (by kernel_rfl) (by kernel_rfl) ?_
        iterate 3 (refine canon_read rfl (fun K hK => ?_); go_simp; (try go_bits); (try (rw [if_pos (by omega)]; go_simp)); refine hK _ ?_; clear hK K)
        refine canon_oneL rfl ?_
        go_wp2_with (go_at_call 183; go_must (refine (hmn _).mono ?_; rintro e2 W2 ⟨rfl, hw2⟩; obtain rfl := hw2))
        refine EQ.mk rfl ?_ ?_
        · repeat (first | exact rr_nil | (refine rr_skip rfl ?_) | (refine rr_cons rfl (by go_simp; (try go_bits); (try (rw [if_pos (by omega)]; go_simp)); (try trivial)) ?_))
        refine canon_oneL rfl ?_
        go_wp2_with (go_at_call 181; go_must (refine (htl _ (Same.drew [] _) _).mono ?_; rintro e3 W3 ⟨rfl, hr3⟩))
        refine EQ.mk rfl ?_ ?_
        · repeat (first | exact rr_nil | (refine rr_skip rfl ?_) | (refine rr_cons rfl (by go_simp; (try go_bits); (try (rw [if_pos (by omega)]; go_simp)); (try trivial)) ?_))
        refine canon_done ?_
        go_wp2
        refine bodyPost_end (results_none rfl _ _ _) rfl ?_
        exact ⟨rfl, LrR.then (((Same.alloc [] _ _).mono (by simp)).trans Hs1.out) (Ho1.out.imp id fun ⟨b, q1, q2⟩ => ⟨b, q1, by rw [size_alloc'] at q2; omega⟩) (LrR.then ((Same.drew [] _).mono (by simp)) (.inl rfl) hr3)⟩
end Go.Proofs.YtdhkmfpfbjcdiaaGreatDoor
namespace Go.Proofs.YtdhkmfpfbjcdiaaGreatDoor
open Go.RowKit
structure Sub (w : World) (k : Nat) (v : Value) (n : Nat) (xs : List Value) : Prop where
  len : xs.length = n * k
  ex : ∃ g off c, v = .slice (some ⟨g, off, none⟩) n c ∧ n ≤ c ∧ g < w.heap.size ∧ ∀ j u, xs[j]? = some u → w.cell? ⟨g, off + j, none⟩ = some u
theorem Sub.same {w w' : World} {k n : Nat} {v : Value} {xs : List Value} (h : Sub w k v n xs) (hs : Same [] w w') : Sub w' k v n xs := by
  obtain ⟨g, off, c, h1, h2, h3, h4⟩ := h.ex
  exact ⟨h.len, g, off, c, h1, h2, Nat.lt_of_lt_of_le h3 hs.size, fun j u hj => hs.cell (h4 j u hj) (by simp)⟩
theorem Sub.of_row {w : World} {e k n g c : Nat} {xs : List Value} (h : Row w e k (.slice (some ⟨g, 0, none⟩) n c) n xs) : Sub w k (.slice (some ⟨g, 0, none⟩) n c) n xs := by
  have hc : n ≤ c := by
    rcases h.2 with ⟨h1, _⟩ | ⟨g', cap, cur, h1, h2, h3, h4, _⟩
    · simp at h1
    · cases h1; exact h4
  refine ⟨h.1, g, 0, c, rfl, hc, h.lt rfl, fun j u hj => ?_⟩
  have hjl : j < n * k := by rw [← h.1]; exact (List.getElem?_eq_some_iff.1 hj).1
  obtain ⟨g', c', hv, h2, _⟩ := h.cell (j := j) hjl
  cases hv
  rw [Nat.zero_add, h2]
  simp [List.getD_eq_getElem?_getD, hj]
section
variable {P : Program} {ops : Array Oper} {rest : List Oper} {o : Oper} {a : Act} {Q : Exit → Act → World → Prop}
theorem wp_appendSub {W : World} (hgd : o.guard = none) (s x : Operand) (t : TypeId) (ho : o.op = .call { callee := .builtin .append, args := #[s, x], argTypes := #[t, t] })
    (e k bytes : Nat) (z : Value) (ht : P.underlying t = some (.slice e)) (hinfo : (P.info? e).map (fun i => (i.zero, i.size, i.bytes)) = some (some z, k, bytes)) (hz : z.cells.size = k) (hk : 0 < k)
    (v : Value) (n : Nat) (xs : List Value) (hs : a.eval s = v) (hown : Row W e k v n xs) (g off m c : Nat) (ys : List Value) (hx : a.eval x = .slice (some ⟨g, off, none⟩) m c) (hl : ys.length = m * k) (hsrc : ∀ j u, ys[j]? = some u → W.cell? ⟨g, off + j, none⟩ = some u) (h1 : ∀ u ∈ ys, u.oneCell' = true)
    (hn : (n + m) * bytes ≤ 140737488355328) (hb : 0 < bytes)
    (h : ∀ v' w', Row w' e k v' (n + m) (xs ++ ys) → Same v.ownBlock.toList W w' → (v'.ownBlock = v.ownBlock ∨ ∃ b, v'.ownBlock = some b ∧ W.heap.size ≤ b) → wpList P ops Q rest (a.put o.dst v') w') :
    wpList P ops Q (o :: rest) a W := by
  obtain ⟨i, hi, hz0, hz1, hz2⟩ := info_split hinfo
  have hlen : n + m ≤ 140737488355328 := Nat.le_trans (Nat.le_mul_of_pos_right _ hb) hn
  refine wpList_append_own_at _ hgd s x t ho 0 e i z k bytes ht hi hz0 hz1 hz2 hz hk v n xs hs hown ⟨g, off, none⟩ m c ys hx hl (fun j u hj => ?_) h1 (by simp only [maxLen]; omega) hn (Nat.zero_le _) ?_
  · have e1 : (⟨g, off, none⟩ : Addr).add j = ⟨g, off + j, none⟩ := by unfold Addr.add; split <;> simp_all
    rw [e1]
    exact hsrc j u hj
  · intro v' w' hown' hg _ hat
    refine h v' w' hown' (Same.of_grown hg) ?_
    rcases hat with hat | hat
    · exact .inl hat
    · exact .inr ⟨_, hat, Nat.le_refl _⟩
end
set_option maxHeartbeats 1000000 in
theorem CloneSub_calls (v : Value) (n : Nat) (xs : List Value) (w : World) (h : Sub w 4 v n xs) (h1 : ∀ u ∈ xs, u.oneCell' = true) (hn : n ≤ 1000000) : Calls Tryz.prog 45 #[v] w (CloneR 54 4 n xs w) := by
  obtain ⟨g, off, cap, rfl, h2, h3, h4⟩ := h.ex
  have H := Lib.hid h
  have H1 := Lib.hid h1
  have H4 := Lib.hid h4
  have hnil := fun w => Lib.run_eql_slice_nil (P := Tryz.prog) w _ _ (some ⟨g, off, none⟩) n cap 0 0 Tryz.underlying50
  clear h h1 h2 h3 h4
  go_enter Tryz.func45, Tryz.ntmps45
  go_wp2_with (at_builtin; go_must (refine wp_appendSub rfl _ _ 50 rfl 54 4 40 _ Tryz.underlying50 Tryz.infoToken' rfl (by decide) (.slice (some ⟨w.heap.size, 0, none⟩) 0 0) 0 [] rfl (row_empty w _ _) g off n cap xs rfl H.out.len (fun j u hj => (Same.alloc [] w _).cell (H4.out j u hj) (by simp)) H1.out (by omega) (by decide) ?_; intro v1 w1 hr1 hs1 ho1; obtain ⟨A1, c1, rfl⟩ := hr1.shape))
  rw [List.nil_append] at hr1
  simp only [Nat.zero_add] at hr1 ho1 ⊢
  go_ret
  refine ⟨.slice A1 n c1, rfl, hr1, (Same.alloc [] w _).then hs1 (fun x hx => .inr (by simp [Value.ownBlock] at hx; omega)), fun b hb => ?_⟩
  rcases ho1 with ho | ⟨c, hc, hle⟩
  · rw [ho] at hb; simp [Value.ownBlock] at hb; omega
  · rw [hc] at hb; cases hb; simp at hle; omega
theorem tk_sub {w : World} {g off n c : Nat} {ws : List Tk} (h : Sub w 4 (.slice (some ⟨g, off, none⟩) n c) n (tkCells ws)) {k : Nat} (hk : k < ws.length) : w.cell? ⟨g, off + k * 4, none⟩ = some (.string ws[k].text) ∧ w.cell? ⟨g, off + k * 4 + 1, none⟩ = some (.int .i64 ws[k].at_.off) ∧ w.cell? ⟨g, off + k * 4 + 2, none⟩ = some (.int .i64 ws[k].at_.line) ∧ w.cell? ⟨g, off + k * 4 + 3, none⟩ = some (.int .i64 ws[k].at_.col) ∧ g < w.heap.size := by
  obtain ⟨g', off', c', hv, h2, h3, h4⟩ := h.ex
  cases hv
  have hc := tkCells_at ws k hk
  have key : ∀ j u, j < 4 → ws[k].cells[j]? = some u → (tkCells ws)[k * 4 + j]? = some u := by
    intro j u hj hu
    rw [← hc] at hu
    simpa [List.getElem?_take, hj] using hu
  have a0 := h4 (k * 4 + 0) _ (key 0 (.string ws[k].text) (by decide) rfl)
  have a1 := h4 (k * 4 + 1) _ (key 1 (.int .i64 ws[k].at_.off) (by decide) rfl)
  have a2 := h4 (k * 4 + 2) _ (key 2 (.int .i64 ws[k].at_.line) (by decide) rfl)
  have a3 := h4 (k * 4 + 3) _ (key 3 (.int .i64 ws[k].at_.col) (by decide) rfl)
  simp only [← Nat.add_assoc, Nat.add_zero] at a0 a1 a2 a3
  exact ⟨a0, a1, a2, a3, h3⟩
theorem tkCells_len (ws : List Tk) : (tkCells ws).length = ws.length * 4 := by
  induction ws with
  | nil => rfl
  | cons t r ih => simp [tkCells, Tk.cells, Ps.cells] at ih ⊢; omega
theorem tkCells_drop : ∀ (ws : List Tk) (i : Nat), (tkCells ws).drop (i * 4) = tkCells (ws.drop i)
  | [], i => by simp [tkCells]
  | t :: r, 0 => by simp
  | t :: r, i + 1 => by
    rw [show (i + 1) * 4 = 4 + i * 4 by omega, ← List.drop_drop]
    have e : (tkCells (t :: r)).drop 4 = tkCells r := by simp [tkCells, Tk.cells, Ps.cells]
    rw [e, tkCells_drop r i, List.drop_succ_cons]
theorem tkCells_take : ∀ (ws : List Tk) (i : Nat), (tkCells ws).take (i * 4) = tkCells (ws.take i)
  | [], i => by simp [tkCells]
  | t :: r, 0 => by simp [tkCells]
  | t :: r, i + 1 => by
    have e : tkCells (t :: r) = t.cells ++ tkCells r := by simp [tkCells]
    have e2 : tkCells (t :: r.take i) = t.cells ++ tkCells (r.take i) := by simp [tkCells]
    rw [List.take_succ_cons, e, e2, ← tkCells_take r i, List.take_append]
    have hl : t.cells.length = 4 := rfl
    rw [hl, List.take_of_length_le (by rw [hl]; omega), show (i + 1) * 4 - 4 = i * 4 by omega]
theorem Sub.drop {w : World} {g off n c : Nat} {ws : List Tk} (h : Sub w 4 (.slice (some ⟨g, off, none⟩) n c) n (tkCells ws)) {i : Nat} (hi : i ≤ n) : Sub w 4 (.slice (some ⟨g, off + i * 4, none⟩) (n - i) (c - i)) (n - i) (tkCells (ws.drop i)) := by
  obtain ⟨g', off', c', hv, h2, h3, h4⟩ := h.ex
  cases hv
  have hl := h.len
  rw [tkCells_len] at hl
  refine ⟨by rw [tkCells_len, List.length_drop]; omega, g, off + i * 4, c - i, rfl, by omega, h3, fun j u hj => ?_⟩
  rw [← tkCells_drop, List.getElem?_drop] at hj
  have := h4 _ _ hj
  rw [show off + i * 4 + j = off + (i * 4 + j) by omega]
  exact this
theorem Sub.take {w : World} {g off n c : Nat} {ws : List Tk} (h : Sub w 4 (.slice (some ⟨g, off, none⟩) n c) n (tkCells ws)) {i : Nat} (hi : i ≤ n) : Sub w 4 (.slice (some ⟨g, off, none⟩) i c) i (tkCells (ws.take i)) := by
  obtain ⟨g', off', c', hv, h2, h3, h4⟩ := h.ex
  cases hv
  have hl := h.len
  rw [tkCells_len] at hl
  refine ⟨by rw [tkCells_len, List.length_take]; omega, g, off, c, rfl, by omega, h3, fun j u hj => ?_⟩
  rw [← tkCells_take, List.getElem?_take] at hj
  split at hj
  · exact h4 _ _ hj
  · cases hj
end Go.Proofs.YtdhkmfpfbjcdiaaGreatDoor
