/- lemmalaw texts, part 43. -/
import Derived.Test.YtdhkmfpfbjcdiaaGreatDoorYbd
import Derived.Test.YtdhkmfpfbjcdiaaGreatDoorYbp
set_option maxRecDepth 100000
set_option linter.unusedVariables false
set_option linter.unusedSimpArgs false
set_option maxHeartbeats 32000000
namespace Go.Proofs.YtdhkmfpfbjcdiaaGreatDoor
open Go.RowKit
def NamI (w : World) (lv : Value) (bm : Nat) (ls : List Tk) (v u : Value) (W : World) : Prop :=
 ∃ k : Nat, k ≤ ls.length ∧ u = .int .i64 k ∧ Row W 9 1 v (namesOf (ls.take k)).length (strCells (namesOf (ls.take k))) ∧ FreshB w v ∧ SMap W bm (setM (openQ :: namesOf (ls.take k))) ∧ Row W 54 4 lv ls.length (tkCells ls) ∧ Same [] w W
def NamedR (a : Asr) (w : World) (e : Ending) (w' : World) : Prop := ∃ v n, e = .returned (.tuple #[v, .int .i64 n]) ∧ Row w' 9 1 v (namedOf a).length (strCells (namedOf a)) ∧ FreshB w v ∧ Same [] w w'
theorem parse_len (ws : List Tk) (e : Tk) : (parseOf ws e).labels.length ≤ ws.length := by
 unfold parseOf
 split
 ·simp
 ·split
  ·simp
  ·split
   ·simp
   ·simp; omega
theorem Named_calls (w : World) (nb : Nat) (P : BP) (B : Bs) (h : BsAt w nb P B) (k : Nat) (hk : k < B.ld.asserts.length) (hsm : AsSmall B.ld.asserts[k]) (hn : B.ld.asserts.length ≤ 1024) (hpl : B.ld.asserts[k].proof.length ≤ 16384) (hts : ∀ t ∈ B.ld.asserts[k].proof, TkP t) (hta : ∀ t ∈ B.ld.asserts[k].proof, AscP t) :
  Calls Tryz.prog 35 #[.pointer (some ⟨nb, 0, none⟩), .int .i64 k] w (NamedR B.ld.asserts[k] w) := by
 have hmm := @run_makeMap Tryz.prog
 have hpf := Tryz.proofLabels
 have htm := fun (W : World) (hW : Same [] w W) => theorem_good W nb P B (h.same hW) k hk hsm hn
 obtain ⟨a, ha⟩ : ∃ a, B.ld.asserts[k] = a := ⟨_, rfl⟩
 rw [ha] at htm hpl hts hta ⊢
 have Hts := Kd hts
 have Hta := Kd hta
 clear h ha hsm hk hts hta
 cases hth : a.isThm with
 | false =>
  have hna : namedOf a = [] := by unfold namedOf; rw [hth]; rfl
  unfold NamedR
  rw [hna]
  simp only [hth] at htm
  clear hth hna
  go_enter Tryz.func35, Tryz.ntmps35
  go_wp2_with (first
   | (go_at_call 81; go_must (refine (htm _ (Same.refl _ _)).mono ?_; rintro e1 W1 ⟨⟨fh, fp, fg, sh, sp, pr, fes, ses⟩, rfl, hnw, hs1⟩; obtain ⟨A1, c1, A2, c2, A3, c3, A4, c4, A5, c5, A6, c6, q1, q2, q3, q4, q5, q6⟩ := hnw.inn.shapes; dsimp only at q1 q2 q3 q4 q5 q6; subst q1 q2 q3 q4 q5 q6; have Hs1 := Kd hs1; have Hnw := Kd hnw; unfold asV; clear hs1 hnw))
   | (refine wp_stRow rfl 56 _ _ rfl W1.heap.size #[.int .i64 a.number, .string a.label, .bool a.isThm, .slice A1 a.hyps.length c1, .slice A2 a.pairs.length c2, .slice A3 a.goal.length c3, .slice A4 a.shyps.length c4, .slice A5 a.spairs.length c5, .slice A6 a.proof.length c6, .string a.at_.text, .int .i64 a.at_.at_.off, .int .i64 a.at_.at_.line, .int .i64 a.at_.at_.col, .string a.end_.text, .int .i64 a.end_.at_.off, .int .i64 a.end_.at_.line, .int .i64 a.end_.at_.col] (by go_simp) (by go_simp) 56 #[.int .i64 0, .string ⟨#[]⟩, .bool false, .slice none 0 0, .slice none 0 0, .slice none 0 0, .slice none 0 0, .slice none 0 0, .slice none 0 0, .string ⟨#[]⟩, .int .i64 0, .int .i64 0, .int .i64 0, .string ⟨#[]⟩, .int .i64 0, .int .i64 0, .int .i64 0] (blk_new W1 (.cells #[.int .i64 0, .string ⟨#[]⟩, .bool false, .slice none 0 0, .slice none 0 0, .slice none 0 0, .slice none 0 0, .slice none 0 0, .slice none 0 0, .string ⟨#[]⟩, .int .i64 0, .int .i64 0, .int .i64 0, .string ⟨#[]⟩, .int .i64 0, .int .i64 0, .int .i64 0] 56)) (by kernel_rfl) rfl (by simp [Value.oneCell']) ?_; intro W2 hB2 hs2; have Hs12 : Hid (Same [] W1 W2) := Kd ((Same.alloc [] W1 _).then hs2 fun x hx => .inr (by simp at hx; omega)); obtain ⟨-, -, -, -, -, -, -, -, b8, -, -, -, -, b13, b14, b15, b16, bf⟩ := asO_cells (a := a) (fh := .slice A1 a.hyps.length c1) (fp := .slice A2 a.pairs.length c2) (fg := .slice A3 a.goal.length c3) (sh := .slice A4 a.shyps.length c4) (sp := .slice A5 a.spairs.length c5) (pr := .slice A6 a.proof.length c6) hB2; have bl := blk_lt hB2; have HB2 := Kd hB2; clear hB2 hs2)
   )
  go_ret2
  exact ⟨.slice none 0 0, 140, rfl, World.ownsRow_nil _ _ _ _, by simp [FreshB, Value.ownBlock], Hs1.out.trans Hs12.out⟩
 | true =>
  have hna : namedOf a = namesOf (parseOf a.proof a.end_).labels := by unfold namedOf; rw [hth]; rfl
  unfold NamedR
  rw [hna]
  simp only [hth] at htm
  have hpr := fun (W : World) (va : Value) (hw : Row W 54 4 va a.proof.length (tkCells a.proof)) => Parse_calls W va a.proof hw hpl Hts.out Hta.out a.end_
  unfold tkV ParseR pfV at hpr
  have hll := parse_len a.proof a.end_
  obtain ⟨pf, hpf'⟩ : ∃ pf, parseOf a.proof a.end_ = pf := ⟨_, rfl⟩
  rw [hpf'] at hpr hll ⊢
  clear hth hna hpf'
  go_enter Tryz.func35, Tryz.ntmps35
  go_wp2_with (first
   | (go_at_call 81; go_must (refine (htm _ (Same.refl _ _)).mono ?_; rintro e1 W1 ⟨⟨fh, fp, fg, sh, sp, pr, fes, ses⟩, rfl, hnw, hs1⟩; obtain ⟨A1, c1, A2, c2, A3, c3, A4, c4, A5, c5, A6, c6, q1, q2, q3, q4, q5, q6⟩ := hnw.inn.shapes; dsimp only at q1 q2 q3 q4 q5 q6; subst q1 q2 q3 q4 q5 q6; have Hs1 := Kd hs1; have Hnw := Kd hnw; unfold asV; clear hs1 hnw))
   | (refine wp_stRow rfl 56 _ _ rfl W1.heap.size #[.int .i64 a.number, .string a.label, .bool a.isThm, .slice A1 a.hyps.length c1, .slice A2 a.pairs.length c2, .slice A3 a.goal.length c3, .slice A4 a.shyps.length c4, .slice A5 a.spairs.length c5, .slice A6 a.proof.length c6, .string a.at_.text, .int .i64 a.at_.at_.off, .int .i64 a.at_.at_.line, .int .i64 a.at_.at_.col, .string a.end_.text, .int .i64 a.end_.at_.off, .int .i64 a.end_.at_.line, .int .i64 a.end_.at_.col] (by go_simp) (by go_simp) 56 #[.int .i64 0, .string ⟨#[]⟩, .bool false, .slice none 0 0, .slice none 0 0, .slice none 0 0, .slice none 0 0, .slice none 0 0, .slice none 0 0, .string ⟨#[]⟩, .int .i64 0, .int .i64 0, .int .i64 0, .string ⟨#[]⟩, .int .i64 0, .int .i64 0, .int .i64 0] (blk_new W1 (.cells #[.int .i64 0, .string ⟨#[]⟩, .bool false, .slice none 0 0, .slice none 0 0, .slice none 0 0, .slice none 0 0, .slice none 0 0, .slice none 0 0, .string ⟨#[]⟩, .int .i64 0, .int .i64 0, .int .i64 0, .string ⟨#[]⟩, .int .i64 0, .int .i64 0, .int .i64 0] 56)) (by kernel_rfl) rfl (by simp [Value.oneCell']) ?_; intro W2 hB2 hs2; have Hs12 : Hid (Same [] W1 W2) := Kd ((Same.alloc [] W1 _).then hs2 fun x hx => .inr (by simp at hx; omega)); obtain ⟨-, -, -, -, -, -, -, -, b8, -, -, -, -, b13, b14, b15, b16, bf⟩ := asO_cells (a := a) (fh := .slice A1 a.hyps.length c1) (fp := .slice A2 a.pairs.length c2) (fg := .slice A3 a.goal.length c3) (sh := .slice A4 a.shyps.length c4) (sp := .slice A5 a.spairs.length c5) (pr := .slice A6 a.proof.length c6) hB2; have bl := blk_lt hB2; have HB2 := Kd hB2; clear hB2 hs2)
   | (refine wp_sins (SMap.new W2) Tryz.underlying94 Tryz.underlying9 rfl _ _ _ rfl openQ (.agg #[]) (by go_simp) (by go_simp <;> rfl) (by go_simp) ?_; intro W3 hm3 hs3; have hs23 := (Same.alloc [] W2 (.map #[] 0)).then hs3 (fun x hx => .inr (by simp at hx; omega)); have hB3 := hs23.get HB2.out (by simp); obtain ⟨-, -, -, -, -, -, -, -, d8, -, -, -, -, d13, d14, d15, d16, df⟩ := asO_cells (a := a) (fh := .slice A1 a.hyps.length c1) (fp := .slice A2 a.pairs.length c2) (fg := .slice A3 a.goal.length c3) (sh := .slice A4 a.shyps.length c4) (sp := .slice A5 a.spairs.length c5) (pr := .slice A6 a.proof.length c6) hB3; have dl := blk_lt hB3; have Hm3 := Kd hm3; have Hs13 : Hid (Same [] W1 W3) := Kd (Hs12.out.trans hs23); clear hm3 hs3 hs23 hB3)
   | (go_at_call 82; go_must (refine (hpr _ _ (Hnw.out.inn.pr.row.same Hs13.out (by simp))).mono ?_; rintro e4 W4 ⟨lv, cv, rfl, hl4, hlf4, hc4, hcf4, hs4⟩; obtain ⟨A4', c4', rfl⟩ := hl4.shape; obtain ⟨A5', c5', rfl⟩ := hc4.shape; have Hl4 := Kd hl4; have Hs4 := Kd hs4; clear hl4 hlf4 hc4 hcf4 hs4)))
  have hbm : w.heap.size ≤ W2.heap.size := (Hs1.out.trans Hs12.out).size
  have h0 : NamI w (.slice A4' pf.labels.length c4') W2.heap.size pf.labels (.slice none 0 0) (.int .i64 0) W4 := ⟨0, Nat.zero_le _, rfl, World.ownsRow_nil _ _ _ _, by simp [FreshB, Value.ownBlock], Hm3.out.same Hs4.out (by simp), Hl4.out, (Hs1.out.trans Hs13.out).trans Hs4.out⟩
  have H0 := Kd h0
  clear h0
  go_loopw [8, 32] (fun v u wr => NamI w (.slice A4' pf.labels.length c4') W2.heap.size pf.labels v u wr) (fun _ u _ => pf.labels.length - (intOf u).toNat)
  case atStart => exact H0.out
  case round =>
   obtain ⟨k, hk, rfl, hrow, hf, hm, hl, hsm⟩ := hrel
   by_cases hlt : k < pf.labels.length
   ·obtain ⟨g, c, hv, t0, t1, t2, t3, hgl⟩ := tk_elem hl hlt
    cases hv
    have hnl := namesOf_len pf.labels k hk
    have hst := namesOf_take pf.labels k hlt
    have hlk := fun o => (hm.same (Same.alloc [] wr o) (by simp)).run_lookup Tryz.underlying94 Tryz.underlying9 (zeroUnit _) pf.labels[k].text true
    rw [setM_get] at hlk
    obtain ⟨Av, cv, rfl⟩ := hrow.shape
    have Hrow := Kd hrow
    have Hf := Kd hf
    have Hm := Kd hm
    have Hl := Kd hl
    have Hsm := Kd hsm
    cases hb : inS pf.labels[k].text (openQ :: namesOf (pf.labels.take k)) with
    | true =>
     rw [hb, if_pos rfl, if_pos rfl] at hlk
     dsimp only [Option.getD, Option.isSome] at hlk
     unfold nameStep at hst
     rw [if_pos hb] at hst
     have Hst := Kd hst
     clear hst hb hrow hf hm hl hsm H0
     go_wp2
     go_roundw
     case rel =>
      have h2 : Same [] wr ((wr.alloc (.cells #[.string pf.labels[k].text, .int .i64 pf.labels[k].at_.off, .int .i64 pf.labels[k].at_.line, .int .i64 pf.labels[k].at_.col] 54)).alloc (.cells #[] 93)) := (Same.alloc _ _ _).trans (Same.alloc _ _ _)
      exact ⟨k + 1, hlt, by go_num, by rw [Hst.out]; exact Hrow.out.same h2 (by simp), Hf.out, by rw [Hst.out]; exact Hm.out.same h2 (by simp), Hl.out.same h2 (by simp), Hsm.out.trans h2⟩
     case measure => simp [intOf]; omega
    | false =>
     rw [hb, if_pos rfl, if_neg (by decide)] at hlk
     dsimp only [Option.getD, Option.isSome] at hlk
     unfold nameStep at hst
     rw [if_neg (by rw [hb]; decide)] at hst
     have Hst := Kd hst
     clear hst hrow hf hm hl hsm H0
     have hbl : W2.heap.size < wr.heap.size := Hm.out.lt
     have hnb : ∀ b, (Value.slice Av (namesOf (pf.labels.take k)).length cv).ownBlock = some b → b ∉ [W2.heap.size] := fun b hb2 hm2 => Hm.out.ne_row Hrow.out (List.mem_singleton.1 hm2 ▸ hb2)
     have Hnb := Kd hnb
     have Hb := Kd hb
     clear hnb hb
     go_wp2_with (first
      | (at_mapUpdate; go_must (refine wp_sput (Hm.out.same ((Same.alloc [] wr (.cells #[.string pf.labels[k].text, .int .i64 pf.labels[k].at_.off, .int .i64 pf.labels[k].at_.line, .int .i64 pf.labels[k].at_.col] 54)).trans (Same.alloc [] _ (.cells #[] 93))) (by simp)) Tryz.underlying94 Tryz.underlying9 rfl _ _ _ rfl pf.labels[k].text (.agg #[]) rfl rfl rfl ?_; intro W5 hm5 hs5; have hB5 := hs5.get (blk_old (blk_new wr (.cells #[.string pf.labels[k].text, .int .i64 pf.labels[k].at_.off, .int .i64 pf.labels[k].at_.line, .int .i64 pf.labels[k].at_.col] 54)) (.cells #[] 93)) (by simp; omega); obtain ⟨e0, e1', e2, e3, ef⟩ := blk4 hB5; have el := blk_lt hB5; have Hm5 := Kd hm5; have Hs5 : Hid (Same [W2.heap.size] wr W5) := Kd ((((Same.alloc [] wr (.cells #[.string pf.labels[k].text, .int .i64 pf.labels[k].at_.off, .int .i64 pf.labels[k].at_.line, .int .i64 pf.labels[k].at_.col] 54)).trans (Same.alloc [] _ (.cells #[] 93))).mono (by simp)).trans hs5); clear hm5 hs5 hB5))
      | (at_builtin; refine wp_push (W := W5) rfl _ _ 66 rfl 9 1 16 _ Tryz.underlying66 Tryz.infoString rfl (by decide) (.slice Av (namesOf (pf.labels.take k)).length cv) _ _ rfl (Hrow.out.same Hs5.out Hnb.out) [.string pf.labels[k].text] rfl rfl (by simp [Value.oneCell']) (by omega) (by decide) ?_; go_must (intro v6 W6 hr6 hs6 ho6; obtain ⟨A6', c6', rfl⟩ := hr6.shape; have Hr6 := Kd hr6; have Hs6 := Kd hs6; have Ho6 := Kd ho6; clear hr6 hs6 ho6)))
     go_roundw
     case rel =>
      have hm5 := Hm5.out
      rw [setM_put, Hb.out, if_neg (by decide)] at hm5
      refine ⟨k + 1, hlt, by go_num, ?_, Hf.out.next (Nat.le_trans Hsm.out.size Hs5.out.size) Ho6.out, ?_, ?_, ?_⟩
      ·rw [Hst.out, List.length_append]
       have := Hr6.out
       simpa [strCells] using this
      ·rw [Hst.out]
       exact SMap.same (l := setM (openQ :: (namesOf (pf.labels.take k) ++ [pf.labels[k].text]))) hm5 Hs6.out (fun hx => Hnb.out _ (Option.mem_toList.1 hx) (by simp))
      ·refine (Hl.out.same Hs5.out (fun b hb2 hm2 => Hm.out.ne_row Hl.out (List.mem_singleton.1 hm2 ▸ hb2))).same Hs6.out (fun b hb2 hm2 => ?_)
       exact Hrow.out.ne_row Hl.out (by decide) hb2 (Option.mem_toList.1 hm2)
      ·exact (Hsm.out.then Hs5.out fun x hx => .inr (by simp at hx; omega)).then Hs6.out fun x hx => .inr (Hf.out x (Option.mem_toList.1 hx))
     case measure => simp [intOf]; omega
   ·have hkk : k = pf.labels.length := by omega
    subst hkk
    rw [List.take_length] at hrow
    obtain ⟨Av, cv, rfl⟩ := hrow.shape
    have Hrow := Kd hrow
    have Hf := Kd hf
    have Hsm := Kd hsm
    clear hrow hf hm hl hsm H0
    go_wp2
    go_ret2
    exact ⟨.slice Av _ cv, 0, rfl, Hrow.out, Hf.out, Hsm.out⟩
theorem goes_calls (w : World) (b : Nat) (l : List ByteArray) (h : SMap w b (setM l)) (s : ByteArray) : Calls Tryz.prog 34 #[.map (some b), .string s] w fun e w' => e = .returned (.bool (inS s l)) ∧ Same [] w w' := by
 have hlk := h.run_lookup Tryz.underlying95 Tryz.underlying9 (zeroUnit _) s true
 rw [setM_get, if_pos rfl] at hlk
 clear h
 cases hb : inS s l with
 | true =>
  rw [hb, if_pos rfl] at hlk
  dsimp only [Option.getD, Option.isSome] at hlk
  clear hb
  go_enter Tryz.func34, Tryz.ntmps34
  go_wp2
  go_ret
  exact ⟨rfl, by
   exact Same.A
   ⟩
 | false =>
  rw [hb, if_neg (by decide)] at hlk
  dsimp only [Option.getD, Option.isSome] at hlk
  clear hb
  go_enter Tryz.func34, Tryz.ntmps34
  go_wp2
  go_ret
  exact ⟨rfl, by
   exact Same.A
   ⟩
def goneAt (S : List ByteArray) : List ByteArray → Option Nat
 | [] => none
 | t :: r => if inS t S = true then some 0 else (goneAt S r).map (· + 1)
theorem goneAt_drop (S ws : List ByteArray) (k : Nat) (hk : k < ws.length) : goneAt S (ws.drop k) = if inS ws[k] S = true then some 0 else (goneAt S (ws.drop (k + 1))).map (· + 1) := by
 rw [List.drop_eq_getElem_cons hk, goneAt]
theorem goneAt_any (S : List ByteArray) : ∀ l : List ByteArray, decide (idxV (goneAt S l) ≥ 0) = l.any fun s => inS s S
 | [] => rfl
 | x :: r => by
  have := goneAt_any S r
  rw [goneAt, List.any_cons]
  cases hb : inS x S with
  | true => rw [if_pos rfl]; simp [idxV]
  | false =>
   rw [if_neg (by decide), ← this]
   cases hg : goneAt S r with
   | none => simp [idxV]
   | some i => simp [idxV]; omega
theorem str_elem {w : World} {v : Value} {l : List ByteArray} {n : Nat} (h : Row w 9 1 v n (strCells l)) (hn : l.length = n) {k : Nat} (hk : k < l.length) :
  ∃ g c, v = .slice (some ⟨g, 0, none⟩) n c ∧ w.cell? ⟨g, k, none⟩ = some (.string l[k]) ∧ w.frozen? ⟨g, k, none⟩ = false := by
 obtain ⟨g, c, hv, h1, h2⟩ := h.cell (j := k) (by omega)
 refine ⟨g, c, hv, ?_, h2⟩
 rw [h1]
 simp [strCells, List.getD_eq_getElem?_getD, hk]
def GonI (w : World) (S ws : List ByteArray) (u : Value) (W : World) : Prop := ∃ k : Nat, k ≤ ws.length ∧ u = .int .i64 k ∧ Same [] w W ∧ goneAt S ws = (goneAt S (ws.drop k)).map (· + k)
theorem SIndexFunc_calls (w : World) (va : Value) (ws : List ByteArray) (hw : Row w 9 1 va ws.length (strCells ws)) (hn : ws.length ≤ 1000000) (b : Nat) (S : List ByteArray) (hm : SMap w b (setM S)) : Calls Tryz.prog 83 #[va, .func (.func 34) #[.map (some b)] #[]] w fun e w' => e = .returned (.int .i64 (idxV (goneAt S ws))) ∧ Same [] w w' := by
 obtain ⟨A0, cw, rfl⟩ := hw.shape
 have hcl := fun (W : World) (hs : Same [] w W) (s : ByteArray) => goes_calls W b S (hm.same hs (by simp)) s
 have Hw := Kd hw
 clear hw hm
 go_enter Tryz.func83, Tryz.ntmps83
 go_wp2
 have h0 : GonI w S ws (.int .i64 0) w := ⟨0, Nat.zero_le _, rfl, Same.refl _ _, by simp⟩
 have H0 := Kd h0
 clear h0
 go_loopw [8] (fun u wr => GonI w S ws u wr) (fun u _ => ws.length - (intOf u).toNat)
 case atStart => exact H0.out
 case round =>
  obtain ⟨k, hk, rfl, hsm, heq⟩ := hrel
  by_cases hlt : k < ws.length
  ·obtain ⟨g, c, hv, hcs, hcf⟩ := str_elem (Hw.out.same hsm (by simp)) rfl hlt
   cases hv
   have hstep := goneAt_drop S ws k hlt
   cases hb : inS ws[k] S with
   | true =>
    have hc1 := fun (W : World) (hs : Same [] w W) => hcl W hs ws[k]
    rw [hb] at hc1
    rw [hb, if_pos rfl] at hstep
    rw [hstep] at heq
    have Heq := Kd heq
    have Hsm := Kd hsm
    clear hstep heq hsm hb H0 hcl
    go_wp2_with (go_at_call 34; go_must (refine (hc1 _ Hsm.out).mono ?_; rintro e1 W1 ⟨rfl, hs1⟩))
    go_ret
    rw [Heq.out]
    exact ⟨by simp [idxV], Hsm.out.trans hs1⟩
   | false =>
    have hc1 := fun (W : World) (hs : Same [] w W) => hcl W hs ws[k]
    rw [hb] at hc1
    rw [hb, if_neg (by decide)] at hstep
    rw [hstep, Option.map_map] at heq
    have Heq := Kd heq
    have Hsm := Kd hsm
    clear hstep heq hsm hb H0 hcl
    go_wp2_with (go_at_call 34; go_must (refine (hc1 _ Hsm.out).mono ?_; rintro e1 W1 ⟨rfl, hs1⟩; have Hs1 := Kd hs1; clear hs1))
    go_roundw
    case rel =>
     refine ⟨k + 1, hlt, by go_num, Hsm.out.trans Hs1.out, ?_⟩
     rw [Heq.out]
     congr 1
     funext x
     simp
     omega
    case measure => simp [intOf]; omega
  ·have hkk : k = ws.length := by omega
   subst hkk
   rw [List.drop_length] at heq
   have Heq := Kd heq
   have Hsm := Kd hsm
   clear heq hsm H0
   go_wp2
   go_ret
   rw [Heq.out]
   exact ⟨rfl, Hsm.out⟩
theorem SContains_calls (w : World) (va : Value) (ws : List ByteArray) (hw : Row w 9 1 va ws.length (strCells ws)) (hn : ws.length ≤ 1000000) (b : Nat) (S : List ByteArray) (hm : SMap w b (setM S)) : Calls Tryz.prog 36 #[va, .func (.func 34) #[.map (some b)] #[]] w fun e w' => e = .returned (.bool (ws.any fun s => inS s S)) ∧ Same [] w w' := by
 have hix := fun (W : World) (hs : Same [] w W) => SIndexFunc_calls W va ws (hw.same hs (by simp)) hn b S (hm.same hs (by simp))
 have hany := goneAt_any S ws
 obtain ⟨A0, cw, rfl⟩ := hw.shape
 obtain ⟨i, hi⟩ : ∃ i, idxV (goneAt S ws) = i := ⟨_, rfl⟩
 rw [hi] at hany
 simp only [hi] at hix
 have Hany := Kd hany
 clear hw hm hany hi
 go_enter Tryz.func36, Tryz.ntmps36
 go_wp2_with (go_at_call 83; go_must (refine (hix _ (Same.refl _ _)).mono ?_; rintro e1 W1 ⟨rfl, hs1⟩; have Hs1 := Kd hs1; clear hs1))
 go_ret
 exact ⟨by rw [← Hany.out]; rfl, Hs1.out⟩
def fallStep (p : List ByteArray × Bool) (a : Asr) : List ByteArray × Bool := if inS a.label p.1 = true then p else if ((namedOf a).any fun s => inS s p.1) = true then (p.1 ++ [a.label], true) else p
def fallPass (L : List Asr) (S : List ByteArray) : List ByteArray × Bool := L.foldl fallStep (S, false)
def fallGo (L : List Asr) : Nat → List ByteArray → List ByteArray
 | 0, S => S
 | f + 1, S => if (fallPass L S).2 = true then fallGo L f (fallPass L S).1 else (fallPass L S).1
def outTo (S : List ByteArray) (L : List Asr) : Nat → List Int
 | 0 => []
 | k + 1 => match L[k]? with
  | some a => if inS a.label S = true then outTo S L k ++ [(k : Int)] else outTo S L k
  | none => outTo S L k
def fallsOf (L : List Asr) (n : Nat) : List Int := match L[n]? with
 | some a => outTo (fallGo L (L.length + 1) [a.label]) L L.length
 | none => []
def stays (L : List Asr) (S : List ByteArray) : Nat := L.countP fun a => !inS a.label S
theorem inS_snoc (s x : ByteArray) (S : List ByteArray) : inS s (S ++ [x]) = (inS s S || decide (s = x)) := by
 induction S with
 | nil => by_cases h : s = x <;> simp [inS, setM, aget, h]
 | cons y S ih =>
  unfold inS setM at ih ⊢
  rw [List.cons_append, List.map_cons, List.map_cons, aget, aget]
  by_cases h : s = y
  ·rw [if_pos h, if_pos h]; rfl
  ·rw [if_neg h, if_neg h, ih]
theorem countP_le {α : Type} (p q : α → Bool) : ∀ l : List α, (∀ x ∈ l, p x = true → q x = true) → l.countP p ≤ l.countP q
 | [], _ => by simp
 | y :: l, h => by
  have := countP_le p q l fun x hx => h x (List.mem_cons_of_mem _ hx)
  rw [List.countP_cons, List.countP_cons]
  by_cases hp : p y = true
  ·rw [if_pos hp, if_pos (h y List.mem_cons_self hp)]; omega
  ·rw [if_neg hp]; split <;> omega
theorem countP_lt {α : Type} (p q : α → Bool) : ∀ l : List α, (∀ x ∈ l, p x = true → q x = true) → (∃ x ∈ l, q x = true ∧ p x = false) → l.countP p < l.countP q
 | [], _, hx => by simp at hx
 | y :: l, h, hx => by
  obtain ⟨x, hx, hq, hp⟩ := hx
  rw [List.countP_cons, List.countP_cons]
  rcases List.mem_cons.1 hx with rfl | hm
  ·have := countP_le p q l fun z hz => h z (List.mem_cons_of_mem _ hz)
   rw [if_neg (by rw [hp]; decide), if_pos hq]
   omega
  ·have := countP_lt p q l (fun z hz => h z (List.mem_cons_of_mem _ hz)) ⟨x, hm, hq, hp⟩
   by_cases hp' : p y = true
   ·rw [if_pos hp', if_pos (h y List.mem_cons_self hp')]; omega
   ·rw [if_neg hp']; split <;> omega
theorem stays_put (L : List Asr) (S : List ByteArray) (a : Asr) (ha : a ∈ L) (h : inS a.label S = false) : stays L (S ++ [a.label]) < stays L S :=
 countP_lt _ _ _ (fun x _ hx => by
  rw [inS_snoc] at hx
  cases hb : inS x.label S with
  | true => simp [hb] at hx
  | false => rfl) ⟨a, ha, by simp [h], by rw [inS_snoc]; simp⟩
theorem fallStep_stays (L : List Asr) (p : List ByteArray × Bool) (a : Asr) (ha : a ∈ L) : stays L (fallStep p a).1 ≤ stays L p.1 ∧ ((fallStep p a).2 = true → p.2 = true ∨ stays L (fallStep p a).1 < stays L p.1) := by
 unfold fallStep
 split
 ·exact ⟨Nat.le_refl _, .inl⟩
 ·split
  ·have := stays_put L p.1 a ha (by simp_all)
   exact ⟨Nat.le_of_lt this, fun _ => .inr this⟩
  ·exact ⟨Nat.le_refl _, .inl⟩
theorem fallFold_stays (L : List Asr) : ∀ (l : List Asr) (p : List ByteArray × Bool), (∀ a ∈ l, a ∈ L) → stays L (l.foldl fallStep p).1 ≤ stays L p.1 ∧ ((l.foldl fallStep p).2 = true → p.2 = true ∨ stays L (l.foldl fallStep p).1 < stays L p.1)
 | [], p, _ => ⟨Nat.le_refl _, .inl⟩
 | a :: l, p, h => by
  have h1 := fallStep_stays L p a (h a List.mem_cons_self)
  have h2 := fallFold_stays L l (fallStep p a) fun x hx => h x (List.mem_cons_of_mem _ hx)
  refine ⟨Nat.le_trans h2.1 h1.1, fun hm => ?_⟩
  rcases h2.2 hm with h3 | h3
  ·rcases h1.2 h3 with h4 | h4
   ·exact .inl h4
   ·exact .inr (Nat.lt_of_le_of_lt h2.1 h4)
  ·exact .inr (Nat.lt_of_lt_of_le h3 h1.1)
theorem fallPass_stays (L : List Asr) (S : List ByteArray) (h : (fallPass L S).2 = true) : stays L (fallPass L S).1 < stays L S := by
 rcases (fallFold_stays L L (S, false) fun _ h => h).2 h with h1 | h1
 ·cases h1
 ·exact h1
theorem fold_take (L : List Asr) (p : List ByteArray × Bool) (k : Nat) (hk : k < L.length) : (L.take (k + 1)).foldl fallStep p = fallStep ((L.take k).foldl fallStep p) L[k] := by
 rw [List.take_succ_eq_append_getElem hk, List.foldl_append]
 rfl
theorem outTo_step (S : List ByteArray) (L : List Asr) (k : Nat) (hk : k < L.length) : outTo S L (k + 1) = if inS L[k].label S = true then outTo S L k ++ [(k : Int)] else outTo S L k := by
 rw [outTo, List.getElem?_eq_getElem hk]
theorem outTo_len (S : List ByteArray) (L : List Asr) : ∀ k, (outTo S L k).length ≤ k
 | 0 => by simp [outTo]
 | k + 1 => by
  have := outTo_len S L k
  rw [outTo]
  split
  ·split
   ·simp; omega
   ·omega
  ·omega
theorem stays_le (L : List Asr) (S : List ByteArray) : stays L S ≤ L.length := List.countP_le_length
def Born (w : World) (b : Nat) (c : Int) : Prop := ∃ es clock, w.heap[b]? = some (.map es clock) ∧ (es.findIdx? (fun e => (e.born : Int) == c)).isSome = true
section
variable {P : Program} {ops : Array Oper} {rest : List Oper} {o : Oper} {a : Act} {Q : Exit → Act → World → Prop} {w : World} {b : Nat} {l : List (ByteArray × Value)} {t kt et : TypeId}
theorem SMap.run_entry (h : SMap w b l) (ht : P.underlying t = some (.map kt et)) (hk : P.underlying kt = some .string) (k : ByteArray) (hno : aget k l = none) (z : Value) (hz : (zeroValue et).run P w = .ok z w) :
  ∃ w' c, (Instr.mapEntry t (.map (some b)) (.string k)).run P w = .ok (.tuple #[z, .int .i64 c]) w' ∧ SMap w' b (aput k z l) ∧ Born w' b c ∧ Same [b] w w' := by
 obtain ⟨es, clock, hb, he⟩ := h
 have hg := MapKept.run_getObj_map (P := P) hb
 have hc := MapKept.run_checkKey (P := P) (w := w) (k := .string k) hk (by simp [MapKept.IsKey]) false 9999
 have hset : ∀ o, (setObj b o).run P w = .ok () { w with heap := w.heap.setIfInBounds b o } := fun o => MapKept.run_setObj_map o hb
 have hsame : ∀ o, Same [b] w { w with heap := w.heap.setIfInBounds b o } := fun o => ⟨rfl, rfl, rfl, by simp, fun i _ hi => by
  have : i ≠ b := by simpa using hi
  simp [Array.getElem?_setIfInBounds, Ne.symm this]⟩
 have hnew : ∀ o, ({ w with heap := w.heap.setIfInBounds b o } : World).heap[b]? = some o := fun o => by
  have := blk_lt hb
  simp [Array.getElem?_setIfInBounds, this]
 rcases findNow_str k es.toList l 0 he with ⟨h1, h2, h3, _⟩ | ⟨j, u, h1, h2, ⟨e, he1, he2⟩, h3, _⟩
 ·have hf := MapKept.run_findKey (P := P) (w := w) hk h2
  refine ⟨_, clock, by simp [Instr.mapEntry, run_underlying ht, hg, hc, hf, hset, hz, goInt]; rfl, ⟨_, _, hnew _, ?_⟩, ⟨_, _, hnew _, ?_⟩, hsame _⟩
  ·simp [he, h3 z]
  ·rw [Array.findIdx?_push]
   simp
 ·rw [hno] at h1; cases h1
theorem SMap.run_fill (h : SMap w b l) (c : Int) (hB : Born w b c) (z : Value) (hz : ∀ p ∈ l, p.2 = z) :
  ∃ w', (Instr.entryStore t (.map (some b)) (.int .i64 c) z).run P w = .ok () w' ∧ SMap w' b l ∧ Same [b] w w' := by
 obtain ⟨es, clock, hb, he⟩ := h
 obtain ⟨es', clock', hb', hi⟩ := hB
 rw [hb] at hb'
 cases hb'
 have hg := MapKept.run_getObj_map (P := P) hb
 have hset : ∀ o, (setObj b o).run P w = .ok () { w with heap := w.heap.setIfInBounds b o } := fun o => MapKept.run_setObj_map o hb
 have hsame : ∀ o, Same [b] w { w with heap := w.heap.setIfInBounds b o } := fun o => ⟨rfl, rfl, rfl, by simp, fun i _ hi => by
  have : i ≠ b := by simpa using hi
  simp [Array.getElem?_setIfInBounds, Ne.symm this]⟩
 have hnew : ∀ o, ({ w with heap := w.heap.setIfInBounds b o } : World).heap[b]? = some o := fun o => by
  have := blk_lt hb
  simp [Array.getElem?_setIfInBounds, this]
 obtain ⟨i, hi⟩ := Option.isSome_iff_exists.1 hi
 refine ⟨_, by simp [Instr.entryStore, hg, hi, hset, asInt, asIntOf]; rfl, ⟨_, _, hnew _, ?_⟩, hsame _⟩
 rw [← he]
 have hall : ∀ e ∈ es.toList, e.val = z := fun e hm => by
  have : (e.key, e.val) ∈ es.toList.map (fun e => (e.key, e.val)) := List.mem_map_of_mem hm
  rw [he] at this
  obtain ⟨p, hp, hpe⟩ := List.mem_map.1 this
  have h2 := hz p hp
  simp at hpe
  rw [← hpe.2, h2]
 rw [Array.toList_modify]
 generalize es.toList = M at hall
 clear hi hg he hb hset hsame hnew
 induction M generalizing i with
 | nil => simp
 | cons e M ih =>
  cases i with
  | zero => simp [hall e List.mem_cons_self]
  | succ i => simp [ih i fun x hx => hall x (List.mem_cons_of_mem _ hx)]
theorem wp_sentry (h : SMap w b l) (ht : P.underlying t = some (.map kt et)) (hk : P.underlying kt = some .string)
  (hg : o.guard = none) (m x : Operand) (hop : o.op = .mapEntry t m x) (k : ByteArray) (hm : a.eval m = .map (some b)) (hx : a.eval x = .string k) (hno : aget k l = none) (z : Value) (hz : (zeroValue et).run P w = .ok z w)
  (hK : ∀ w' c, SMap w' b (aput k z l) → Born w' b c → Same [b] w w' → wpList P ops Q rest (a.put o.dst (.tuple #[z, .int .i64 c])) w') : wpList P ops Q (o :: rest) a w := by
 refine wpList_plain hg fun K' hK' => ?_
 obtain ⟨w', c, hrun, r1, r2, r3⟩ := h.run_entry ht hk k hno z hz
 unfold Oper.wp
 simp [execOp, hop, hm, hx, hrun, Result.andThen]
 exact hK' _ _ (hK w' c r1 r2 r3)
theorem wp_sfill (h : SMap w b l) (c : Int) (hB : Born w b c) (z : Value) (hz : ∀ p ∈ l, p.2 = z)
  (hg : o.guard = none) (m x v : Operand) (hop : o.op = .entryStore t m x v) (hm : a.eval m = .map (some b)) (hx : a.eval x = .int .i64 c) (hv : a.eval v = z)
  (hK : ∀ w', SMap w' b l → Same [b] w w' → wpList P ops Q rest (a.put o.dst undef) w') : wpList P ops Q (o :: rest) a w := by
 refine wpList_plain hg fun K' hK' => ?_
 obtain ⟨w', hrun, r1, r2⟩ := h.run_fill (P := P) (t := t) c hB z hz
 unfold Oper.wp
 simp [execOp, hop, hm, hx, hv, hrun, Result.andThen]
 exact hK' _ _ (hK w' r1 r2)
end
end Go.Proofs.YtdhkmfpfbjcdiaaGreatDoor
