/- lemmalaw texts, part 26. -/
import Derived.Test.YtdhkmfpfbjcdiaaGreatDoorZay
import Derived.Lib.OthersKept
import Derived.Laws.RangeString
set_option maxRecDepth 100000
set_option linter.unusedVariables false
set_option linter.unusedSimpArgs false
namespace Go.Proofs.YtdhkmfpfbjcdiaaGreatDoor
open Go.RowKit
def AscP (t : Tk) : Prop := ∀ (i : Nat) (h : i < t.text.size), (t.text[i]'h).toNat < 128
def LRd.word (R : LRd) (t : Tk) : LRd := t.text.data.toList.foldl (fun R c => R.letter c.toNat t) R
def LRd.words (R : LRd) (ws : List Tk) : LRd := ws.foldl LRd.word R
def LRd.zero : LRd := ⟨[], 0, false⟩
def LRd.take (R : LRd) (t : Tk) (k : Nat) : LRd := (t.text.data.toList.take k).foldl (fun R c => R.letter c.toNat t) R
theorem LRd.take_succ (R : LRd) (t : Tk) (k : Nat) (hk : k < t.text.size) : R.take t (k + 1) = (R.take t k).letter (t.text[k]'hk).toNat t := by
  unfold LRd.take
  have hk' : k < t.text.data.toList.length := by simpa using hk
  rw [List.take_succ_eq_append_getElem hk', List.foldl_append]
  rfl
theorem LRd.take_all (R : LRd) (t : Tk) : R.take t t.text.size = R.word t := by
  unfold LRd.take LRd.word
  rw [List.take_of_length_le (by simp)]
theorem LRd.words_take (R : LRd) (ws : List Tk) (k : Nat) (hk : k < ws.length) : R.words (ws.take (k + 1)) = (R.words (ws.take k)).word ws[k] := by
  unfold LRd.words
  rw [List.take_succ_eq_append_getElem hk, List.foldl_append]
  rfl
theorem letter_len (R : LRd) (c : Nat) (t : Tk) : (R.letter c t).out.length ≤ R.out.length + 2 := by
  unfold LRd.letter LRd.broken LRd.tell
  split
  · simp
  · split
    · simp
    · split <;> simp
theorem letter_n (R : LRd) (c : Nat) (t : Tk) : (R.letter c t).n ≤ 1125899906842624 := by
  unfold LRd.letter LRd.broken LRd.tell
  split
  · exact Nat.min_le_right _ _
  · split
    · exact Nat.zero_le _
    · split <;> exact Nat.zero_le _
theorem Row.ne_iter {w : World} {e k n : Nat} {v : Value} {xs : List Value} (h : Row w e k v n xs) {b : Nat} {s : ByteArray} {p : Nat} (hb : w.heap[b]? = some (.stringIter s p)) : v.ownBlock ≠ some b := by
  rcases h.2 with ⟨rfl, _⟩ | ⟨g, cap, cur, rfl, h0, h1, h3⟩
  · simp [Value.ownBlock]
  · intro e'
    simp [Value.ownBlock] at e'
    subst e'
    rw [h1] at hb
    cases hb
theorem Same.iterAt (w : World) (b : Nat) (s : ByteArray) (p : Nat) : Same [b] w (w.iterAt b s p) := ⟨rfl, rfl, rfl, by rw [Lib.iterAt_size]; exact Nat.le_refl _, fun i _ hi => Lib.iterAt_other w b i s p (by simpa using hi)⟩
def DecI (w : World) (r : Nat) (ws : List Tk) (u : Value) (W : World) : Prop := ∃ (k : Nat) (v : Value), k ≤ ws.length ∧ u = .int .i64 k ∧ LrAt W r v (LRd.zero.words (ws.take k)) ∧ FreshB w v ∧ Same [] w W ∧ (LRd.zero.words (ws.take k)).out.length ≤ 131072 * k ∧ (LRd.zero.words (ws.take k)).n ≤ 1125899906842624
def DecJ (w : World) (r it a k : Nat) (R : LRd) (t : Tk) (W : World) : Prop := ∃ (p : Nat) (v : Value), p ≤ t.text.size ∧ W.heap[it]? = some (.stringIter t.text p) ∧ LrAt W r v (R.take t p) ∧ FreshB w v ∧ Same [] w W ∧ (R.take t p).out.length ≤ 131072 * k + 2 * p ∧ (R.take t p).n ≤ 1125899906842624 ∧
  W.heap[a]? = some (.cells #[.string t.text, .int .i64 t.at_.off, .int .i64 t.at_.line, .int .i64 t.at_.col] 54 (0, 0))
def DecR (ws : List Tk) (w : World) (e : Ending) (w' : World) : Prop := ∃ v, e = .returned (.tuple #[v, .bool (LRd.zero.words ws).within]) ∧ Row w' 278 5 v (LRd.zero.words ws).out.length (codeCells (LRd.zero.words ws).out) ∧ FreshB w v ∧ Same [] w w'
set_option maxHeartbeats 8000000 in
theorem Decode_calls (w : World) (va : Value) (ws : List Tk) (hw : Sub w 4 va ws.length (tkCells ws)) (hn : ws.length ≤ 16384) (hs : ∀ t ∈ ws, TkP t) (ha : ∀ t ∈ ws, AscP t) : Calls Tryz.prog 142 #[va] w (DecR ws w) := by
  obtain ⟨g, off, cw, rfl, -, -, -⟩ := hw.ex
  have Hw := Lib.hid hw
  have Hs := Lib.hid hs
  have Ha := Lib.hid ha
  clear hw hs ha
  go_enter Tryz.func142, Tryz.ntmps142
  go_wp2
  have h0 : DecI w w.heap.size ws (.int .i64 0) (w.alloc (.cells #[.slice none 0 0, .int .i64 0, .bool false] 251)) := ⟨0, .slice none 0 0, Nat.zero_le _, rfl, ⟨blk_new _ _, World.ownsRow_nil _ _ _ _⟩, by simp [FreshB, Value.ownBlock], Same.alloc _ _ _, by simp [LRd.words, LRd.zero], by simp [LRd.words, LRd.zero]⟩
  have H0 := Lib.hid h0
  clear h0
  go_loopw [15] (fun u wr => DecI w w.heap.size ws u wr) (fun u _ => ws.length - (intOf u).toNat)
  case atStart => exact H0.out
  case round =>
    obtain ⟨k, v, hk, rfl, hr, hf, hsm, hln, hnn⟩ := hrel
    have hrl := blk_lt hr.blk
    by_cases hlt : k < ws.length
    · obtain ⟨t0, t1, t2, t3, hgl⟩ := tk_sub (Hw.out.same hsm) hlt
      obtain ⟨Wo, rfl⟩ : ∃ Wo, Wo = wr := ⟨_, rfl⟩
      obtain ⟨R, hR⟩ : ∃ R, LRd.zero.words (ws.take k) = R := ⟨_, rfl⟩
      rw [hR] at hr hln hnn
      have HR := Lib.hid hR
      obtain ⟨t, ht⟩ : ∃ t, ws[k] = t := ⟨_, rfl⟩
      rw [ht] at t0 t1 t2 t3
      have hts : t.text.size ≤ 65536 := Hs.out t (by rw [← ht]; exact List.getElem_mem _)
      have hta : AscP t := Ha.out t (by rw [← ht]; exact List.getElem_mem _)
      have hj : DecJ w w.heap.size (Wo.heap.size + 1) Wo.heap.size k R t ((Wo.alloc (.cells #[.string t.text, .int .i64 t.at_.off, .int .i64 t.at_.line, .int .i64 t.at_.col] 54)).iter t.text 0) := by
        have hs1 : Same [] Wo ((Wo.alloc (.cells #[.string t.text, .int .i64 t.at_.off, .int .i64 t.at_.line, .int .i64 t.at_.col] 54)).iter t.text 0) := (Same.alloc _ _ _).trans (Same.alloc [] (Wo.alloc (.cells #[.string t.text, .int .i64 t.at_.off, .int .i64 t.at_.line, .int .i64 t.at_.col] 54)) (.stringIter t.text 0))
        have hi := World.iter_heap (Wo.alloc (.cells #[.string t.text, .int .i64 t.at_.off, .int .i64 t.at_.line, .int .i64 t.at_.col] 54)) t.text 0
        rw [size_alloc'] at hi
        exact ⟨0, v, Nat.zero_le _, hi, hr.same hs1, hf, hsm.trans hs1, by simpa [LRd.take] using hln, by simpa [LRd.take] using hnn, blk_old (blk_new Wo _) (.stringIter t.text 0)⟩
      have HJ := Lib.hid hj
      have Hts := Lib.hid hts
      have Hta := Lib.hid hta
      have Ht := Lib.hid ht
      clear hj hr hf hsm hln hnn hR ht hts hta H0
      go_wp2
      go_loopw [] (fun wr => DecJ w w.heap.size (Wo.heap.size + 1) Wo.heap.size k R t wr) (fun wr => t.text.size - wr.iterPos (Wo.heap.size + 1))
      case atStart => exact HJ.out
      case round =>
        obtain ⟨p, v, hp, hit, hr, hf, hsm, hln, hnn, htok⟩ := hrel
        have hpos := iterPos_of hit
        have hpt := Hts.out
        by_cases hpl : p < t.text.size
        · obtain ⟨c, hc⟩ : ∃ c, (t.text[p]'hpl).toNat = c := ⟨_, rfl⟩
          have hc128 : c < 128 := by rw [← hc]; exact Hta.out p hpl
          have hnx : ∀ ty, (Instr.next (.pointer (some ⟨Wo.heap.size + 1, 0, none⟩)) true ty).run Tryz.prog wr = _ := fun ty => Lib.run_next_ascii_at wr (Wo.heap.size + 1) t.text p ty hit hpl (Hta.out p hpl)
          rw [hc] at hnx
          have hs1 := Same.iterAt wr (Wo.heap.size + 1) t.text (p + 1)
          obtain ⟨W1, hW1⟩ : ∃ W1, W1 = wr.iterAt (Wo.heap.size + 1) t.text (p + 1) := ⟨_, rfl⟩
          have hit1 : W1.heap[Wo.heap.size + 1]? = some (.stringIter t.text (p + 1)) := by rw [hW1]; exact Lib.iterAt_heap wr _ t.text p (p + 1) hit
          rw [← hW1] at hnx hs1
          have hri : w.heap.size ∉ [Wo.heap.size + 1] := by simp; omega
          have hvi : ∀ b, v.ownBlock = some b → b ∉ [Wo.heap.size + 1] := fun b hb hm => hr.row.ne_iter hit (List.mem_singleton.1 hm ▸ hb)
          have hr1 : LrAt W1 w.heap.size v (R.take t p) := ⟨hs1.get hr.blk hri, hr.row.same hs1 hvi⟩
          have htok1 := hs1.get htok (by simp)
          obtain ⟨b0, b1, b2, b3, bf⟩ := blk4 htok1
          have bl := blk_lt htok1
          have hlc := fun (W : World) (hW : Same [] W1 W) => letter_calls W w.heap.size v (R.take t p) (hr1.same hW) (by omega) hnn c (by omega) t
          have hnit : Wo.heap.size + 1 ∉ w.heap.size :: v.ownBlock.toList := fun hm => by
            rcases List.mem_cons.1 hm with hm | hm
            · omega
            · exact hr1.row.ne_iter hit1 (Option.mem_toList.1 hm)
          have hntk : Wo.heap.size ∉ w.heap.size :: v.ownBlock.toList := fun hm => by
            rcases List.mem_cons.1 hm with hm | hm
            · omega
            · exact hr1.row.ne htok1 (by decide) (Option.mem_toList.1 hm)
          have hsm1 : Same [] w W1 := hsm.then hs1 fun x hx => .inr (by have := hsm.size; simp at hx; omega)
          have Hit1 := Lib.hid hit1
          have Htok1 := Lib.hid htok1
          have Hsm1 := Lib.hid hsm1
          have Hf := Lib.hid hf
          have Hln := Lib.hid hln
          have Hnit := Lib.hid hnit
          have Hntk := Lib.hid hntk
          have hll := letter_len (R.take t p) c t
          have Hst : Hid (R.take t (p + 1) = (R.take t p).letter c t) := Lib.hid (by rw [LRd.take_succ R t p hpl, hc])
          have Hll := Lib.hid hll
          unfold tkV at hlc
          clear hW1 hit hr hf hsm hln hnn htok hit1 hs1 hri hvi hr1 htok1 hnit hntk hsm1 hll hc HJ
          go_wp2_with (go_at_call 166; go_must (refine (hlc _ (Same.refl _ _)).mono ?_; rintro e2 W2 ⟨rfl, v2, hr2, hs2, ho2⟩; have hit2 := hs2.get Hit1.out Hnit.out; have hpos2 := iterPos_of hit2; have Hr2 := Lib.hid hr2; have Hs2 := Lib.hid hs2; have Ho2 := Lib.hid ho2; have Hit2 := Lib.hid hit2; clear hr2 hs2 ho2 hit2))
          go_roundw
          case rel =>
            refine ⟨p + 1, v2, hpl, Hit2.out, by rw [Hst.out]; exact Hr2.out, Hf.out.next Hsm1.out.size Ho2.out, Hsm1.out.then Hs2.out fun x hx => ?_, by rw [Hst.out]; have := Hll.out; have := Hln.out; omega, by rw [Hst.out]; exact letter_n _ _ _, Hs2.out.get Htok1.out Hntk.out⟩
            rcases List.mem_cons.1 hx with rfl | hx
            · exact .inr (Nat.le_refl _)
            · exact .inr (Hf.out x (Option.mem_toList.1 hx))
          case measure => rw [hpos2, hpos]; omega
        · have hps : p = t.text.size := by omega
          have hnx : ∀ ty, (Instr.next (.pointer (some ⟨Wo.heap.size + 1, 0, none⟩)) true ty).run Tryz.prog wr = _ := fun ty => Lib.run_next_end_at wr (Wo.heap.size + 1) t.text p ty hit hpl
          have hw : LRd.zero.words (ws.take (k + 1)) = R.take t p := by rw [LRd.words_take _ _ _ hlt, HR.out, Ht.out, hps, LRd.take_all]
          have Hw2 := Lib.hid hw
          have Hr := Lib.hid hr
          have Hf := Lib.hid hf
          have Hsm := Lib.hid hsm
          have Hln := Lib.hid hln
          have Hnn := Lib.hid hnn
          clear hit hr hf hsm hln hnn htok hw HJ
          go_wp2
          go_roundw
          case rel => exact ⟨k + 1, v, hlt, by go_num, by rw [Hw2.out]; exact Hr.out, Hf.out, Hsm.out, by rw [Hw2.out]; have := Hln.out; omega, by rw [Hw2.out]; exact Hnn.out⟩
          case measure => simp [intOf]; omega
    · have hkk : k = ws.length := by omega
      subst hkk
      rw [List.take_length] at hr hln hnn
      obtain ⟨Av, cv, rfl⟩ := hr.row.shape
      have c0 := blk_c (i := 0) (v := .slice Av (LRd.zero.words ws).out.length cv) hr.blk
      have c2 := blk_c (i := 2) (v := .bool (LRd.zero.words ws).within) hr.blk
      have Hr := Lib.hid hr
      have Hf := Lib.hid hf
      have Hsm := Lib.hid hsm
      clear hr hf hsm H0
      go_wp2
      go_quiet (fail)
      go_wp2
      go_ret2
      exact ⟨.slice Av _ cv, rfl, Hr.out.row.same (Same.drewN [] _ _) (by simp), Hf.out, Hsm.out.trans (Same.drewN _ _ _)⟩
end Go.Proofs.YtdhkmfpfbjcdiaaGreatDoor
namespace Go.Proofs.YtdhkmfpfbjcdiaaGreatDoor
open Go.RowKit
def closeAt : List Tk → Option Nat
  | [] => none
  | t :: r => if (t.text.toList == [41]) = true then some 0 else (closeAt r).map (· + 1)
def idxV (o : Option Nat) : Int := match o with | some i => i | none => -1
theorem closeAt_drop (ws : List Tk) (k : Nat) (hk : k < ws.length) : closeAt (ws.drop k) = if (ws[k].text.toList == [41]) = true then some 0 else (closeAt (ws.drop (k + 1))).map (· + 1) := by
  rw [List.drop_eq_getElem_cons hk, closeAt]
theorem closeAt_lt : ∀ {ws : List Tk} {i : Nat}, closeAt ws = some i → i < ws.length
  | [], i, h => by simp [closeAt] at h
  | t :: r, i, h => by
    unfold closeAt at h
    split at h
    · cases h; simp
    · cases hc : closeAt r with
      | none => rw [hc] at h; cases h
      | some j =>
        rw [hc] at h
        cases h
        have := closeAt_lt hc
        simp; omega
theorem close_calls (w : World) (t : Tk) : Calls Tryz.prog 141 #[tkV t] w fun e w' => e = .returned (.bool (t.text.toList == [41])) ∧ Same [] w w' := by
  unfold tkV
  go_enter Tryz.func141, Tryz.ntmps141
  go_wp2
  go_ret
  exact ⟨rfl, Same.alloc _ _ _⟩
def ClsI (w : World) (ws : List Tk) (u : Value) (W : World) : Prop := ∃ k : Nat, k ≤ ws.length ∧ u = .int .i64 k ∧ Same [] w W ∧ closeAt ws = (closeAt (ws.drop k)).map (· + k)
set_option maxHeartbeats 2000000 in
theorem IndexFunc_calls (w : World) (va : Value) (ws : List Tk) (hw : Sub w 4 va ws.length (tkCells ws)) (hn : ws.length ≤ 1000000) : Calls Tryz.prog 140 #[va, .func (.func 141) #[] #[]] w fun e w' => e = .returned (.int .i64 (idxV (closeAt ws))) ∧ Same [] w w' := by
  obtain ⟨g, off, cw, rfl, -, -, -⟩ := hw.ex
  have Hw := Lib.hid hw
  clear hw
  go_enter Tryz.func140, Tryz.ntmps140
  go_wp2
  have h0 : ClsI w ws (.int .i64 0) w := ⟨0, Nat.zero_le _, rfl, Same.refl _ _, by simp⟩
  have H0 := Lib.hid h0
  clear h0
  go_loopw [8] (fun u wr => ClsI w ws u wr) (fun u _ => ws.length - (intOf u).toNat)
  case atStart => exact H0.out
  case round =>
    obtain ⟨k, hk, rfl, hsm, heq⟩ := hrel
    by_cases hlt : k < ws.length
    · obtain ⟨t0, t1, t2, t3, hgl⟩ := tk_sub (Hw.out.same hsm) hlt
      have hstep := closeAt_drop ws k hlt
      have hcl := fun W => close_calls W ws[k]
      unfold tkV at hcl
      cases hb : (ws[k].text.toList == [41]) with
      | true =>
        rw [hb] at hcl
        rw [hb, if_pos rfl] at hstep
        rw [hstep] at heq
        have Heq := Lib.hid heq
        have Hsm := Lib.hid hsm
        clear hstep heq hsm hb H0
        go_wp2_with (go_at_call 141; go_must (refine (hcl _).mono ?_; rintro e1 W1 ⟨rfl, hs1⟩))
        go_ret
        rw [Heq.out]
        exact ⟨by simp [idxV], Hsm.out.trans hs1⟩
      | false =>
        rw [hb] at hcl
        rw [hb, if_neg (by decide)] at hstep
        rw [hstep, Option.map_map] at heq
        have Heq := Lib.hid heq
        have Hsm := Lib.hid hsm
        clear hstep heq hsm hb H0
        go_wp2_with (go_at_call 141; go_must (refine (hcl _).mono ?_; rintro e1 W1 ⟨rfl, hs1⟩; have Hs1 := Lib.hid hs1; clear hs1))
        go_roundw
        case rel =>
          refine ⟨k + 1, hlt, by go_num, Hsm.out.trans Hs1.out, ?_⟩
          rw [Heq.out]
          congr 1
          funext x
          simp
          omega
        case measure => simp [intOf]; omega
    · have hkk : k = ws.length := by omega
      subst hkk
      rw [List.drop_length] at heq
      have Heq := Lib.hid heq
      have Hsm := Lib.hid hsm
      clear heq hsm H0
      go_wp2
      go_ret
      rw [Heq.out]
      exact ⟨rfl, Hsm.out⟩
structure Pf where
  form : Nat
  labels : List Tk
  codes : List (Int × Tk)
  broken : Bool
  cut : Bool
  end_ : Tk
def parseOf (ws : List Tk) (e : Tk) : Pf := match ws with
  | [] => ⟨1, [], [], false, false, e⟩
  | x :: r => if (x.text.toList == [40]) = false then ⟨1, x :: r, [], false, false, e⟩ else match closeAt r with
    | none => ⟨2, r, [], true, false, e⟩
    | some i => ⟨2, r.take i, (LRd.zero.words (r.drop (i + 1))).out, false, (LRd.zero.words (r.drop (i + 1))).within, e⟩
def pfV (p : Pf) (lv cv : Value) : Value := .agg #[.int .i64 p.form, lv, cv, .bool p.broken, .bool p.cut, .string p.end_.text, .int .i64 p.end_.at_.off, .int .i64 p.end_.at_.line, .int .i64 p.end_.at_.col]
def ParseR (p : Pf) (w : World) (e : Ending) (w' : World) : Prop := ∃ lv cv, e = .returned (pfV p lv cv) ∧ Row w' 54 4 lv p.labels.length (tkCells p.labels) ∧ FreshB w lv ∧ Row w' 278 5 cv p.codes.length (codeCells p.codes) ∧ FreshB w cv ∧ Same [] w w'
end Go.Proofs.YtdhkmfpfbjcdiaaGreatDoor
namespace Go.Proofs.YtdhkmfpfbjcdiaaGreatDoor
open Go.RowKit
theorem HypsIn.fix {w : World} {M : List Nat} {v : Value} {evs : List Value} {l : List Hy} (h : HypsIn w [] v evs l) (hf : ∀ ev ∈ evs, ∀ b, ev.ownBlock = some b → b ∉ M) : HypsIn w M v evs l :=
  ⟨h.row, h.exprs.impMem fun x ev hm hi => ⟨hi.row, hf ev hm⟩, h.flo⟩
theorem fresh_not {w : World} {M : List Nat} (hM : ∀ b ∈ M, b < w.heap.size) {v : Value} (h : FreshB w v) : ∀ b, v.ownBlock = some b → b ∉ M := fun b hb hm => by
  have h1 := h b hb
  have h2 := hM b hm
  omega
theorem FreshB.mono {w w' : World} {v : Value} (h : FreshB w' v) (hs : w.heap.size ≤ w'.heap.size) : FreshB w v := fun b hb => Nat.le_trans hs (h b hb)
theorem kind7 (k : Nat) : ((k : Int) == 7) = decide (k = 7) := by
  by_cases h : k = 7
  · subst h; rfl
  · rw [decide_eq_false h, beq_eq_false_iff_ne]; omega
theorem Tryz.infoAsr : (Tryz.prog.info? 56).map (fun i => (i.zero, i.size, i.bytes)) = some (some (.agg #[.int .i64 0, .string ByteArray.empty, .bool false, .slice none 0 0, .slice none 0 0, .slice none 0 0, .slice none 0 0, .slice none 0 0, .slice none 0 0, .string ByteArray.empty, .int .i64 0, .int .i64 0, .int .i64 0, .string ByteArray.empty, .int .i64 0, .int .i64 0, .int .i64 0]), 17, 256) := by kernel_rfl
def Ld.asr (L : Ld) (s : St) (goal : List Int) : Asr := ⟨L.asserts.length, s.label.text, decide (s.kind = 7), frameHyps L.tbl.isVar L.scs goal, framePairs L.tbl.isVar L.scs goal, goal, scopeHyps L.scs, activeS L.scs, s.proof, s.label, s.end_⟩
theorem need_zero (w : World) (t : Tk) : Calls Tryz.prog 63 #[tkV t, .int .i64 0] w fun e w' => e = .returned (.tuple #[]) ∧ Same [] w w' := need_ok w t 0 rfl
set_option maxHeartbeats 8000000 in
theorem lassert_calls (w : World) (F : LF) (V : LV) (L : Ld) (h : LdAt w F V L) (hok : L.Ok) (s : St) (Aw Ap : Option Addr) (nw cw cp : Nat) (hs : s.label.text.size ≤ maxLen) (hp : Fix w (V.blocks F) 54 4 (.slice Ap s.proof.length cp) s.proof.length (tkCells s.proof))
    (goal : List Int) (ev : Value) (hv : Row w 3 1 ev goal.length (intCells goal)) (hg : goal.length ≤ 200) :
    Calls Tryz.prog 78 #[.pointer (some ⟨F.l, 0, none⟩), stV s (.slice Aw nw cw) (.slice Ap s.proof.length cp), ev] w (LdX F V (L.assert s goal) w) := by
  have hR := h.lr hok.small
  have l0 := blk_c (i := 0) (v := .pointer (some ⟨F.nb, 0, none⟩)) h.lb
  have l1 := blk_c (i := 1) (v := .pointer (some ⟨F.s, 0, none⟩)) h.lb
  have l2 := blk_c (i := 2) (v := .int .i64 L.labels) h.lb
  have lf := blk_free h.lb
  have ll := blk_lt h.lb
  have hll := hok.le
  obtain ⟨Ae, ce, rfl⟩ := hv.shape
  have hM := h.lt
  have hs0 := Same.alloc [] w (stO s (.slice Aw nw cw) (.slice Ap s.proof.length cp))
  have hS0 := blk_new w (stO s (.slice Aw nw cw) (.slice Ap s.proof.length cp))
  by_cases hc : checkS L.tbl.isVar L.scs goal = 0
  · have hfr := Frame_good (w.alloc (stO s (.slice Aw nw cw) (.slice Ap s.proof.length cp))) F.s F.t V.A (V.blocks F) L.scs (h.stk.same hs0) hok.small V.TA L.tbl (h.tbl.same hs0 (by simp)) _ goal (hv.same hs0 (by simp)) (by omega) hc
    have hn0 := fun W => need_zero W s.end_
    unfold tkV at hn0
    have H := Lib.hid h
    have HS0 := Lib.hid hS0
    have Hs0 := Lib.hid hs0
    have Hp := Lib.hid hp
    have Hok := Lib.hid hok
    have HC := Lib.hid hc
    have HM := Lib.hid hM
    unfold stV
    unfold stO at hfr
    clear h hok hv hp hs0 hS0 hR hc hM
    go_enter Tryz.func78, Tryz.ntmps78
    go_wp2_with (first
      | (go_at_call 135; go_must (refine hfr.mono ?_; rintro e1 W1 ⟨hv1, pv1, gv1, evs1, rfl, hh1, hfh1, hfe1, hr1, hfp1, hg1, hfg1, hs1⟩; obtain ⟨A1, c1, rfl⟩ := hh1.row.shape; obtain ⟨A1', c1', rfl⟩ := hr1.shape; obtain ⟨A1'', c1'', rfl⟩ := hg1.shape; have hS1 := hs1.get HS0.out (by simp); obtain ⟨s0, s1, s2, s3, s4, s5, s6, s7, s8, s9, s10, s11, s12, s13, s14, s15, sf⟩ := stO_cells hS1; have sl := blk_lt hS1; have Hs1 := Lib.hid (Hs0.out.trans hs1); have HS1 := Lib.hid hS1; have Hh1 := Lib.hid hh1; have Hr1 := Lib.hid hr1; have Hg1 := Lib.hid hg1; have Hfh1 := Lib.hid hfh1; have Hfe1 := Lib.hid hfe1; have Hfp1 := Lib.hid hfp1; have Hfg1 := Lib.hid hfg1; clear hh1 hr1 hg1 hfh1 hfe1 hfp1 hfg1 hs1 hS1))
      | (go_at_call 63; go_must (refine (hn0 _).mono ?_; rintro e2 W2 ⟨rfl, hs2⟩; have hs02 := (Hs1.out.trans (Same.alloc [] W1 (.cells #[.slice A1 (frameHyps L.tbl.isVar L.scs goal).length c1, .slice A1' (framePairs L.tbl.isVar L.scs goal).length c1', .slice A1'' goal.length c1''] 47))).trans hs2; have m0 := hs02.cell l0 (by simp); have m1 := hs02.cell l1 (by simp); have m2 := hs02.cell l2 (by simp); have mf : ∀ i, W2.frozen? ⟨F.l, i, none⟩ = false := (fun i => by rw [World.frozen?_of_block (hs02.block F.l ll (by simp))]; exact lf i); have ml := Nat.lt_of_lt_of_le ll hs02.size; have Hs2 := Lib.hid hs2; clear hs2 hs02)))
    obtain ⟨W3, hW3⟩ : ∃ W3, W2.setCell ⟨F.l, 2, none⟩ (.int .i64 ((L.labels : Int) + 1)) = W3 := ⟨_, rfl⟩
    rw [hW3]
    have hs02 : Same [] w W2 := (Hs1.out.trans (Same.alloc _ _ _)).trans Hs2.out
    have hL2 := H.out.same hs02
    have hS2 := ((Same.alloc [] W1 (.cells #[.slice A1 (frameHyps L.tbl.isVar L.scs goal).length c1, .slice A1' (framePairs L.tbl.isVar L.scs goal).length c1', .slice A1'' goal.length c1''] 47)).trans Hs2.out).get HS1.out (by simp)
    have hF2 := Hs2.out.get (blk_new W1 (.cells #[.slice A1 (frameHyps L.tbl.isVar L.scs goal).length c1, .slice A1' (framePairs L.tbl.isVar L.scs goal).length c1', .slice A1'' goal.length c1''] 47)) (by simp)
    have hz1 := Hs1.out.size
    have hz1' := blk_lt HS1.out
    obtain ⟨hL3, m3⟩ := hL2.setLabels (n := L.labels + 1) (by have := blk_set hL2.lb 2 (.int .i64 ((L.labels : Int) + 1)); simpa using this) (Same.setCell W2 _ _ (S := [F.l]) (by simp))
    have hs23 : Same [F.l] W2 W3 := by rw [← hW3]; exact Same.setCell W2 _ _ (by simp)
    rw [hW3] at hL3 m3
    have hS3 := hs23.get hS2 (by simp; omega)
    have hF3 := hs23.get hF2 (by simp; omega)
    obtain ⟨Av, cv, hav⟩ := H.out.asr.shape
    have MA := Lib.hid ((Move.of_same ((Same.alloc [] W1 (.cells #[.slice A1 (frameHyps L.tbl.isVar L.scs goal).length c1, .slice A1' (framePairs L.tbl.isVar L.scs goal).length c1', .slice A1'' goal.length c1''] 47)).trans Hs2.out)).trans m3)
    have Hz1 := Lib.hid hz1'
    clear hL2 hS2 hF2 m3 hs23 hs02 m0 m1 m2 mf ml s0 s1 s2 s3 s4 s5 s6 s7 s8 s9 s10 s11 s12 s13 s14 s15 sf sl l0 l1 l2 lf hW3
    have hlb := fun (W : World) (hW : Same [] W3 W) => symLabel_calls W F.t V.TA L.tbl (hL3.tbl.same hW (by simp)) s.label.text hs
    have hnok := fun W n hn => need_ok W s.label n hn
    have hnbad := fun W n hn => need_bad W s.label n hn
    unfold tkV at hnok hnbad
    have l0 := blk_c (i := 0) (v := .pointer (some ⟨F.nb, 0, none⟩)) hL3.lb
    have l1 := blk_c (i := 1) (v := .pointer (some ⟨F.s, 0, none⟩)) hL3.lb
    have ll3 := blk_lt hL3.lb
    have n2 := blk_c (i := 2) (v := .pointer (some ⟨F.t, 0, none⟩)) hL3.nbb
    have n4 := blk_c (i := 4) (v := V.av) hL3.nbb
    rw [hav] at n4
    have n5 := blk_c (i := 5) (v := .map (some F.mf)) hL3.nbb
    have nf := blk_free hL3.nbb
    have nl := blk_lt hL3.nbb
    obtain ⟨s0, s1, s2, s3, s4, s5, s6, s7, s8, s9, s10, s11, s12, s13, s14, s15, sf⟩ := stO_cells hS3
    have sl := blk_lt hS3
    obtain ⟨f0, f1, f2, ff⟩ := blk3 hF3
    have fl := blk_lt hF3
    have HL3 := Lib.hid hL3
    have HS3 := Lib.hid hS3
    have HF3 := Lib.hid hF3
    clear hL3 hS3 hF3
    refine region_canonP (.read 0 (.read 1 (.read 2 (.read 3 (.read 4 (.read 5 (.read 6 (.read 7 (.read 8 (.read 9 (.read 10 (.read 11 (.one 12 [0, 1] (.one 13 [] (.done))))))))))))))) (by kernel_rfl) (by kernel_rfl) ?_
    iterate 12 (refine canonP_read rfl (fun K hK => ?_); go_simp; (try go_bits); (try (rw [if_pos (by omega)]; go_simp)); refine hK _ ?_; clear hK K)
    refine canonP_oneL rfl ?_
    go_wp2_with (go_at_call 132; go_must (refine (hlb _ (Same.drew [] _)).mono ?_; rintro e4 W4 ⟨rfl, TA4, hT4, hm4⟩))
    have hnS : w.heap.size ∉ V.TA.blocks F.t := fun hm => by have h1 := HM.out _ (LV.mem.2 (.inr (.inr (.inr (.inr (.inr (.inr (.inl hm)))))))); omega
    have hnF : W1.heap.size ∉ V.TA.blocks F.t := fun hm => by have h1 := HM.out _ (LV.mem.2 (.inr (.inr (.inr (.inr (.inr (.inr (.inl hm)))))))); omega
    obtain ⟨hL4, hmv4⟩ := (HL3.out.same (Same.drew [] W3)).setTbl hT4 hm4
    dsimp only at hL4 hmv4
    have hS4 := hm4.same.get ((Same.drew [] W3).get HS3.out (by simp)) hnS
    have hF4 := hm4.same.get ((Same.drew [] W3).get HF3.out (by simp)) hnF
    have MA4 := Lib.hid ((MA.out.trans (Move.of_same (Same.drew [] W3))).trans hmv4)
    clear hT4 hm4 hnS hnF hmv4 l0 l1 ll3 n2 n4 n5 nf nl s0 s1 s2 s3 s4 s5 s6 s7 s8 s9 s10 s11 s12 s13 s14 s15 sf sl f0 f1 f2 ff fl
    have l0 := blk_c (i := 0) (v := .pointer (some ⟨F.nb, 0, none⟩)) hL4.lb
    have l1 := blk_c (i := 1) (v := .pointer (some ⟨F.s, 0, none⟩)) hL4.lb
    have ll4 := blk_lt hL4.lb
    have n2 := blk_c (i := 2) (v := .pointer (some ⟨F.t, 0, none⟩)) hL4.nbb
    have n4 := blk_c (i := 4) (v := V.av) hL4.nbb
    rw [hav] at n4
    have n5 := blk_c (i := 5) (v := .map (some F.mf)) hL4.nbb
    have nf := blk_free hL4.nbb
    have nl := blk_lt hL4.nbb
    obtain ⟨s0, s1, s2, s3, s4, s5, s6, s7, s8, s9, s10, s11, s12, s13, s14, s15, sf⟩ := stO_cells hS4
    have sl := blk_lt hS4
    obtain ⟨f0, f1, f2, ff⟩ := blk3 hF4
    have fl := blk_lt hF4
    have HL4 := Lib.hid hL4
    have HS4 := Lib.hid hS4
    have HF4 := Lib.hid hF4
    clear hL4 hS4 hF4
    refine EP.mk rfl ?_ ?_
    · repeat (first | exact rr_nil | (refine rr_skip rfl ?_) | (refine rr_cons rfl (by go_simp; (try go_bits); (try (rw [if_pos (by omega)]; go_simp)); (try trivial)) ?_))
    refine canonP_oneL rfl ?_
    by_cases hz : (L.tbl.label s.label.text).1 = 0
    · have hr : L.assert s goal = .ok { L with labels := L.labels + 1, tbl := (L.tbl.label s.label.text).2, finds := aput s.label.text L.asserts.length L.finds, asserts := L.asserts ++ [L.asr s goal] } := by unfold Ld.assert needE; dsimp only; rw [if_pos HC.out, if_pos hz]; rfl
      rw [hr]
      have HZ := Lib.hid hz
      clear hz
      go_wp2_with (go_at_call 63; go_must (refine (hnok _ _ HZ.out).mono ?_; rintro e5 W5 ⟨rfl, hs5⟩))
      have hL5 := HL4.out.same hs5
      have hS5 := hs5.get HS4.out (by simp)
      have hF5 := hs5.get HF4.out (by simp)
      have MA5 := Lib.hid (MA4.out.trans (Move.of_same hs5))
      clear hs5 l0 l1 ll4 n2 n4 n5 nf nl s0 s1 s2 s3 s4 s5 s6 s7 s8 s9 s10 s11 s12 s13 s14 s15 sf sl f0 f1 f2 ff fl
      refine EP.mk rfl ?_ ?_
      · repeat (first | exact rr_nil | (refine rr_skip rfl ?_) | (refine rr_cons rfl (by go_simp; (try go_bits); (try (rw [if_pos (by omega)]; go_simp)); (try trivial)) ?_))
      refine canonP_done ?_
      have l0 := blk_c (i := 0) (v := .pointer (some ⟨F.nb, 0, none⟩)) hL5.lb
      have l1 := blk_c (i := 1) (v := .pointer (some ⟨F.s, 0, none⟩)) hL5.lb
      have ll5 := blk_lt hL5.lb
      have n2 := blk_c (i := 2) (v := .pointer (some ⟨F.t, 0, none⟩)) hL5.nbb
      have n4 := blk_c (i := 4) (v := V.av) hL5.nbb
      rw [hav] at n4
      have n5 := blk_c (i := 5) (v := .map (some F.mf)) hL5.nbb
      have nf := blk_free hL5.nbb
      have nl := blk_lt hL5.nbb
      obtain ⟨s0, s1, s2, s3, s4, s5, s6, s7, s8, s9, s10, s11, s12, s13, s14, s15, sf⟩ := stO_cells hS5
      have sl := blk_lt hS5
      obtain ⟨f0, f1, f2, ff⟩ := blk3 hF5
      have fl := blk_lt hF5
      have HL5 := Lib.hid hL5
      have HS5 := Lib.hid hS5
      have HF5 := Lib.hid hF5
      clear hL5 hS5 hF5
      go_wp2
      refine region_canon (.read 0 (.read 1 (.read 2 (.read 3 (.read 4 (.read 5 (.read 6 (.read 7 (.read 8 (.read 9 (.read 10 (.read 11 (.read 12 (.read 13 (.read 14 (.read 15 (.read 16 (.read 17 (.one 18 [] (.done)))))))))))))))))))) (by kernel_rfl) (by kernel_rfl) ?_
      iterate 18 (refine canon_read rfl (fun K hK => ?_); go_simp; (try go_bits); (try (rw [if_pos (by omega)]; go_simp)); refine hK _ ?_; clear hK K)
      refine canon_oneL rfl ?_
      refine wp_sput (HL5.out.finds.same (Same.drew [] _) (by simp)) Tryz.underlying80 Tryz.underlying9 rfl _ _ _ rfl s.label.text (.int .i64 L.asserts.length) (by go_simp) (by go_simp) (by go_simp) ?_
      intro W6 hm6 hs6
      rw [natMap_put] at hm6
      obtain ⟨hL6, hmv6⟩ := (HL5.out.same (Same.drew [] W5)).setFind hm6 hs6
      have hmfS : w.heap.size ∉ [F.mf] := by have h1 := HM.out F.mf (LV.mem.2 (.inr (.inr (.inr (.inl rfl))))); simp; omega
      have hmfF : W1.heap.size ∉ [F.mf] := by have h1 := HM.out F.mf (LV.mem.2 (.inr (.inr (.inr (.inl rfl))))); simp; omega
      have hS6 := hs6.get ((Same.drew [] W5).get HS5.out (by simp)) hmfS
      have hF6 := hs6.get ((Same.drew [] W5).get HF5.out (by simp)) hmfF
      have MA6 := Lib.hid ((MA5.out.trans (Move.of_same (Same.drew [] W5))).trans hmv6)
      clear hm6 hs6 hmv6 hmfS hmfF l0 l1 ll5 n2 n4 n5 nf nl s0 s1 s2 s3 s4 s5 s6 s7 s8 s9 s10 s11 s12 s13 s14 s15 sf sl f0 f1 f2 ff fl
      have hsc := fun (W : World) (hW : Same [] W6 W) => Scope_calls W F.s F.t V.A _ L.scs (hL6.stk.same hW) Hok.out.small
      have hasl : L.asserts.length ≤ 1024 := Nat.le_trans Hok.out.asr Hok.out.le
      have l0 := blk_c (i := 0) (v := .pointer (some ⟨F.nb, 0, none⟩)) hL6.lb
      have l1 := blk_c (i := 1) (v := .pointer (some ⟨F.s, 0, none⟩)) hL6.lb
      have ll6 := blk_lt hL6.lb
      have n2 := blk_c (i := 2) (v := .pointer (some ⟨F.t, 0, none⟩)) hL6.nbb
      have n4 := blk_c (i := 4) (v := V.av) hL6.nbb
      rw [hav] at n4
      have n5 := blk_c (i := 5) (v := .map (some F.mf)) hL6.nbb
      have nf := blk_free hL6.nbb
      have nl := blk_lt hL6.nbb
      obtain ⟨s0, s1, s2, s3, s4, s5, s6, s7, s8, s9, s10, s11, s12, s13, s14, s15, sf⟩ := stO_cells hS6
      have sl := blk_lt hS6
      obtain ⟨f0, f1, f2, ff⟩ := blk3 hF6
      have fl := blk_lt hF6
      have HL6 := Lib.hid hL6
      have HS6 := Lib.hid hS6
      have HF6 := Lib.hid hF6
      clear hL6 hS6 hF6
      go_wp2
      refine EQ.mk rfl ?_ ?_
      · repeat (first | exact rr_nil | (refine rr_skip rfl ?_) | (refine rr_cons rfl (by go_simp; (try go_bits); (try (rw [if_pos (by omega)]; go_simp)); (try trivial)) ?_))
      refine canon_done ?_
      go_wp2
      refine region_canon (.read 0 (.read 1 (.read 2 (.read 3 (.read 4 (.read 5 (.read 6 (.read 7 (.read 8 (.read 9 (.read 10 (.read 11 (.read 12 (.read 13 (.read 14 (.read 15 (.read 16 (.read 17 (.read 18 (.read 19 (.read 20 (.read 21 (.read 22 (.read 23 (.read 24 (.read 25 (.read 26 (.read 27 (.read 28 (.read 29 (.read 31 (.read 32 (.read 33 (.read 34 (.read 35 (.read 36 (.one 30 [0, 1, 2, 3, 4, 5, 6, 7, 8, 9, 10, 11, 12, 13, 14, 15, 16, 17, 18, 19, 20, 21, 22, 23, 24, 25, 31, 32, 33, 34, 35, 36] (.read 37 (.one 38 [0, 1, 2, 3, 4, 5, 6, 7, 8, 9, 10] (.one 39 [0, 1, 2, 3] (.read 40 (.read 41 (.one 42 [] (.done)))))))))))))))))))))))))))))))))))))))))))) (by kernel_rfl) (by kernel_rfl) ?_
      iterate 36 (refine canon_read rfl (fun K hK => ?_); go_simp; (try go_bits); (try (rw [if_pos (by omega)]; go_simp)); refine hK _ ?_; clear hK K)
      refine canon_oneL rfl ?_
      go_wp2_with (go_at_call 120; go_must (refine (hsc _ (Same.drew [] _)).mono ?_; rintro e7 W7 ⟨hv7, pv7, evs7, rfl, hh7, hf7, hfe7, hr7, hfp7, hs7⟩; obtain ⟨A7, c7, rfl⟩ := hh7.row.shape; obtain ⟨A7', c7', rfl⟩ := hr7.shape))
      have hL7 := (HL6.out.same (Same.drew [] W6)).same hs7
      have hS7 := hs7.get ((Same.drew [] W6).get HS6.out (by simp)) (by simp)
      have hF7 := hs7.get ((Same.drew [] W6).get HF6.out (by simp)) (by simp)
      have MA7 := Lib.hid (MA6.out.trans (Move.of_same ((Same.drew [] W6).trans hs7)))
      have Hh7 := Lib.hid hh7
      have Hf7 := Lib.hid hf7
      have Hfe7 := Lib.hid hfe7
      have Hr7 := Lib.hid hr7
      have Hfp7 := Lib.hid hfp7
      clear hh7 hf7 hfe7 hr7 hfp7 hs7 l0 l1 ll6 n2 n4 n5 nf nl s0 s1 s2 s3 s4 s5 s6 s7 s8 s9 s10 s11 s12 s13 s14 s15 sf sl f0 f1 f2 ff fl hsc
      have l0 := blk_c (i := 0) (v := .pointer (some ⟨F.nb, 0, none⟩)) hL7.lb
      have l1 := blk_c (i := 1) (v := .pointer (some ⟨F.s, 0, none⟩)) hL7.lb
      have ll7 := blk_lt hL7.lb
      have n2 := blk_c (i := 2) (v := .pointer (some ⟨F.t, 0, none⟩)) hL7.nbb
      have n4 := blk_c (i := 4) (v := V.av) hL7.nbb
      rw [hav] at n4
      have n5 := blk_c (i := 5) (v := .map (some F.mf)) hL7.nbb
      have nf := blk_free hL7.nbb
      have nl := blk_lt hL7.nbb
      obtain ⟨s0, s1, s2, s3, s4, s5, s6, s7, s8, s9, s10, s11, s12, s13, s14, s15, sf⟩ := stO_cells hS7
      have sl := blk_lt hS7
      obtain ⟨f0, f1, f2, ff⟩ := blk3 hF7
      have fl := blk_lt hF7
      have HL7 := Lib.hid hL7
      have HS7 := Lib.hid hS7
      have HF7 := Lib.hid hF7
      clear hL7 hS7 hF7
      have hrow := HL7.out.asr
      dsimp only at hrow
      rw [hav] at hrow
      have Hrow := Lib.hid hrow
      clear hrow
      refine EQ.mk rfl ?_ ?_
      · repeat (first | exact rr_nil | (refine rr_skip rfl ?_) | (refine rr_cons rfl (by go_simp; (try go_bits); (try (rw [if_pos (by omega)]; go_simp)); (try trivial)) ?_))
      iterate 1 (refine canon_read rfl (fun K hK => ?_); go_simp; (try go_bits); (try (rw [if_pos (by omega)]; go_simp)); refine hK _ ?_; clear hK K)
      refine canon_oneL rfl ?_
      go_wp2
      refine EQ.mk rfl ?_ ?_
      · repeat (first | exact rr_nil | (refine rr_skip rfl ?_) | (refine rr_cons rfl (by go_simp; (try go_bits); (try (rw [if_pos (by omega)]; go_simp)); (try trivial)) ?_))
      refine canon_oneL rfl ?_
      refine wp_push (W := W7) rfl _ _ 67 rfl 56 17 256 _ Tryz.underlying67 Tryz.infoAsr rfl (by decide) (.slice Av L.asserts.length cv) _ _ (by go_simp) Hrow.out [.int .i64 L.asserts.length, .string s.label.text, .bool ((s.kind : Int) == 7), .slice A1 (frameHyps L.tbl.isVar L.scs goal).length c1, .slice A1' (framePairs L.tbl.isVar L.scs goal).length c1', .slice A1'' goal.length c1'', .slice A7 (scopeHyps L.scs).length c7, .slice A7' (activeS L.scs).length c7', .slice Ap s.proof.length cp, .string s.label.text, .int .i64 s.label.at_.off, .int .i64 s.label.at_.line, .int .i64 s.label.at_.col, .string s.end_.text, .int .i64 s.end_.at_.off, .int .i64 s.end_.at_.line, .int .i64 s.end_.at_.col] (by go_simp) rfl (by simp [Value.oneCell']) (by omega) (by decide) ?_
      intro v8 W8 hr8 hs8 ho8
      obtain ⟨A8, c8, rfl⟩ := hr8.shape
      have Mw1 : Move (V.blocks F) (V.blocks F) w W1 := Move.of_same Hs1.out
      have k1 : ∀ {v : Value}, FreshB (w.alloc (stO s (.slice Aw nw cw) (.slice Ap s.proof.length cp))) v → ∀ b, v.ownBlock = some b → b ∉ V.blocks F := fun hv => fresh_not HM.out (FreshB.mono hv (by rw [size_alloc']; omega))
      have hM6 := HL6.out.lt
      have k7 : ∀ {v : Value}, FreshB W6.drew v → ∀ b, v.ownBlock = some b → b ∉ LV.blocks { V with TA := TA4 } F := fun hv => fresh_not hM6 hv
      have hasr : AsIn W7 (LV.blocks { V with TA := TA4 } F) (L.asr s goal) ⟨.slice A1 (frameHyps L.tbl.isVar L.scs goal).length c1, .slice A1' (framePairs L.tbl.isVar L.scs goal).length c1', .slice A1'' goal.length c1'', .slice A7 (scopeHyps L.scs).length c7, .slice A7' (activeS L.scs).length c7', .slice Ap s.proof.length cp, evs1, evs7⟩ :=
        ⟨(Hh1.out.fix (fun ev he => k1 (Hfe1.out ev he))).moveFix MA7.out (k1 Hfh1.out), not_move MA7.out (fun b hb => Hh1.out.row.lt hb) (k1 Hfh1.out), Fix.move ⟨Hr1.out, k1 Hfp1.out⟩ MA7.out, Fix.move ⟨Hg1.out, k1 Hfg1.out⟩ MA7.out,
          Hh7.out.fix (fun ev he => k7 (Hfe7.out ev he)), k7 Hf7.out, ⟨Hr7.out, k7 Hfp7.out⟩, (Hp.out.move Mw1).move MA7.out⟩
      rw [kind7] at hr8
      have hres := LdAt.setAsr HL7.out (L.asr s goal) _ (v1 := .slice A8 (L.asserts.length + 1) c8) hr8 (by dsimp only; rw [hav]; exact hs8) (by dsimp only; rw [hav]; exact ho8) hasr
      dsimp only at hres
      obtain ⟨hL9, mv9⟩ := hres
      have hnav : F.nb ∉ (Value.slice Av L.asserts.length cv).ownBlock.toList := fun hm => HL7.out.ty.nb.no (HL7.out.ty.av F.nb (by dsimp only; rw [hav]; exact Option.mem_toList.1 hm)) (by decide)
      have nb8 := hs8.get HL7.out.nbb hnav
      have hlav : F.l ∉ (Value.slice Av L.asserts.length cv).ownBlock.toList := fun hm => HL7.out.ty.l.no (HL7.out.ty.av F.l (by dsimp only; rw [hav]; exact Option.mem_toList.1 hm)) (by decide)
      have lb8 := hs8.get HL7.out.lb hlav
      have l08 := blk_c (i := 0) (v := .pointer (some ⟨F.nb, 0, none⟩)) lb8
      have ll8 := blk_lt lb8
      have Mv9 := Lib.hid ((Mw1.trans MA7.out).trans mv9)
      have HL9 := Lib.hid hL9
      have n48 := blk_c (i := 4) (v := V.av) nb8
      rw [hav] at n48
      have nf8 := blk_free nb8
      have nl8 := blk_lt nb8
      clear hL9 mv9 hasr hr8 hs8 ho8 nb8 lb8 hlav hnav k1 k7 hM6 Mw1 l0 l1 ll7 n2 n4 n5 nf nl s0 s1 s2 s3 s4 s5 s6 s7 s8 s9 s10 s11 s12 s13 s14 s15 sf sl f0 f1 f2 ff fl
      go_wp2
      refine EQ.mk rfl ?_ ?_
      · repeat (first | exact rr_nil | (refine rr_skip rfl ?_) | (refine rr_cons rfl (by go_simp; (try go_bits); (try (rw [if_pos (by omega)]; go_simp)); (try trivial)) ?_))
      iterate 2 (refine canon_read rfl (fun K hK => ?_); go_simp; (try go_bits); (try (rw [if_pos (by omega)]; go_simp)); refine hK _ ?_; clear hK K)
      refine canon_oneL rfl ?_
      go_wp2
      refine EQ.mk rfl ?_ ?_
      · repeat (first | exact rr_nil | (refine rr_skip rfl ?_) | (refine rr_cons rfl (by go_simp; (try go_bits); (try (rw [if_pos (by omega)]; go_simp)); (try trivial)) ?_))
      refine canon_done ?_
      go_wp2
      refine bodyPost_end (results_none rfl _ _ _) rfl ?_
      exact ⟨rfl, _, HL9.out, Mv9.out⟩
    · have hr : L.assert s goal = .error (s.label, (L.tbl.label s.label.text).1) := by unfold Ld.assert needE; dsimp only; rw [if_pos HC.out, if_neg hz]; rfl
      rw [hr]
      have HZ := Lib.hid hz
      clear hz
      go_wp2_with (go_at_call 63; go_must (refine (hnbad _ _ HZ.out).mono ?_; rintro e5 W5 ⟨b, rfl, hf, hs5⟩))
      refine ⟨rfl, fun a' ha' => ⟨ha', ?_⟩⟩
      have mm := (Move.of_same (M := V.blocks F) Hs1.out).trans MA4.out
      exact ⟨b, rfl, hf, mm.same.then (hs5.mono (T := V.blocks F) (by simp)) fun _ hx => .inl hx⟩
  · have hr : L.assert s goal = .error (s.end_, checkS L.tbl.isVar L.scs goal) := by unfold Ld.assert needE; dsimp only; rw [if_neg hc]; rfl
    rw [hr]
    have hfr := Frame_bad (w.alloc (stO s (.slice Aw nw cw) (.slice Ap s.proof.length cp))) F.s F.t V.A (V.blocks F) L.scs (h.stk.same hs0) hok.small V.TA L.tbl (h.tbl.same hs0 (by simp)) _ goal (hv.same hs0 (by simp)) (by omega) hc
    have hnd := fun W => need_bad W s.end_ _ hc
    unfold tkV at hnd
    have HS0 := Lib.hid hS0
    have Hs0 := Lib.hid hs0
    unfold stV
    unfold stO at hfr
    clear h hok hv hp hs0 hS0 hR hc hM
    go_enter Tryz.func78, Tryz.ntmps78
    go_wp2_with (first
      | (go_at_call 135; go_must (refine hfr.mono ?_; rintro e1 W1 ⟨rfl, hs1⟩; have hS1 := hs1.get HS0.out (by simp); obtain ⟨s0, s1, s2, s3, s4, s5, s6, s7, s8, s9, s10, s11, s12, s13, s14, s15, sf⟩ := stO_cells hS1; have sl := blk_lt hS1; have Hs1 := Lib.hid (Hs0.out.trans hs1); clear hs1 hS1))
      | (go_at_call 63; go_must (refine (hnd _).mono ?_; rintro e2 W2 ⟨b, rfl, hf, hs2⟩)))
    exact ⟨rfl, b, rfl, hf, ((Hs1.out.trans (Same.alloc _ _ _)).trans hs2).mono (by simp)⟩
end Go.Proofs.YtdhkmfpfbjcdiaaGreatDoor
