/- lemmalaw texts, part 30. -/
import Derived.Test.YtdhkmfpfbjcdiaaGreatDoorYbc
import Derived.Lib.OthersKept
import Derived.Laws.RangeString
set_option maxRecDepth 100000
set_option linter.unusedVariables false
set_option linter.unusedSimpArgs false
set_option maxHeartbeats 32000000
namespace Go.Proofs.YtdhkmfpfbjcdiaaGreatDoor
open Go.RowKit
theorem LrAt.keep {w w' : World} {r : Nat} {v : Value} {R : LRd} (h : LrAt w r v R) (hs : Same [] w w') : LrR r v R w w' := ⟨v, h.same hs, hs.mono (by simp), .inl rfl⟩
theorem broken_calls (w : World) (r : Nat) (v : Value) (R : LRd) (h : LrAt w r v R) (hn : R.out.length ≤ 2000000000000) (t : Tk) : Calls Tryz.prog 182 #[.pointer (some ⟨r, 0, none⟩), tkV t] w fun e w' => e = .returned (.tuple #[]) ∧ LrR r v (R.broken t) w w' := by
 have c2 := blk_c (i := 2) (v := .bool R.within) h.blk
 have rl := blk_lt h.blk
 have htl := fun (W : World) (hW : Same [] w W) => tell_calls W r v R (h.same hW) hn (-3) t
 have H := Kd h
 unfold tkV at htl ⊢
 unfold LRd.broken
 clear h
 cases hw : R.within with
 | false =>
  rw [if_neg (by decide)]
  rw [hw] at c2
  clear hw
  go_enter Tryz.func182, Tryz.ntmps182
  go_wp2
  refine bodyPost_end (results_none rfl _ _ _) rfl ?_
  exact ⟨rfl, H.out.keep (Same.alloc _ _ _)⟩
 | true =>
  rw [if_pos rfl]
  rw [hw] at c2
  clear hw
  go_enter Tryz.func182, Tryz.ntmps182
  go_wp2_with (go_at_call 181; go_must (refine (htl _ (Same.alloc [] _ _)).mono ?_; rintro e1 W1 ⟨rfl, hr1⟩))
  refine bodyPost_end (results_none rfl _ _ _) rfl ?_
  exact ⟨rfl, LrR.then ((Same.alloc [] _ _).mono (by simp)) (.inl rfl) hr1⟩
theorem meaning_calls (w : World) (c : Nat) (hc : c < 256) : Calls Tryz.prog 183 #[.int .i32 c] w fun e w' => e = .returned (.int .i64 (meaningN c)) ∧ w' = w := by
 by_cases h1 : c = 90
 ·subst h1
  go_enter Tryz.func183, Tryz.ntmps183
  go_wp2
  go_ret
  exact ⟨rfl, rfl⟩
 ·by_cases h2 : c = 63
  ·subst h2
   go_enter Tryz.func183, Tryz.ntmps183
   go_wp2
   go_ret
   exact ⟨rfl, rfl⟩
  ·have hm : meaningN c = -3 := by unfold meaningN; rw [if_neg h1, if_neg h2]
   have k1 : ((c : Int) == 90) = false := by rw [beq_eq_false_iff_ne]; omega
   have k2 : ((c : Int) == 63) = false := by rw [beq_eq_false_iff_ne]; omega
   rw [hm]
   by_cases h3 : c = 40
   ·subst h3
    clear h1 h2 hm k1 k2
    go_enter Tryz.func183, Tryz.ntmps183
    go_wp2
    go_ret
    exact ⟨rfl, rfl⟩
   ·by_cases h4 : c = 41
    ·subst h4
     clear h1 h2 h3 hm k1 k2
     go_enter Tryz.func183, Tryz.ntmps183
     go_wp2
     go_ret
     exact ⟨rfl, rfl⟩
    ·have k3 : ((c : Int) == 40) = false := by rw [beq_eq_false_iff_ne]; omega
     have k4 : ((c : Int) == 41) = false := by rw [beq_eq_false_iff_ne]; omega
     clear h1 h2 h3 h4 hm
     go_enter Tryz.func183, Tryz.ntmps183
     go_wp2
     go_ret
     exact ⟨rfl, rfl⟩
theorem letter_calls (w : World) (r : Nat) (v : Value) (R : LRd) (h : LrAt w r v R) (hn : R.out.length ≤ 1000000000000) (hm : R.n ≤ 1125899906842624) (c : Nat) (hc : c < 256) (t : Tk) : Calls Tryz.prog 166 #[.pointer (some ⟨r, 0, none⟩), .int .i32 c, tkV t] w fun e w' => e = .returned (.tuple #[]) ∧ LrR r v (R.letter c t) w w' := by
 obtain ⟨Av, cv, rfl⟩ := h.row.shape
 have c0 := blk_c (i := 0) (v := .slice Av R.out.length cv) h.blk
 have c1 := blk_c (i := 1) (v := .int .i64 R.n) h.blk
 have c2 := blk_c (i := 2) (v := .bool R.within) h.blk
 have rf := blk_free h.blk
 have rl := blk_lt h.blk
 have hne := h.row.ne h.blk (by decide)
 have htl := fun (W : World) (hW : Same [] w W) (n : Int) => tell_calls W r _ R (h.same hW) (by omega) n t
 have hbr := fun (W : World) (hW : Same [] w W) => broken_calls W r _ R (h.same hW) (by omega) t
 have hmn := fun W => meaning_calls W c hc
 have H := Kd h
 have Hne := Kd hne
 unfold tkV at htl hbr ⊢
 clear h hne
 by_cases hA : 85 ≤ c ∧ c ≤ 89
 ·have hres : R.letter c t = ⟨R.out, min (R.n * 5 + (c - 85) + 1) 1125899906842624, true⟩ := by unfold LRd.letter; rw [if_pos hA]
  rw [hres]
  obtain ⟨hA1, hA2⟩ := hA
  clear hres htl hbr hmn
  go_enter Tryz.func166, Tryz.ntmps166
  go_wp2
  refine bodyPost_end (results_none rfl _ _ _) rfl ?_
  have e : ((min (R.n * 5 + (c - 85) + 1) 1125899906842624 : Nat) : Int) = min ((R.n : Int) * 5 + ((c : Int) - 85) + 1) 1125899906842624 := by omega
  have hn3 : ∀ b, (Value.slice Av R.out.length cv).ownBlock = some b → b ∉ [r] := fun b hb hm => Hne.out (List.mem_singleton.1 hm ▸ hb)
  refine ⟨rfl, .slice Av R.out.length cv, ⟨?_, ((H.out.row.same (Same.setCell _ _ _ (S := [r]) (by simp)) hn3).same (Same.setCell _ _ _ (S := [r]) (by simp)) hn3).same (Same.alloc [] _ _) (by simp)⟩, ((Same.setCell _ _ _ (by simp)).trans (Same.setCell _ _ _ (by simp))).trans (Same.alloc _ _ _), .inl rfl⟩
  have hx := blk_old (blk_set (blk_set H.out.blk 1 (.int .i64 (min ((R.n : Int) * 5 + ((c : Int) - 85) + 1) 1125899906842624))) 2 (.bool true)) (.cells #[.string t.text, .int .i64 t.at_.off, .int .i64 t.at_.line, .int .i64 t.at_.col] 54)
  dsimp only
  rw [e]
  simpa using hx
 ·by_cases hB : 65 ≤ c ∧ c ≤ 84
  ·have e : ((min (R.n * 20 + (c - 65)) 1125899906842624 : Nat) : Int) = min ((R.n : Int) * 20 + ((c : Int) - 65)) 1125899906842624 := by omega
   have hres : R.letter c t = R.tell (min ((R.n : Int) * 20 + ((c : Int) - 65)) 1125899906842624) t := by unfold LRd.letter; rw [if_neg hA, if_pos hB, e]
   rw [hres]
   obtain ⟨hB1, hB2⟩ := hB
   have hA' : ¬ 85 ≤ c := by omega
   clear hres hbr hmn hA e
   go_enter Tryz.func166, Tryz.ntmps166
   go_wp2
   refine region_canon (.read 0 (.read 1 (.read 2 (.read 3 (.read 4 (.read 5 (.read 6 (.read 7 (.read 8 (.read 9 (.read 10 (.read 11 (.one 12 [] (.done)))))))))))))) (by kernel_rfl) (by kernel_rfl) ?_
   iterate 12 (refine canon_read rfl (fun K hK => ?_); go_simp; (try go_bits); (try (rw [if_pos (by omega)]; go_simp)); refine hK _ ?_; clear hK K)
   refine canon_oneL rfl ?_
   go_wp2_with (go_at_call 181; go_must (refine (htl _ ((Same.alloc [] _ _).trans (Same.drew [] _)) _).mono ?_; rintro e1 W1 ⟨rfl, hr1⟩))
   refine EQ.A ?_
   refine canon_done ?_
   go_wp2
   refine bodyPost_end (results_none rfl _ _ _) rfl ?_
   exact ⟨rfl, LrR.then (((Same.alloc [] _ _).trans (Same.drew [] _)).mono (by simp)) (.inl rfl) hr1⟩
  ·have hres : R.letter c t = (R.broken t).tell (meaningN c) t := by unfold LRd.letter; rw [if_neg hA, if_neg hB]
   rw [hres]
   have hvl : ∀ b, (Value.slice Av R.out.length cv).ownBlock = some b → b < w.heap.size := fun b hb => H.out.row.lt hb
   have hbl : (R.broken t).out.length ≤ R.out.length + 1 := by
    unfold LRd.broken LRd.tell
    split <;> simp
   have hnot : w.heap.size ∉ r :: (Value.slice Av R.out.length cv).ownBlock.toList := fun hx => by
    rcases List.mem_cons.1 hx with hx | hx
    ·omega
    ·have := hvl _ (Option.mem_toList.1 hx)
     omega
   have Hnot := Kd hnot
   clear hres htl hvl hnot
   have hcase : (¬ 85 ≤ c ∧ ¬ 65 ≤ c) ∨ (85 ≤ c ∧ ¬ c ≤ 89 ∧ 65 ≤ c ∧ ¬ c ≤ 84) := by omega
   clear hA hB
   rcases hcase with ⟨k1, k2⟩ | ⟨k1, k2, k3, k4⟩
   ·go_enter Tryz.func166, Tryz.ntmps166
    go_wp2_with (go_at_call 182; go_must (refine (hbr _ (Same.alloc [] _ _)).mono ?_; rintro e1 W1 ⟨rfl, v1, h1, hs1, ho1⟩; have hT1 := hs1.get (blk_new w (.cells #[.string t.text, .int .i64 t.at_.off, .int .i64 t.at_.line, .int .i64 t.at_.col] 54)) Hnot.out; obtain ⟨b0, b1, b2, b3, bf⟩ := blk4 hT1; have bl := blk_lt hT1; have H1 := Kd h1; have Hs1 := Kd hs1; have Ho1 := Kd ho1; clear h1 hs1 ho1 hT1))
    have htl := fun (W : World) (hW : Same [] W1 W) (n : Int) => tell_calls W r v1 (R.broken t) (H1.out.same hW) (by omega) n t
    unfold tkV at htl
    refine region_canon (.read 0 (.read 1 (.read 3 (.one 2 [0, 3] (.one 4 [] (.done)))))) (by kernel_rfl) (by kernel_rfl) ?_
    iterate 3 (refine canon_read rfl (fun K hK => ?_); go_simp; (try go_bits); (try (rw [if_pos (by omega)]; go_simp)); refine hK _ ?_; clear hK K)
    refine canon_oneL rfl ?_
    go_wp2_with (go_at_call 183; go_must (refine (hmn _).mono ?_; rintro e2 W2 ⟨rfl, hw2⟩; obtain rfl := hw2))
    refine EQ.A ?_
    refine canon_oneL rfl ?_
    go_wp2_with (go_at_call 181; go_must (refine (htl _ (Same.drew [] _) _).mono ?_; rintro e3 W3 ⟨rfl, hr3⟩))
    refine EQ.A ?_
    refine canon_done ?_
    go_wp2
    refine bodyPost_end (results_none rfl _ _ _) rfl ?_
    exact ⟨rfl, LrR.then (((Same.alloc [] _ _).mono (by simp)).trans Hs1.out) (Ho1.out.imp id fun ⟨b, q1, q2⟩ => ⟨b, q1, by rw [size_alloc'] at q2; omega⟩) (LrR.then ((Same.drew [] _).mono (by simp)) (.inl rfl) hr3)⟩
   ·go_enter Tryz.func166, Tryz.ntmps166
    go_wp2_with (go_at_call 182; go_must (refine (hbr _ (Same.alloc [] _ _)).mono ?_; rintro e1 W1 ⟨rfl, v1, h1, hs1, ho1⟩; have hT1 := hs1.get (blk_new w (.cells #[.string t.text, .int .i64 t.at_.off, .int .i64 t.at_.line, .int .i64 t.at_.col] 54)) Hnot.out; obtain ⟨b0, b1, b2, b3, bf⟩ := blk4 hT1; have bl := blk_lt hT1; have H1 := Kd h1; have Hs1 := Kd hs1; have Ho1 := Kd ho1; clear h1 hs1 ho1 hT1))
    have htl := fun (W : World) (hW : Same [] W1 W) (n : Int) => tell_calls W r v1 (R.broken t) (H1.out.same hW) (by omega) n t
    unfold tkV at htl
    refine region_canon (.read 0 (.read 1 (.read 3 (.one 2 [0, 3] (.one 4 [] (.done)))))) (by kernel_rfl) (by kernel_rfl) ?_
    iterate 3 (refine canon_read rfl (fun K hK => ?_); go_simp; (try go_bits); (try (rw [if_pos (by omega)]; go_simp)); refine hK _ ?_; clear hK K)
    refine canon_oneL rfl ?_
    go_wp2_with (go_at_call 183; go_must (refine (hmn _).mono ?_; rintro e2 W2 ⟨rfl, hw2⟩; obtain rfl := hw2))
    refine EQ.A ?_
    refine canon_oneL rfl ?_
    go_wp2_with (go_at_call 181; go_must (refine (htl _ (Same.drew [] _) _).mono ?_; rintro e3 W3 ⟨rfl, hr3⟩))
    refine EQ.A ?_
    refine canon_done ?_
    go_wp2
    refine bodyPost_end (results_none rfl _ _ _) rfl ?_
    exact ⟨rfl, LrR.then (((Same.alloc [] _ _).mono (by simp)).trans Hs1.out) (Ho1.out.imp id fun ⟨b, q1, q2⟩ => ⟨b, q1, by rw [size_alloc'] at q2; omega⟩) (LrR.then ((Same.drew [] _).mono (by simp)) (.inl rfl) hr3)⟩
structure Sub (w : World) (k : Nat) (v : Value) (n : Nat) (xs : List Value) : Prop where
 len : xs.length = n * k
 ex : ∃ g off c, v = .slice (some ⟨g, off, none⟩) n c ∧ n ≤ c ∧ g < w.heap.size ∧ ∀ j u, xs[j]? = some u → w.cell? ⟨g, off + j, none⟩ = some u
theorem Sub.same {w w' : World} {k n : Nat} {v : Value} {xs : List Value} (h : Sub w k v n xs) (hs : Same [] w w') : Sub w' k v n xs := by
 obtain ⟨g, off, c, h1, h2, h3, h4⟩ := h.ex
 exact ⟨h.len, g, off, c, h1, h2, Nat.lt_of_lt_of_le h3 hs.size, fun j u hj => hs.cell (h4 j u hj) (by simp)⟩
theorem Sub.of_row {w : World} {e k n g c : Nat} {xs : List Value} (h : Row w e k (.slice (some ⟨g, 0, none⟩) n c) n xs) : Sub w k (.slice (some ⟨g, 0, none⟩) n c) n xs := by
 have hc : n ≤ c := by
  rcases h.2 with ⟨h1, _⟩ | ⟨g', cap, cur, h1, h2, h3, h4, _⟩
  ·simp at h1
  ·cases h1; exact h4
 refine ⟨h.1, g, 0, c, rfl, hc, h.lt rfl, fun j u hj => ?_⟩
 have hjl : j < n * k := by rw [← h.1]; exact (List.getElem?_eq_some_iff.1 hj).1
 obtain ⟨g', c', hv, h2, _⟩ := h.cell (j := j) hjl
 cases hv
 rw [Nat.zero_add, h2]
 simp [List.getD_eq_getElem?_getD, hj]
section
variable {P : Program} {ops : Array Oper} {rest : List Oper} {o : Oper} {a : Act} {Q : Exit → Act → World → Prop}
theorem wp_appendSub {W : World} (hgd : o.guard = none) (s x : Operand) (t : TypeId) (ho : o.op = .call { callee := .builtin .append, args := #[s, x], argTypes := #[t, t] })
  (e k bytes : Nat) (z : Value) (ht : P.underlying t = some (.slice e)) (hinfo : (P.info? e).map (fun i => (i.zero, i.size, i.bytes)) = some (some z, k, bytes)) (hz : z.cells.size = k) (hk : 0 < k)
  (v : Value) (n : Nat) (xs : List Value) (hs : a.eval s = v) (hown : Row W e k v n xs) (g off m c : Nat) (ys : List Value) (hx : a.eval x = .slice (some ⟨g, off, none⟩) m c) (hl : ys.length = m * k) (hsrc : ∀ j u, ys[j]? = some u → W.cell? ⟨g, off + j, none⟩ = some u) (h1 : ∀ u ∈ ys, u.oneCell' = true)
  (hn : (n + m) * bytes ≤ 140737488355328) (hb : 0 < bytes)
  (h : ∀ v' w', Row w' e k v' (n + m) (xs ++ ys) → Same v.ownBlock.toList W w' → (v'.ownBlock = v.ownBlock ∨ ∃ b, v'.ownBlock = some b ∧ W.heap.size ≤ b) → wpList P ops Q rest (a.put o.dst v') w') :
  wpList P ops Q (o :: rest) a W := by
 obtain ⟨i, hi, hz0, hz1, hz2⟩ := info_split hinfo
 have hlen : n + m ≤ 140737488355328 := Nat.le_trans (Nat.le_mul_of_pos_right _ hb) hn
 refine wpList_append_own_at _ hgd s x t ho 0 e i z k bytes ht hi hz0 hz1 hz2 hz hk v n xs hs hown ⟨g, off, none⟩ m c ys hx hl (fun j u hj => ?_) h1 (by simp only [maxLen]; omega) hn (Nat.zero_le _) ?_
 ·have e1 : (⟨g, off, none⟩ : Addr).add j = ⟨g, off + j, none⟩ := by unfold Addr.add; split <;> simp_all
  rw [e1]
  exact hsrc j u hj
 ·intro v' w' hown' hg _ hat
  refine h v' w' hown' (Same.of_grown hg) ?_
  rcases hat with hat | hat
  ·exact .inl hat
  ·exact .inr ⟨_, hat, Nat.le_refl _⟩
end
theorem CloneSub_calls (v : Value) (n : Nat) (xs : List Value) (w : World) (h : Sub w 4 v n xs) (h1 : ∀ u ∈ xs, u.oneCell' = true) (hn : n ≤ 1000000) : Calls Tryz.prog 45 #[v] w (CloneR 54 4 n xs w) := by
 obtain ⟨g, off, cap, rfl, h2, h3, h4⟩ := h.ex
 have H := Kd h
 have H1 := Kd h1
 have H4 := Kd h4
 have hnil := fun w => Lib.run_eql_slice_nil (P := Tryz.prog) w _ _ (some ⟨g, off, none⟩) n cap 0 0 Tryz.underlying50
 clear h h1 h2 h3 h4
 go_enter Tryz.func45, Tryz.ntmps45
 go_wp2_with (at_builtin; go_must (refine wp_appendSub rfl _ _ 50 rfl 54 4 40 _ Tryz.underlying50 Tryz.infoToken' rfl (by decide) (.slice (some ⟨w.heap.size, 0, none⟩) 0 0) 0 [] rfl (row_empty w _ _) g off n cap xs rfl H.out.len (fun j u hj => (Same.alloc [] w _).cell (H4.out j u hj) (by simp)) H1.out (by omega) (by decide) ?_; intro v1 w1 hr1 hs1 ho1; obtain ⟨A1, c1, rfl⟩ := hr1.shape))
 rw [List.nil_append] at hr1
 simp only [Nat.zero_add] at hr1 ho1 ⊢
 go_ret
 refine ⟨.slice A1 n c1, rfl, hr1, (Same.alloc [] w _).then hs1 (fun x hx => .inr (by simp [Value.ownBlock] at hx; omega)), fun b hb => ?_⟩
 rcases ho1 with ho | ⟨c, hc, hle⟩
 ·rw [ho] at hb; simp [Value.ownBlock] at hb; omega
 ·rw [hc] at hb; cases hb; simp at hle; omega
theorem tk_sub {w : World} {g off n c : Nat} {ws : List Tk} (h : Sub w 4 (.slice (some ⟨g, off, none⟩) n c) n (tkCells ws)) {k : Nat} (hk : k < ws.length) : w.cell? ⟨g, off + k * 4, none⟩ = some (.string ws[k].text) ∧ w.cell? ⟨g, off + k * 4 + 1, none⟩ = some (.int .i64 ws[k].at_.off) ∧ w.cell? ⟨g, off + k * 4 + 2, none⟩ = some (.int .i64 ws[k].at_.line) ∧ w.cell? ⟨g, off + k * 4 + 3, none⟩ = some (.int .i64 ws[k].at_.col) ∧ g < w.heap.size := by
 obtain ⟨g', off', c', hv, h2, h3, h4⟩ := h.ex
 cases hv
 have hc := tkCells_at ws k hk
 have key : ∀ j u, j < 4 → ws[k].cells[j]? = some u → (tkCells ws)[k * 4 + j]? = some u := by
  intro j u hj hu
  rw [← hc] at hu
  simpa [List.getElem?_take, hj] using hu
 have a0 := h4 (k * 4 + 0) _ (key 0 (.string ws[k].text) (by decide) rfl)
 have a1 := h4 (k * 4 + 1) _ (key 1 (.int .i64 ws[k].at_.off) (by decide) rfl)
 have a2 := h4 (k * 4 + 2) _ (key 2 (.int .i64 ws[k].at_.line) (by decide) rfl)
 have a3 := h4 (k * 4 + 3) _ (key 3 (.int .i64 ws[k].at_.col) (by decide) rfl)
 simp only [← Nat.add_assoc, Nat.add_zero] at a0 a1 a2 a3
 exact ⟨a0, a1, a2, a3, h3⟩
theorem tkCells_len (ws : List Tk) : (tkCells ws).length = ws.length * 4 := by
 induction ws with
 | nil => rfl
 | cons t r ih => simp [tkCells, Tk.cells, Ps.cells] at ih ⊢; omega
theorem tkCells_drop : ∀ (ws : List Tk) (i : Nat), (tkCells ws).drop (i * 4) = tkCells (ws.drop i)
 | [], i => by simp [tkCells]
 | t :: r, 0 => by simp
 | t :: r, i + 1 => by
  rw [show (i + 1) * 4 = 4 + i * 4 by omega, ← List.drop_drop]
  have e : (tkCells (t :: r)).drop 4 = tkCells r := by simp [tkCells, Tk.cells, Ps.cells]
  rw [e, tkCells_drop r i, List.drop_succ_cons]
theorem tkCells_take : ∀ (ws : List Tk) (i : Nat), (tkCells ws).take (i * 4) = tkCells (ws.take i)
 | [], i => by simp [tkCells]
 | t :: r, 0 => by simp [tkCells]
 | t :: r, i + 1 => by
  have e : tkCells (t :: r) = t.cells ++ tkCells r := by simp [tkCells]
  have e2 : tkCells (t :: r.take i) = t.cells ++ tkCells (r.take i) := by simp [tkCells]
  rw [List.take_succ_cons, e, e2, ← tkCells_take r i, List.take_append]
  have hl : t.cells.length = 4 := rfl
  rw [hl, List.take_of_length_le (by rw [hl]; omega), show (i + 1) * 4 - 4 = i * 4 by omega]
theorem Sub.drop {w : World} {g off n c : Nat} {ws : List Tk} (h : Sub w 4 (.slice (some ⟨g, off, none⟩) n c) n (tkCells ws)) {i : Nat} (hi : i ≤ n) : Sub w 4 (.slice (some ⟨g, off + i * 4, none⟩) (n - i) (c - i)) (n - i) (tkCells (ws.drop i)) := by
 obtain ⟨g', off', c', hv, h2, h3, h4⟩ := h.ex
 cases hv
 have hl := h.len
 rw [tkCells_len] at hl
 refine ⟨by rw [tkCells_len, List.length_drop]; omega, g, off + i * 4, c - i, rfl, by omega, h3, fun j u hj => ?_⟩
 rw [← tkCells_drop, List.getElem?_drop] at hj
 have := h4 _ _ hj
 rw [show off + i * 4 + j = off + (i * 4 + j) by omega]
 exact this
theorem Sub.take {w : World} {g off n c : Nat} {ws : List Tk} (h : Sub w 4 (.slice (some ⟨g, off, none⟩) n c) n (tkCells ws)) {i : Nat} (hi : i ≤ n) : Sub w 4 (.slice (some ⟨g, off, none⟩) i c) i (tkCells (ws.take i)) := by
 obtain ⟨g', off', c', hv, h2, h3, h4⟩ := h.ex
 cases hv
 have hl := h.len
 rw [tkCells_len] at hl
 refine ⟨by rw [tkCells_len, List.length_take]; omega, g, off, c, rfl, by omega, h3, fun j u hj => ?_⟩
 rw [← tkCells_take, List.getElem?_take] at hj
 split at hj
 ·exact h4 _ _ hj
 ·cases hj
def AscP (t : Tk) : Prop := ∀ (i : Nat) (h : i < t.text.size), (t.text[i]'h).toNat < 128
def LRd.word (R : LRd) (t : Tk) : LRd := t.text.data.toList.foldl (fun R c => R.letter c.toNat t) R
def LRd.words (R : LRd) (ws : List Tk) : LRd := ws.foldl LRd.word R
def LRd.zero : LRd := ⟨[], 0, false⟩
def LRd.take (R : LRd) (t : Tk) (k : Nat) : LRd := (t.text.data.toList.take k).foldl (fun R c => R.letter c.toNat t) R
theorem LRd.take_succ (R : LRd) (t : Tk) (k : Nat) (hk : k < t.text.size) : R.take t (k + 1) = (R.take t k).letter (t.text[k]'hk).toNat t := by
 unfold LRd.take
 have hk' : k < t.text.data.toList.length := by simpa using hk
 rw [List.take_succ_eq_append_getElem hk', List.foldl_append]
 rfl
theorem LRd.take_all (R : LRd) (t : Tk) : R.take t t.text.size = R.word t := by
 unfold LRd.take LRd.word
 rw [List.take_of_length_le (by simp)]
theorem LRd.words_take (R : LRd) (ws : List Tk) (k : Nat) (hk : k < ws.length) : R.words (ws.take (k + 1)) = (R.words (ws.take k)).word ws[k] := by
 unfold LRd.words
 rw [List.take_succ_eq_append_getElem hk, List.foldl_append]
 rfl
theorem letter_len (R : LRd) (c : Nat) (t : Tk) : (R.letter c t).out.length ≤ R.out.length + 2 := by
 unfold LRd.letter LRd.broken LRd.tell
 split
 ·simp
 ·split
  ·simp
  ·split <;> simp
theorem letter_n (R : LRd) (c : Nat) (t : Tk) : (R.letter c t).n ≤ 1125899906842624 := by
 unfold LRd.letter LRd.broken LRd.tell
 split
 ·exact Nat.min_le_right _ _
 ·split
  ·exact Nat.zero_le _
  ·split <;> exact Nat.zero_le _
theorem Row.ne_iter {w : World} {e k n : Nat} {v : Value} {xs : List Value} (h : Row w e k v n xs) {b : Nat} {s : ByteArray} {p : Nat} (hb : w.heap[b]? = some (.stringIter s p)) : v.ownBlock ≠ some b := by
 rcases h.2 with ⟨rfl, _⟩ | ⟨g, cap, cur, rfl, h0, h1, h3⟩
 ·simp [Value.ownBlock]
 ·intro e'
  simp [Value.ownBlock] at e'
  subst e'
  rw [h1] at hb
  cases hb
theorem Same.iterAt (w : World) (b : Nat) (s : ByteArray) (p : Nat) : Same [b] w (w.iterAt b s p) := ⟨rfl, rfl, rfl, by rw [Lib.iterAt_size]; exact Nat.le_refl _, fun i _ hi => Lib.iterAt_other w b i s p (by simpa using hi)⟩
def DecI (w : World) (r : Nat) (ws : List Tk) (u : Value) (W : World) : Prop := ∃ (k : Nat) (v : Value), k ≤ ws.length ∧ u = .int .i64 k ∧ LrAt W r v (LRd.zero.words (ws.take k)) ∧ FreshB w v ∧ Same [] w W ∧ (LRd.zero.words (ws.take k)).out.length ≤ 131072 * k ∧ (LRd.zero.words (ws.take k)).n ≤ 1125899906842624
def DecJ (w : World) (r it a k : Nat) (R : LRd) (t : Tk) (W : World) : Prop := ∃ (p : Nat) (v : Value), p ≤ t.text.size ∧ W.heap[it]? = some (.stringIter t.text p) ∧ LrAt W r v (R.take t p) ∧ FreshB w v ∧ Same [] w W ∧ (R.take t p).out.length ≤ 131072 * k + 2 * p ∧ (R.take t p).n ≤ 1125899906842624 ∧
 W.heap[a]? = some (.cells #[.string t.text, .int .i64 t.at_.off, .int .i64 t.at_.line, .int .i64 t.at_.col] 54 (0, 0))
def DecR (ws : List Tk) (w : World) (e : Ending) (w' : World) : Prop := ∃ v, e = .returned (.tuple #[v, .bool (LRd.zero.words ws).within]) ∧ Row w' 278 5 v (LRd.zero.words ws).out.length (codeCells (LRd.zero.words ws).out) ∧ FreshB w v ∧ Same [] w w'
theorem Decode_calls (w : World) (va : Value) (ws : List Tk) (hw : Sub w 4 va ws.length (tkCells ws)) (hn : ws.length ≤ 16384) (hs : ∀ t ∈ ws, TkP t) (ha : ∀ t ∈ ws, AscP t) : Calls Tryz.prog 142 #[va] w (DecR ws w) := by
 obtain ⟨g, off, cw, rfl, -, -, -⟩ := hw.ex
 have Hw := Kd hw
 have Hs := Kd hs
 have Ha := Kd ha
 clear hw hs ha
 go_enter Tryz.func142, Tryz.ntmps142
 go_wp2
 have h0 : DecI w w.heap.size ws (.int .i64 0) (w.alloc (.cells #[.slice none 0 0, .int .i64 0, .bool false] 251)) := ⟨0, .slice none 0 0, Nat.zero_le _, rfl, ⟨blk_new _ _, World.ownsRow_nil _ _ _ _⟩, by simp [FreshB, Value.ownBlock], Same.alloc _ _ _, by simp [LRd.words, LRd.zero], by simp [LRd.words, LRd.zero]⟩
 have H0 := Kd h0
 clear h0
 go_loopw [15] (fun u wr => DecI w w.heap.size ws u wr) (fun u _ => ws.length - (intOf u).toNat)
 case atStart => exact H0.out
 case round =>
  obtain ⟨k, v, hk, rfl, hr, hf, hsm, hln, hnn⟩ := hrel
  have hrl := blk_lt hr.blk
  by_cases hlt : k < ws.length
  ·obtain ⟨t0, t1, t2, t3, hgl⟩ := tk_sub (Hw.out.same hsm) hlt
   obtain ⟨Wo, rfl⟩ : ∃ Wo, Wo = wr := ⟨_, rfl⟩
   obtain ⟨R, hR⟩ : ∃ R, LRd.zero.words (ws.take k) = R := ⟨_, rfl⟩
   rw [hR] at hr hln hnn
   have HR := Kd hR
   obtain ⟨t, ht⟩ : ∃ t, ws[k] = t := ⟨_, rfl⟩
   rw [ht] at t0 t1 t2 t3
   have hts : t.text.size ≤ 65536 := Hs.out t (by rw [← ht]; exact List.getElem_mem _)
   have hta : AscP t := Ha.out t (by rw [← ht]; exact List.getElem_mem _)
   have hj : DecJ w w.heap.size (Wo.heap.size + 1) Wo.heap.size k R t ((Wo.alloc (.cells #[.string t.text, .int .i64 t.at_.off, .int .i64 t.at_.line, .int .i64 t.at_.col] 54)).iter t.text 0) := by
    have hs1 : Same [] Wo ((Wo.alloc (.cells #[.string t.text, .int .i64 t.at_.off, .int .i64 t.at_.line, .int .i64 t.at_.col] 54)).iter t.text 0) := (Same.alloc _ _ _).trans (Same.alloc [] (Wo.alloc (.cells #[.string t.text, .int .i64 t.at_.off, .int .i64 t.at_.line, .int .i64 t.at_.col] 54)) (.stringIter t.text 0))
    have hi := World.iter_heap (Wo.alloc (.cells #[.string t.text, .int .i64 t.at_.off, .int .i64 t.at_.line, .int .i64 t.at_.col] 54)) t.text 0
    rw [size_alloc'] at hi
    exact ⟨0, v, Nat.zero_le _, hi, hr.same hs1, hf, hsm.trans hs1, by simpa [LRd.take] using hln, by simpa [LRd.take] using hnn, blk_old (blk_new Wo _) (.stringIter t.text 0)⟩
   have HJ := Kd hj
   have Hts := Kd hts
   have Hta := Kd hta
   have Ht := Kd ht
   clear hj hr hf hsm hln hnn hR ht hts hta H0
   go_wp2
   go_loopw [] (fun wr => DecJ w w.heap.size (Wo.heap.size + 1) Wo.heap.size k R t wr) (fun wr => t.text.size - wr.iterPos (Wo.heap.size + 1))
   case atStart => exact HJ.out
   case round =>
    obtain ⟨p, v, hp, hit, hr, hf, hsm, hln, hnn, htok⟩ := hrel
    have hpos := iterPos_of hit
    have hpt := Hts.out
    by_cases hpl : p < t.text.size
    ·obtain ⟨c, hc⟩ : ∃ c, (t.text[p]'hpl).toNat = c := ⟨_, rfl⟩
     have hc128 : c < 128 := by rw [← hc]; exact Hta.out p hpl
     have hnx : ∀ ty, (Instr.next (.pointer (some ⟨Wo.heap.size + 1, 0, none⟩)) true ty).run Tryz.prog wr = _ := fun ty => Lib.run_next_ascii_at wr (Wo.heap.size + 1) t.text p ty hit hpl (Hta.out p hpl)
     rw [hc] at hnx
     have hs1 := Same.iterAt wr (Wo.heap.size + 1) t.text (p + 1)
     obtain ⟨W1, hW1⟩ : ∃ W1, W1 = wr.iterAt (Wo.heap.size + 1) t.text (p + 1) := ⟨_, rfl⟩
     have hit1 : W1.heap[Wo.heap.size + 1]? = some (.stringIter t.text (p + 1)) := by rw [hW1]; exact Lib.iterAt_heap wr _ t.text p (p + 1) hit
     rw [← hW1] at hnx hs1
     have hri : w.heap.size ∉ [Wo.heap.size + 1] := by simp; omega
     have hvi : ∀ b, v.ownBlock = some b → b ∉ [Wo.heap.size + 1] := fun b hb hm => hr.row.ne_iter hit (List.mem_singleton.1 hm ▸ hb)
     have hr1 : LrAt W1 w.heap.size v (R.take t p) := ⟨hs1.get hr.blk hri, hr.row.same hs1 hvi⟩
     have htok1 := hs1.get htok (by simp)
     obtain ⟨b0, b1, b2, b3, bf⟩ := blk4 htok1
     have bl := blk_lt htok1
     have hlc := fun (W : World) (hW : Same [] W1 W) => letter_calls W w.heap.size v (R.take t p) (hr1.same hW) (by omega) hnn c (by omega) t
     have hnit : Wo.heap.size + 1 ∉ w.heap.size :: v.ownBlock.toList := fun hm => by
      rcases List.mem_cons.1 hm with hm | hm
      ·omega
      ·exact hr1.row.ne_iter hit1 (Option.mem_toList.1 hm)
     have hntk : Wo.heap.size ∉ w.heap.size :: v.ownBlock.toList := fun hm => by
      rcases List.mem_cons.1 hm with hm | hm
      ·omega
      ·exact hr1.row.ne htok1 (by decide) (Option.mem_toList.1 hm)
     have hsm1 : Same [] w W1 := hsm.then hs1 fun x hx => .inr (by have := hsm.size; simp at hx; omega)
     have Hit1 := Kd hit1
     have Htok1 := Kd htok1
     have Hsm1 := Kd hsm1
     have Hf := Kd hf
     have Hln := Kd hln
     have Hnit := Kd hnit
     have Hntk := Kd hntk
     have hll := letter_len (R.take t p) c t
     have Hst : Hid (R.take t (p + 1) = (R.take t p).letter c t) := Kd (by rw [LRd.take_succ R t p hpl, hc])
     have Hll := Kd hll
     unfold tkV at hlc
     clear hW1 hit hr hf hsm hln hnn htok hit1 hs1 hri hvi hr1 htok1 hnit hntk hsm1 hll hc HJ
     go_wp2_with (go_at_call 166; go_must (refine (hlc _ (Same.refl _ _)).mono ?_; rintro e2 W2 ⟨rfl, v2, hr2, hs2, ho2⟩; have hit2 := hs2.get Hit1.out Hnit.out; have hpos2 := iterPos_of hit2; have Hr2 := Kd hr2; have Hs2 := Kd hs2; have Ho2 := Kd ho2; have Hit2 := Kd hit2; clear hr2 hs2 ho2 hit2))
     go_roundw
     case rel =>
      refine ⟨p + 1, v2, hpl, Hit2.out, by rw [Hst.out]; exact Hr2.out, Hf.out.next Hsm1.out.size Ho2.out, Hsm1.out.then Hs2.out fun x hx => ?_, by rw [Hst.out]; have := Hll.out; have := Hln.out; omega, by rw [Hst.out]; exact letter_n _ _ _, Hs2.out.get Htok1.out Hntk.out⟩
      rcases List.mem_cons.1 hx with rfl | hx
      ·exact .inr (Nat.le_refl _)
      ·exact .inr (Hf.out x (Option.mem_toList.1 hx))
     case measure => rw [hpos2, hpos]; omega
    ·have hps : p = t.text.size := by omega
     have hnx : ∀ ty, (Instr.next (.pointer (some ⟨Wo.heap.size + 1, 0, none⟩)) true ty).run Tryz.prog wr = _ := fun ty => Lib.run_next_end_at wr (Wo.heap.size + 1) t.text p ty hit hpl
     have hw : LRd.zero.words (ws.take (k + 1)) = R.take t p := by rw [LRd.words_take _ _ _ hlt, HR.out, Ht.out, hps, LRd.take_all]
     have Hw2 := Kd hw
     have Hr := Kd hr
     have Hf := Kd hf
     have Hsm := Kd hsm
     have Hln := Kd hln
     have Hnn := Kd hnn
     clear hit hr hf hsm hln hnn htok hw HJ
     go_wp2
     go_roundw
     case rel => exact ⟨k + 1, v, hlt, by go_num, by rw [Hw2.out]; exact Hr.out, Hf.out, Hsm.out, by rw [Hw2.out]; have := Hln.out; omega, by rw [Hw2.out]; exact Hnn.out⟩
     case measure => simp [intOf]; omega
  ·have hkk : k = ws.length := by omega
   subst hkk
   rw [List.take_length] at hr hln hnn
   obtain ⟨Av, cv, rfl⟩ := hr.row.shape
   have c0 := blk_c (i := 0) (v := .slice Av (LRd.zero.words ws).out.length cv) hr.blk
   have c2 := blk_c (i := 2) (v := .bool (LRd.zero.words ws).within) hr.blk
   have Hr := Kd hr
   have Hf := Kd hf
   have Hsm := Kd hsm
   clear hr hf hsm H0
   go_wp2
   go_quiet (fail)
   go_wp2
   go_ret2
   exact ⟨.slice Av _ cv, rfl, Hr.out.row.same (Same.drewN [] _ _) (by simp), Hf.out, Hsm.out.trans (Same.drewN _ _ _)⟩
def closeAt : List Tk → Option Nat
 | [] => none
 | t :: r => if (t.text.toList == [41]) = true then some 0 else (closeAt r).map (· + 1)
def idxV (o : Option Nat) : Int := match o with | some i => i | none => -1
theorem closeAt_drop (ws : List Tk) (k : Nat) (hk : k < ws.length) : closeAt (ws.drop k) = if (ws[k].text.toList == [41]) = true then some 0 else (closeAt (ws.drop (k + 1))).map (· + 1) := by
 rw [List.drop_eq_getElem_cons hk, closeAt]
theorem closeAt_lt : ∀ {ws : List Tk} {i : Nat}, closeAt ws = some i → i < ws.length
 | [], i, h => by simp [closeAt] at h
 | t :: r, i, h => by
  unfold closeAt at h
  split at h
  ·cases h; simp
  ·cases hc : closeAt r with
   | none => rw [hc] at h; cases h
   | some j =>
    rw [hc] at h
    cases h
    have := closeAt_lt hc
    simp; omega
theorem close_calls (w : World) (t : Tk) : Calls Tryz.prog 141 #[tkV t] w fun e w' => e = .returned (.bool (t.text.toList == [41])) ∧ Same [] w w' := by
 unfold tkV
 go_enter Tryz.func141, Tryz.ntmps141
 go_wp2
 go_ret
 exact ⟨rfl, Same.alloc _ _ _⟩
def ClsI (w : World) (ws : List Tk) (u : Value) (W : World) : Prop := ∃ k : Nat, k ≤ ws.length ∧ u = .int .i64 k ∧ Same [] w W ∧ closeAt ws = (closeAt (ws.drop k)).map (· + k)
theorem IndexFunc_calls (w : World) (va : Value) (ws : List Tk) (hw : Sub w 4 va ws.length (tkCells ws)) (hn : ws.length ≤ 1000000) : Calls Tryz.prog 140 #[va, .func (.func 141) #[] #[]] w fun e w' => e = .returned (.int .i64 (idxV (closeAt ws))) ∧ Same [] w w' := by
 obtain ⟨g, off, cw, rfl, -, -, -⟩ := hw.ex
 have Hw := Kd hw
 clear hw
 go_enter Tryz.func140, Tryz.ntmps140
 go_wp2
 have h0 : ClsI w ws (.int .i64 0) w := ⟨0, Nat.zero_le _, rfl, Same.refl _ _, by simp⟩
 have H0 := Kd h0
 clear h0
 go_loopw [8] (fun u wr => ClsI w ws u wr) (fun u _ => ws.length - (intOf u).toNat)
 case atStart => exact H0.out
 case round =>
  obtain ⟨k, hk, rfl, hsm, heq⟩ := hrel
  by_cases hlt : k < ws.length
  ·obtain ⟨t0, t1, t2, t3, hgl⟩ := tk_sub (Hw.out.same hsm) hlt
   have hstep := closeAt_drop ws k hlt
   have hcl := fun W => close_calls W ws[k]
   unfold tkV at hcl
   cases hb : (ws[k].text.toList == [41]) with
   | true =>
    rw [hb] at hcl
    rw [hb, if_pos rfl] at hstep
    rw [hstep] at heq
    have Heq := Kd heq
    have Hsm := Kd hsm
    clear hstep heq hsm hb H0
    go_wp2_with (go_at_call 141; go_must (refine (hcl _).mono ?_; rintro e1 W1 ⟨rfl, hs1⟩))
    go_ret
    rw [Heq.out]
    exact ⟨by simp [idxV], Hsm.out.trans hs1⟩
   | false =>
    rw [hb] at hcl
    rw [hb, if_neg (by decide)] at hstep
    rw [hstep, Option.map_map] at heq
    have Heq := Kd heq
    have Hsm := Kd hsm
    clear hstep heq hsm hb H0
    go_wp2_with (go_at_call 141; go_must (refine (hcl _).mono ?_; rintro e1 W1 ⟨rfl, hs1⟩; have Hs1 := Kd hs1; clear hs1))
    go_roundw
    case rel =>
     refine ⟨k + 1, hlt, by go_num, Hsm.out.trans Hs1.out, ?_⟩
     rw [Heq.out]
     congr 1
     funext x
     simp
     omega
    case measure => simp [intOf]; omega
  ·have hkk : k = ws.length := by omega
   subst hkk
   rw [List.drop_length] at heq
   have Heq := Kd heq
   have Hsm := Kd hsm
   clear heq hsm H0
   go_wp2
   go_ret
   rw [Heq.out]
   exact ⟨rfl, Hsm.out⟩
structure Pf where
 form : Nat
 labels : List Tk
 codes : List (Int × Tk)
 broken : Bool
 cut : Bool
 end_ : Tk
def parseOf (ws : List Tk) (e : Tk) : Pf := match ws with
 | [] => ⟨1, [], [], false, false, e⟩
 | x :: r => if (x.text.toList == [40]) = false then ⟨1, x :: r, [], false, false, e⟩ else match closeAt r with
  | none => ⟨2, r, [], true, false, e⟩
  | some i => ⟨2, r.take i, (LRd.zero.words (r.drop (i + 1))).out, false, (LRd.zero.words (r.drop (i + 1))).within, e⟩
def pfV (p : Pf) (lv cv : Value) : Value := .agg #[.int .i64 p.form, lv, cv, .bool p.broken, .bool p.cut, .string p.end_.text, .int .i64 p.end_.at_.off, .int .i64 p.end_.at_.line, .int .i64 p.end_.at_.col]
def ParseR (p : Pf) (w : World) (e : Ending) (w' : World) : Prop := ∃ lv cv, e = .returned (pfV p lv cv) ∧ Row w' 54 4 lv p.labels.length (tkCells p.labels) ∧ FreshB w lv ∧ Row w' 278 5 cv p.codes.length (codeCells p.codes) ∧ FreshB w cv ∧ Same [] w w'
end Go.Proofs.YtdhkmfpfbjcdiaaGreatDoor
