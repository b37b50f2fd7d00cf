/- lemmalaw texts, part 12. -/
import Derived.Test.YtdhkmfpfbjcdiaaGreatDoorYaj
import Derived.Test.YtdhkmfpfbjcdiaaGreatDoorYak
import Derived.WalkSpells
import Derived.Deep.DeepFit
set_option maxRecDepth 100000
set_option linter.unusedVariables false
set_option linter.unusedSimpArgs false
set_option maxHeartbeats 32000000
namespace Go.Proofs.YtdhkmfpfbjcdiaaGreatDoor
open Go.RowKit
def CloneR (e k n : Nat) (xs : List Value) (w : World) (r : Ending) (w' : World) : Prop := ∃ v, r = .returned v ∧ Row w' e k v n xs ∧ Same [] w w' ∧ (∀ b, v.ownBlock = some b → w.heap.size ≤ b)
theorem row_empty (w : World) (e k : Nat) : Row (w.alloc (.cells #[] e)) e k (.slice (some ⟨w.heap.size, 0, none⟩) 0 0) 0 [] :=
 ⟨by simp, .inr ⟨w.heap.size, 0, #[], rfl, Nat.zero_le _, blk_new _ _, Nat.le_refl _, by simp, by simp, by simp⟩⟩
section
variable {P : Program} {ops : Array Oper} {rest : List Oper} {o : Oper} {a : Act} {Q : Exit → Act → World → Prop}
theorem wp_appendRow {W : World} (hgd : o.guard = none) (s x : Operand) (t : TypeId) (ho : o.op = .call { callee := .builtin .append, args := #[s, x], argTypes := #[t, t] })
  (e k bytes : Nat) (z : Value) (ht : P.underlying t = some (.slice e)) (hinfo : (P.info? e).map (fun i => (i.zero, i.size, i.bytes)) = some (some z, k, bytes)) (hz : z.cells.size = k) (hk : 0 < k)
  (v : Value) (n : Nat) (xs : List Value) (hs : a.eval s = v) (hown : Row W e k v n xs) (g m c : Nat) (ys : List Value) (hx : a.eval x = .slice (some ⟨g, 0, none⟩) m c) (hsrc : Row W e k (.slice (some ⟨g, 0, none⟩) m c) m ys) (h1 : ∀ u ∈ ys, u.oneCell' = true)
  (hn : (n + m) * bytes ≤ 140737488355328) (hb : 0 < bytes)
  (h : ∀ v' w', Row w' e k v' (n + m) (xs ++ ys) → Same v.ownBlock.toList W w' → (v'.ownBlock = v.ownBlock ∨ ∃ b, v'.ownBlock = some b ∧ W.heap.size ≤ b) → wpList P ops Q rest (a.put o.dst v') w') :
  wpList P ops Q (o :: rest) a W := by
 obtain ⟨i, hi, hz0, hz1, hz2⟩ := info_split hinfo
 have hlen : n + m ≤ 140737488355328 := Nat.le_trans (Nat.le_mul_of_pos_right _ hb) hn
 refine wpList_append_own_at _ hgd s x t ho 0 e i z k bytes ht hi hz0 hz1 hz2 hz hk v n xs hs hown ⟨g, 0, none⟩ m c ys hx hsrc.1 (fun j u hj => ?_) h1 (by simp only [maxLen]; omega) hn (Nat.zero_le _) ?_
 ·have hjl : j < m * k := by rw [← hsrc.1]; exact (List.getElem?_eq_some_iff.1 hj).1
  obtain ⟨g', c', hv, h2, _⟩ := hsrc.cell (j := j) hjl
  cases hv
  have e1 : (⟨g, 0, none⟩ : Addr).add j = ⟨g, j, none⟩ := by unfold Addr.add; split <;> simp_all
  rw [e1, h2]
  simp [List.getD_eq_getElem?_getD, hj]
 ·intro v' w' hown' hg _ hat
  refine h v' w' hown' (Same.of_grown hg) ?_
  rcases hat with hat | hat
  ·exact .inl hat
  ·exact .inr ⟨_, hat, Nat.le_refl _⟩
end
theorem Tryz.infoInt' : (Tryz.prog.info? 3).map (fun i => (i.zero, i.size, i.bytes)) = some (some (.int .i64 0), 1, 8) := by kernel_rfl
theorem Tryz.infoPair : (Tryz.prog.info? 113).map (fun i => (i.zero, i.size, i.bytes)) = some (some (.agg #[.int .i64 0, .int .i64 0]), 2, 16) := by kernel_rfl
theorem Tryz.infoToken' : (Tryz.prog.info? 54).map (fun i => (i.zero, i.size, i.bytes)) = some (some (.agg #[.string ByteArray.empty, .int .i64 0, .int .i64 0, .int .i64 0]), 4, 40) := by kernel_rfl
theorem Tryz.infoHyp : (Tryz.prog.info? 150).map (fun i => (i.zero, i.size, i.bytes)) = some (some (.agg #[.string ByteArray.empty, .bool false, .int .i64 0, .slice none 0 0]), 4, 56) := by kernel_rfl
theorem CloneInt_calls (v : Value) (n : Nat) (xs : List Value) (w : World) (h : Row w 3 1 v n xs) (h1 : ∀ u ∈ xs, u.oneCell' = true) (hn : n ≤ 1000000) : Calls Tryz.prog 44 #[v] w (CloneR 3 1 n xs w) := by
 rcases h.2 with ⟨rfl, rfl⟩ | ⟨g, cap, cur, rfl, h2, h3, h4, h5, h6, h7⟩
 ·have hxs : xs = [] := by have := h.1; simpa using this
  subst hxs
  have hnil := fun w => Lib.run_eql_slice_nil (P := Tryz.prog) w _ _ none 0 0 0 0 Tryz.underlying31
  clear h h1
  go_enter Tryz.func44, Tryz.ntmps44
  go_wp2
  go_ret
  exact ⟨_, rfl, World.ownsRow_nil _ _ _ _, Same.refl _ _, by simp [Value.ownBlock]⟩
 ·have H := Kd h
  have H1 := Kd h1
  have hnil := fun w => Lib.run_eql_slice_nil (P := Tryz.prog) w _ _ (some ⟨g, 0, none⟩) n cap 0 0 Tryz.underlying31
  clear h h1 h2 h3 h4 h5 h6 h7
  go_enter Tryz.func44, Tryz.ntmps44
  go_wp2_with (at_builtin; go_must (refine wp_appendRow rfl _ _ 31 rfl 3 1 8 _ Tryz.underlying31 Tryz.infoInt' rfl (by decide) (.slice (some ⟨w.heap.size, 0, none⟩) 0 0) 0 [] rfl (row_empty w _ _) g n cap xs rfl (H.out.same (Same.alloc [] _ _) (by simp)) H1.out (by omega) (by decide) ?_; intro v1 w1 hr1 hs1 ho1; obtain ⟨A1, c1, rfl⟩ := hr1.shape))
  rw [List.nil_append] at hr1
  simp only [Nat.zero_add] at hr1 ho1 ⊢
  go_ret
  refine ⟨.slice A1 n c1, rfl, hr1, (Same.alloc [] w _).then hs1 (fun x hx => .inr (by simp [Value.ownBlock] at hx; omega)), fun b hb => ?_⟩
  rcases ho1 with ho | ⟨c, hc, hle⟩
  ·rw [ho] at hb; simp [Value.ownBlock] at hb; omega
  ·rw [hc] at hb; cases hb; simp at hle; omega
theorem ClonePair_calls (v : Value) (n : Nat) (xs : List Value) (w : World) (h : Row w 113 2 v n xs) (h1 : ∀ u ∈ xs, u.oneCell' = true) (hn : n ≤ 1000000) : Calls Tryz.prog 43 #[v] w (CloneR 113 2 n xs w) := by
 rcases h.2 with ⟨rfl, rfl⟩ | ⟨g, cap, cur, rfl, h2, h3, h4, h5, h6, h7⟩
 ·have hxs : xs = [] := by have := h.1; simpa using this
  subst hxs
  have hnil := fun w => Lib.run_eql_slice_nil (P := Tryz.prog) w _ _ none 0 0 0 0 Tryz.underlying45
  clear h h1
  go_enter Tryz.func43, Tryz.ntmps43
  go_wp2
  go_ret
  exact ⟨_, rfl, World.ownsRow_nil _ _ _ _, Same.refl _ _, by simp [Value.ownBlock]⟩
 ·have H := Kd h
  have H1 := Kd h1
  have hnil := fun w => Lib.run_eql_slice_nil (P := Tryz.prog) w _ _ (some ⟨g, 0, none⟩) n cap 0 0 Tryz.underlying45
  clear h h1 h2 h3 h4 h5 h6 h7
  go_enter Tryz.func43, Tryz.ntmps43
  go_wp2_with (at_builtin; go_must (refine wp_appendRow rfl _ _ 45 rfl 113 2 16 _ Tryz.underlying45 Tryz.infoPair rfl (by decide) (.slice (some ⟨w.heap.size, 0, none⟩) 0 0) 0 [] rfl (row_empty w _ _) g n cap xs rfl (H.out.same (Same.alloc [] _ _) (by simp)) H1.out (by omega) (by decide) ?_; intro v1 w1 hr1 hs1 ho1; obtain ⟨A1, c1, rfl⟩ := hr1.shape))
  rw [List.nil_append] at hr1
  simp only [Nat.zero_add] at hr1 ho1 ⊢
  go_ret
  refine ⟨.slice A1 n c1, rfl, hr1, (Same.alloc [] w _).then hs1 (fun x hx => .inr (by simp [Value.ownBlock] at hx; omega)), fun b hb => ?_⟩
  rcases ho1 with ho | ⟨c, hc, hle⟩
  ·rw [ho] at hb; simp [Value.ownBlock] at hb; omega
  ·rw [hc] at hb; cases hb; simp at hle; omega
theorem CloneToken_calls (v : Value) (n : Nat) (xs : List Value) (w : World) (h : Row w 54 4 v n xs) (h1 : ∀ u ∈ xs, u.oneCell' = true) (hn : n ≤ 1000000) : Calls Tryz.prog 45 #[v] w (CloneR 54 4 n xs w) := by
 rcases h.2 with ⟨rfl, rfl⟩ | ⟨g, cap, cur, rfl, h2, h3, h4, h5, h6, h7⟩
 ·have hxs : xs = [] := by have := h.1; simpa using this
  subst hxs
  have hnil := fun w => Lib.run_eql_slice_nil (P := Tryz.prog) w _ _ none 0 0 0 0 Tryz.underlying50
  clear h h1
  go_enter Tryz.func45, Tryz.ntmps45
  go_wp2
  go_ret
  exact ⟨_, rfl, World.ownsRow_nil _ _ _ _, Same.refl _ _, by simp [Value.ownBlock]⟩
 ·have H := Kd h
  have H1 := Kd h1
  have hnil := fun w => Lib.run_eql_slice_nil (P := Tryz.prog) w _ _ (some ⟨g, 0, none⟩) n cap 0 0 Tryz.underlying50
  clear h h1 h2 h3 h4 h5 h6 h7
  go_enter Tryz.func45, Tryz.ntmps45
  go_wp2_with (at_builtin; go_must (refine wp_appendRow rfl _ _ 50 rfl 54 4 40 _ Tryz.underlying50 Tryz.infoToken' rfl (by decide) (.slice (some ⟨w.heap.size, 0, none⟩) 0 0) 0 [] rfl (row_empty w _ _) g n cap xs rfl (H.out.same (Same.alloc [] _ _) (by simp)) H1.out (by omega) (by decide) ?_; intro v1 w1 hr1 hs1 ho1; obtain ⟨A1, c1, rfl⟩ := hr1.shape))
  rw [List.nil_append] at hr1
  simp only [Nat.zero_add] at hr1 ho1 ⊢
  go_ret
  refine ⟨.slice A1 n c1, rfl, hr1, (Same.alloc [] w _).then hs1 (fun x hx => .inr (by simp [Value.ownBlock] at hx; omega)), fun b hb => ?_⟩
  rcases ho1 with ho | ⟨c, hc, hle⟩
  ·rw [ho] at hb; simp [Value.ownBlock] at hb; omega
  ·rw [hc] at hb; cases hb; simp at hle; omega
theorem CloneHyp_calls (v : Value) (n : Nat) (xs : List Value) (w : World) (h : Row w 150 4 v n xs) (h1 : ∀ u ∈ xs, u.oneCell' = true) (hn : n ≤ 1000000) : Calls Tryz.prog 86 #[v] w (CloneR 150 4 n xs w) := by
 rcases h.2 with ⟨rfl, rfl⟩ | ⟨g, cap, cur, rfl, h2, h3, h4, h5, h6, h7⟩
 ·have hxs : xs = [] := by have := h.1; simpa using this
  subst hxs
  have hnil := fun w => Lib.run_eql_slice_nil (P := Tryz.prog) w _ _ none 0 0 0 0 Tryz.underlying44
  clear h h1
  go_enter Tryz.func86, Tryz.ntmps86
  go_wp2
  go_ret
  exact ⟨_, rfl, World.ownsRow_nil _ _ _ _, Same.refl _ _, by simp [Value.ownBlock]⟩
 ·have H := Kd h
  have H1 := Kd h1
  have hnil := fun w => Lib.run_eql_slice_nil (P := Tryz.prog) w _ _ (some ⟨g, 0, none⟩) n cap 0 0 Tryz.underlying44
  clear h h1 h2 h3 h4 h5 h6 h7
  go_enter Tryz.func86, Tryz.ntmps86
  go_wp2_with (at_builtin; go_must (refine wp_appendRow rfl _ _ 44 rfl 150 4 56 _ Tryz.underlying44 Tryz.infoHyp rfl (by decide) (.slice (some ⟨w.heap.size, 0, none⟩) 0 0) 0 [] rfl (row_empty w _ _) g n cap xs rfl (H.out.same (Same.alloc [] _ _) (by simp)) H1.out (by omega) (by decide) ?_; intro v1 w1 hr1 hs1 ho1; obtain ⟨A1, c1, rfl⟩ := hr1.shape))
  rw [List.nil_append] at hr1
  simp only [Nat.zero_add] at hr1 ho1 ⊢
  go_ret
  refine ⟨.slice A1 n c1, rfl, hr1, (Same.alloc [] w _).then hs1 (fun x hx => .inr (by simp [Value.ownBlock] at hx; omega)), fun b hb => ?_⟩
  rcases ho1 with ho | ⟨c, hc, hle⟩
  ·rw [ho] at hb; simp [Value.ownBlock] at hb; omega
  ·rw [hc] at hb; cases hb; simp at hle; omega
attribute [local go_sem] Oper.semAt_some
def prCells (l : List Pr) : List Value := l.flatMap encPr
theorem prCells_snoc (l : List Pr) (p : Pr) : prCells (l ++ [p]) = prCells l ++ encPr p := by simp [prCells]
structure AppAt (lo : Nat) (L pre : List Pr) (v : Value) (w W : World) : Prop where
 base : Same [] w W
 r0 : W.heap[lo]? = some (.cells #[v] 45 (0, 0))
 row : Row W 113 2 v pre.length (prCells pre)
 vlo : ∀ b, v.ownBlock = some b → lo + 4 ≤ b
 nd : pre.Nodup
 sub : ∀ x ∈ pre, x ∈ L
 lt : lo + 1 ≤ W.heap.size
 sz : lo = w.heap.size
theorem AppAt.same {lo : Nat} {L pre : List Pr} {v : Value} {w W W' : World} {S : List Nat} (h : AppAt lo L pre v w W) (hs : Same S W W') (hS : ∀ b ∈ S, lo + 1 ≤ b ∧ b < lo + 4) : AppAt lo L pre v w W' := {
 base := h.base.then hs (fun x hx => .inr (by have := hS x hx; have := h.sz; omega))
 r0 := hs.get h.r0 (fun hm => by have := hS _ hm; omega)
 row := h.row.same hs (fun b hb hm => by have := hS _ hm; have := h.vlo b hb; omega)
 vlo := h.vlo
 nd := h.nd
 sub := h.sub
 lt := Nat.le_trans h.lt hs.size
 sz := h.sz }
theorem AppAt.push {lo : Nat} {L pre : List Pr} {v v1 : Value} {w W W1 : World} (h : AppAt lo L pre v w W) (h4 : lo + 4 ≤ W.heap.size) (x : Pr) (hx : x ∈ L) (hn : x ∉ pre) (hs : Same v.ownBlock.toList W W1) (hr : Row W1 113 2 v1 (pre.length + 1) (prCells pre ++ encPr x))
  (ho : v1.ownBlock = v.ownBlock ∨ ∃ b, v1.ownBlock = some b ∧ W.heap.size ≤ b) :
  AppAt lo L (pre ++ [x]) v1 w (W1.setCell ⟨lo, 0, none⟩ v1) ∧ Stays (lo + 1) 3 W (W1.setCell ⟨lo, 0, none⟩ v1) := by
 have hlt := h.lt
 have hsz := h.sz
 have hv1 : ∀ b, v1.ownBlock = some b → lo + 4 ≤ b := fun b hb => by
  rcases ho with ho | ⟨c, hc, hle⟩
  ·exact h.vlo b (by rw [← ho]; exact hb)
  ·rw [hc] at hb; cases hb; omega
 have hs' : Same (lo :: v.ownBlock.toList) W (W1.setCell ⟨lo, 0, none⟩ v1) := (hs.mono (fun y hy => .inl (List.mem_cons_of_mem _ hy))).set _ _ (by simp)
 have hno : ∀ b, b ∈ lo :: v.ownBlock.toList → b = lo ∨ lo + 4 ≤ b := fun b hb => by
  rcases List.mem_cons.1 hb with rfl | hb
  ·exact .inl rfl
  ·exact .inr (h.vlo b (Option.mem_toList.1 hb))
 refine ⟨⟨h.base.then hs' (fun y hy => .inr (by have := hno y hy; omega)), ?_, ?_, hv1, ?_, ?_, Nat.le_trans hlt hs'.size, hsz⟩, Stays.of_same hs' (fun b hb => by have := hno b hb; omega) (by omega)⟩
 ·have := hs.get h.r0 (fun hm => by have := h.vlo _ (Option.mem_toList.1 hm); omega)
  simp [heap_setCell, this, cellPut]
 ·have := hr.same (Same.setCell W1 ⟨lo, 0, none⟩ v1 (S := [lo]) (by simp)) (fun b hb hm => by have := hv1 b hb; simp at hm; omega)
  rw [prCells_snoc]
  simpa using this
 ·exact List.nodup_append.2 ⟨h.nd, by simp, fun a ha b hb e => by simp at hb; subst hb; subst e; exact hn ha⟩
 ·intro y hy
  rcases List.mem_append.1 hy with hy | hy
  ·exact h.sub y hy
  ·simp at hy; subst hy; exact hx
def CollR (L : List Pr) (w : World) (e : Ending) (w' : World) : Prop := ∃ v xs, e = .returned v ∧ xs.Perm L ∧ Row w' 113 2 v xs.length (prCells xs) ∧ Same [] w w' ∧ (∀ b, v.ownBlock = some b → w.heap.size ≤ b)
theorem AppendSeq_calls (L : List Pr) (hL : L.length ≤ 1000000) (b : Nat) (l : List (Pr × Value)) (hl : l.map (·.1) = L) (hk : (l.map (·.1)).Nodup) (B : Nat) (w : World) (hB : w.cell? ⟨B, 0, none⟩ = some (.map (some b))) (hps : PSet w b l) :
  Calls Tryz.prog 196 #[.slice none 0 0, .func (.func 188) #[] #[.pointer (some ⟨B, 0, none⟩)]] w (CollR L w) := by
 refine (callsIn_wide (n := 0)).1 ?_
 refine callsIn_of_wp_marks Tryz.func196 rfl trivial ?_ rfl
 simp only [Tryz.ntmps196, List.size_toArray, List.length_cons, List.length_nil, Nat.reduceAdd, Nat.reduceSub, Array.replicate_succ, Array.replicate_zero, List.push_toArray, List.append_toArray, List.nil_append, List.cons_append]
 have hBl := World.block_lt_of_cell? w ⟨B, 0, none⟩ hB
 have hbl := hps.lt
 obtain ⟨o, hm⟩ : ∃ o, w.heap[b]? = some o := ⟨_, Array.getElem?_eq_getElem hbl⟩
 gi_wp2
 have hA0 : AppAt w.heap.size L [] (.slice none 0 0) w (w.alloc (.cells #[.slice none 0 0] 45)) :=
  ⟨Same.alloc _ _ _, blk_new _ _, World.ownsRow_nil _ _ _ _, by simp [Value.ownBlock], by simp, by simp, by simp, rfl⟩
 refine wp_tellsP (p := 1) (gf := 188) (lb := #[.pointer (some ⟨B, 0, none⟩)]) (encs := fun p : Pr => #[prV p])
  (Kp := fun W => W.cell? ⟨B, 0, none⟩ = some (.map (some b)) ∧ W.heap[b]? = some o) (Nx := fun pre x => x ∈ l.map (·.1) ∧ x ∉ pre) (Fin := fun xs => xs.Perm (l.map (·.1))) (by simp [Act.eval]) (enters_of Tryz.func188 (by kernel_rfl) rfl) (fun _ => rfl)
  (fun W hW => keys_tells b l hk B W (by have := hW.size; simp at this; omega) o (hW.get (blk_old hm _) (by simp)) ((hps.same (Same.alloc [] _ _) (by simp)).same hW (by simp)))
  (fun pre W => ∃ v, AppAt w.heap.size L pre v w W) (fun _ _ _ => False) ⟨_, hA0⟩ ?kp ?hI ?hIx ?round ?done ?stop
 case kp =>
  rintro pre W ⟨v, hS⟩
  exact ⟨hS.base.cell hB (by simp), hS.base.get hm (by simp)⟩
 case hI =>
  rintro pre S W1 W2 ⟨v, hS⟩ hsm hin
  exact ⟨v, hS.same hsm (fun b hb => by have := hin b hb; simp only [World.size_alloc] at this; omega)⟩
 case hIx => exact fun _ _ _ _ _ h _ _ => h
 case round =>
  rintro lp pre x W ⟨hx1, hx2⟩ ⟨v, hS⟩ hsz
  dsimp only [prV]
  simp only [World.size_alloc] at hsz
  gi_wp2
  refine ⟨fun b h1 h2 => (Same.alloc [] W _).block b (by simp only [World.size_alloc] at h2; omega) (by simp), (Same.alloc [] W _).size, ?_⟩
  intro W2 hsm2
  simp only [World.size_alloc] at hsm2
  have hsm := (Same.alloc [w.heap.size + 1 + 1] W (.cells #[.int .i64 x.1, .int .i64 x.2] 113)).trans hsm2
  have hS2 := hS.same hsm (fun b hb => by simp at hb; omega)
  have hblk := hsm2.get (blk_new W (.cells #[.int .i64 x.1, .int .i64 x.2] 113)) (by simp; omega)
  obtain ⟨Av, cv, rfl⟩ := hS2.row.shape
  have i0 := blk_c (i := 0) (v := .int .i64 x.1) hblk rfl
  have i1 := blk_c (i := 1) (v := .int .i64 x.2) hblk rfl
  have e0 := blk_c (i := 0) (v := .slice Av pre.length cv) hS2.r0 rfl
  have f0 := blk_free hS2.r0
  have HS := Kd hS2
  have Hx1 := Kd hx1
  have Hx2 := Kd hx2
  have hl0 := blk_lt hS2.r0
  have hl1 := blk_lt hblk
  have hpl : pre.length < 1000001 := by
   have := hS2.nd.length_le_of_subset (fun y hy => hS2.sub y hy)
   omega
  have h4 : w.heap.size + 4 ≤ W2.heap.size := by have := hsm.size; omega
  clear hS hS2 hx1 hx2 hblk hsm hsm2 hA0
  gi_wp2_with (gi_at_builtin; go_must (refine wpI_push (fun _ => trivial) rfl _ _ 45 rfl 113 2 16 _ Tryz.underlying45 Tryz.infoPair rfl (by decide) (.slice Av pre.length cv) pre.length _ rfl HS.out.row [.int .i64 x.1, .int .i64 x.2] _ rfl rfl rfl (by simp [Value.oneCell']) (by omega) (by decide) ?_; intro v1 W5 hrow5 hsm5 hor5; obtain ⟨A5, c5, rfl⟩ := hrow5.shape; have g2 := hsm5.get HS.out.r0 (fun hm => by have := HS.out.vlo _ (Option.mem_toList.1 hm); omega); have g2f := blk_free g2; have g2c := blk_c (i := 0) (v := .slice Av pre.length cv) g2 rfl))
  have hpush := HS.out.push h4 x (by rw [← hl]; exact Hx1.out) Hx2.out hsm5 hrow5 hor5
  exact ⟨by simpa using hpush.2, _, hpush.1⟩
 case done =>
  rintro xs W hfin ⟨v, hS⟩ hK
  simp only [World.size_alloc] at hK ⊢
  obtain ⟨Av, cv, rfl⟩ := hS.row.shape
  have e0 := blk_c (i := 0) (v := .slice Av xs.length cv) hS.r0 rfl
  have HS := Kd hS
  have HK := Kd hK
  have Hf := Kd hfin
  clear hS hK hfin hA0
  gi_wp2
  refine ⟨by simp, .inl ⟨_, _, rfl, run_takeDeferred HK.out, ?_⟩⟩
  have hp : Same [w.heap.size + 1] W (W.putObj (w.heap.size + 1) (.deferred none)) := Same.put _ HK.out
  refine ⟨.slice Av xs.length cv, ?_, .slice Av xs.length cv, xs, rfl, by rw [← hl]; exact Hf.out, HS.out.row.same hp (fun b hb hm => by have := HS.out.vlo b hb; simp at hm; omega), Same.then (T := [w.heap.size + 1]) HS.out.base hp (fun x hx => .inr (by simp at hx; omega)), fun b hb => by have := HS.out.vlo b hb; omega⟩
  simp [results, Tryz.f196, go_sem]
 case stop => exact fun _ _ _ h _ => h.elim
end Go.Proofs.YtdhkmfpfbjcdiaaGreatDoor
namespace Go.Proofs.YtdhkmfpfbjcdiaaGreatDoor
open Go.RowKit Go.Shelf Go.Lib Go.Sort
theorem prCells_len (l : List Pr) : (prCells l).length = l.length * 2 := by
 induction l with
 | nil => rfl
 | cons a l ih => simp [prCells, encPr] at ih ⊢; omega
theorem prCells_get : ∀ (l : List Pr) (t : Nat), t < l.length * 2 → (prCells l).toArray[t]! = (encPr l.toArray[t / 2]!)[t % 2]!
 | [], t, h => by simp at h
 | p :: l, t, h => by
  rcases Nat.lt_or_ge t 2 with h2 | h2
  ·have : t = 0 ∨ t = 1 := by omega
   rcases this with rfl | rfl <;> rfl
  ·have ih := prCells_get l (t - 2) (by simp at h; omega)
   have e1 : (prCells (p :: l)).toArray[t]! = (prCells l).toArray[t - 2]! := by
    simp only [Array.getElem!_eq_getD, Array.getD_eq_getD_getElem?, List.getElem?_toArray]
    rw [show prCells (p :: l) = encPr p ++ prCells l by simp [prCells], List.getElem?_append_right (by simpa [encPr] using h2)]
    simp [encPr]
   have e2 : ((p :: l).toArray[t / 2]!) = l.toArray[(t - 2) / 2]! := by
    obtain ⟨u, hu⟩ : ∃ u, t / 2 = u + 1 := ⟨t / 2 - 1, by omega⟩
    rw [hu, show (t - 2) / 2 = u by omega]
    simp
   rw [e1, ih, e2, show (t - 2) % 2 = t % 2 by omega]
theorem flatK_eq (l : List Pr) : Go.Sort.flatK encPr 2 l.toArray = (prCells l).toArray := by
 refine Go.Sort.ext_get! (by simp [prCells_len]) (fun t ht => ?_)
 have ht' : t < l.length * 2 := by simpa using ht
 rw [Go.Sort.get_flatK _ _ _ _ (by simpa using ht'), prCells_get l t ht']
theorem putCells_take (cur : Array Value) (ts : List Value) (h : ts.length ≤ cur.size) : (Go.Sort.putCells id 0 ts.toArray cur).toList.take ts.length = ts := by
 apply List.ext_getElem?
 intro j
 by_cases hj : j < ts.length
 ·rw [List.getElem?_take_of_lt hj, Array.getElem?_toList]
  simp [Go.Sort.putCells, hj, show j < cur.size by omega]
 ·rw [List.getElem?_take_eq_none (by omega), List.getElem?_eq_none (by omega)]
theorem Row.holdsPr {w : World} {g c : Nat} {l : List Pr} (h : Row w 113 2 (.slice (some ⟨g, 0, none⟩) l.length c) l.length (prCells l)) : Go.Sort.HoldsK encPr 2 w g 0 l.toArray := by
 unfold Go.Sort.HoldsK
 rw [flatK_eq]
 intro j hj
 have hj' : j < l.length * 2 := by simpa [prCells_len] using hj
 obtain ⟨g', c', hv, h1, h2⟩ := h.cell (j := j) hj'
 cases hv
 rw [Nat.zero_add]
 refine ⟨?_, h2⟩
 rw [h1]
 simp [List.getD_eq_getElem?_getD, Array.getElem!_eq_getD, Array.getD_eq_getD_getElem?]
 have : j < (prCells l).length := by rw [prCells_len]; exact hj'
 simp [this]
theorem Row.sortedPr {w : World} {g c n : Nat} {l s : List Pr} {os : Array Obj} (h : Row w 113 2 (.slice (some ⟨g, 0, none⟩) l.length c) l.length (prCells l)) (hl : s.length = l.length) :
  Row (sortWorldK encPr 2 w g 0 n s.toArray os) 113 2 (.slice (some ⟨g, 0, none⟩) l.length c) l.length (prCells s) ∧ Same [g] w (sortWorldK encPr 2 w g 0 n s.toArray os) := by
 rcases h.2 with ⟨h1, _⟩ | ⟨g', cap, cur, h1, h2, h3, h4, h5, h6, h7⟩
 ·simp at h1
 ·cases h1
  have hg : g < w.heap.size := blk_lt h3
  have hheap : (sortWorldK encPr 2 w g 0 n s.toArray os).heap[g]? = some (.cells (Go.Sort.putCells id 0 (prCells s).toArray cur) 113 (0, 0)) := by
   unfold sortWorldK Go.Sort.putRowK
   rw [flatK_eq, Go.Sort.heap_grow_old _ _ (by simpa [Go.Sort.putRow, Go.Sort.mapBlock, Go.Sort.ahead] using hg)]
   simp [Go.Sort.putRow, Go.Sort.mapBlock, Go.Sort.ahead, Array.getElem?_modify, h3, Go.Sort.onCells]
  refine ⟨⟨by rw [prCells_len, hl], .inr ⟨g, c, _, rfl, h2, hheap, h4, h5, by simp [Go.Sort.putCells, h6], ?_⟩⟩, rfl, rfl, rfl, by simp [sortWorldK, Go.Sort.putRowK, Go.Sort.putRow, Go.Sort.mapBlock, Go.Sort.ahead, Go.Sort.grow], ?_⟩
  ·have := putCells_take cur (prCells s) (by rw [prCells_len, hl, h6]; exact Nat.mul_le_mul_right _ h4)
   rw [prCells_len, hl] at this
   exact this
  ·intro b hb hn
   unfold sortWorldK Go.Sort.putRowK
   rw [Go.Sort.heap_grow_old _ _ (by simpa [Go.Sort.putRow, Go.Sort.mapBlock, Go.Sort.ahead] using hb)]
   have : g ≠ b := fun e => hn (by simp [e])
   simp [Go.Sort.putRow, Go.Sort.mapBlock, Go.Sort.ahead, Array.getElem?_modify, this]
def ltP (p q : Pr) : Bool := decide (p.1 < q.1) || (decide (p.1 = q.1) && decide (p.2 < q.2))
theorem ltOf_cmp (p q : Pr) : ltOf cmpPr p q = ltP p q := by
 unfold ltOf cmpPr ltP Lib.compareInt
 by_cases h : p.1 = q.1
 ·simp only [h, if_true]
  by_cases h1 : p.2 < q.2
  ·simp [h1]
  ·by_cases h2 : q.2 < p.2 <;> simp [h1, h2]
 ·simp only [h, if_false]
  by_cases h1 : p.1 < q.1
  ·simp [h1]
  ·by_cases h2 : q.1 < p.1 <;> simp [h1, h2]
theorem ltP_iff (p q : Pr) : ltP p q = true ↔ p.1 < q.1 ∨ (p.1 = q.1 ∧ p.2 < q.2) := by simp [ltP]
theorem swoPr : Go.Sort.SWO (ltOf cmpPr) := {
 irrefl x := by rw [ltOf_cmp]; simp [ltP]
 trans x y z h1 h2 := by rw [ltOf_cmp, ltP_iff] at *; omega
 ntrans x y z h1 h2 := by
  rw [ltOf_cmp] at *
  rw [Bool.eq_false_iff] at *
  rw [ne_eq, ltP_iff] at *
  omega }
theorem ltP_total (x y : Pr) (h1 : ltOf cmpPr x y = false) (h2 : ltOf cmpPr y x = false) : x = y := by
 rw [ltOf_cmp, Bool.eq_false_iff, ne_eq, ltP_iff] at h1 h2
 exact Prod.ext (by omega) (by omega)
def insP (p : Pr) : List Pr → List Pr
 | [] => [p]
 | q :: r => if p = q then q :: r else if ltP p q = true then p :: q :: r else q :: insP p r
def putP (s : List Pr) (p : Pr) : List Pr := if p.1 = p.2 then s else insP (turnP p) s
theorem mem_insP {p x : Pr} : ∀ {s : List Pr}, x ∈ insP p s ↔ x = p ∨ x ∈ s
 | [] => by simp [insP]
 | q :: r => by
  unfold insP
  split
  ·rename_i h; subst h; simp
  ·split
   ·simp
   ·simp [mem_insP (s := r)]; constructor
    ·rintro (h | h | h) <;> simp [h]
    ·rintro (h | h | h) <;> simp [h]
def SortedP (s : List Pr) : Prop := s.Pairwise (fun p q => ltP p q = true)
theorem sorted_insP {p : Pr} : ∀ {s : List Pr}, SortedP s → SortedP (insP p s)
 | [], _ => by simp [insP, SortedP]
 | q :: r, h => by
  unfold SortedP at h ⊢
  rw [List.pairwise_cons] at h
  unfold insP
  split
  ·rw [List.pairwise_cons]; exact h
  ·rename_i hne
   split
   ·rename_i hlt
    rw [List.pairwise_cons, List.pairwise_cons]
    refine ⟨fun x hx => ?_, h⟩
    rcases List.mem_cons.1 hx with rfl | hx
    ·exact hlt
    ·have := h.1 x hx
     rw [ltP_iff] at *
     omega
   ·rename_i hnl
    rw [List.pairwise_cons]
    refine ⟨fun x hx => ?_, sorted_insP (s := r) h.2⟩
    rcases mem_insP.1 hx with rfl | hx
    ·rw [ltP_iff] at hnl ⊢
     have : x.1 ≠ q.1 ∨ x.2 ≠ q.2 := by
      by_cases h1 : x.1 = q.1
      ·by_cases h2 : x.2 = q.2
       ·exact absurd (Prod.ext h1 h2) hne
       ·exact .inr h2
      ·exact .inl h1
     omega
    ·exact h.1 x hx
theorem sorted_putP {s : List Pr} {p : Pr} (h : SortedP s) : SortedP (putP s p) := by
 unfold putP
 split
 ·exact h
 ·exact sorted_insP h
theorem nodup_of_sorted {s : List Pr} (h : SortedP s) : s.Nodup := h.imp (fun {a b} hab e => by subst e; rw [ltP_iff] at hab; omega)
structure PInv (l : List (Pr × Value)) (s : List Pr) : Prop where
 nd : (l.map (·.1)).Nodup
 mem : ∀ x, x ∈ l.map (·.1) ↔ x ∈ s
 sorted : SortedP s
theorem PInv.nil : PInv [] [] := ⟨by simp, by simp, by simp [SortedP]⟩
theorem aget_none_iff {α β : Type} [DecidableEq α] (k : α) : ∀ (l : List (α × β)), aget k l = none ↔ k ∉ l.map (·.1)
 | [] => by simp [aget]
 | (k', v) :: r => by
  unfold aget
  by_cases h : k = k'
  ·simp [h]
  ·simp [h, aget_none_iff k r]
theorem keys_aput {α β : Type} [DecidableEq α] (k : α) (v : β) (l : List (α × β)) : (aput k v l).map (·.1) = if k ∈ l.map (·.1) then l.map (·.1) else l.map (·.1) ++ [k] := by
 induction l with
 | nil => simp [aput]
 | cons p r ih =>
  obtain ⟨k', u⟩ := p
  unfold aput
  by_cases h : k = k'
  ·simp [h]
  ·by_cases hm : k ∈ r.map (·.1)
   ·rw [if_pos hm] at ih
    rw [if_neg h, List.map_cons, List.map_cons, ih, if_pos (List.mem_cons_of_mem _ hm)]
   ·rw [if_neg hm] at ih
    rw [if_neg h, List.map_cons, List.map_cons, ih, if_neg (fun hc => (List.mem_cons.1 hc).elim h hm)]
    rfl
theorem PInv.put {l : List (Pr × Value)} {s : List Pr} (h : PInv l s) (p : Pr) : PInv (putK l p) (putP s p) := by
 unfold putK putP
 split
 ·exact h
 ·refine ⟨?_, fun x => ?_, sorted_insP h.sorted⟩
  ·rw [keys_aput]
   split
   ·exact h.nd
   ·rename_i hn
    exact List.nodup_append.2 ⟨h.nd, by simp, fun a ha b hb e => by simp at hb; subst hb; subst e; exact hn ha⟩
  ·rw [keys_aput, mem_insP, ← h.mem x]
   split
   ·rename_i hm
    exact ⟨fun h => .inr h, fun h' => by rcases h' with rfl | h'; exact hm; exact h'⟩
   ·simp only [List.mem_append, List.mem_singleton]
    exact ⟨fun h => h.symm, fun h => h.symm⟩
theorem PInv.len {l : List (Pr × Value)} {s : List Pr} (h : PInv l s) : s.length = l.length := by
 have := ((List.perm_ext_iff_of_nodup h.nd (nodup_of_sorted h.sorted)).2 h.mem).length_eq
 simpa using this.symm
theorem PInv.sort {l : List (Pr × Value)} {s xs : List Pr} (h : PInv l s) (hp : xs.Perm (l.map (·.1))) : xs.mergeSort (fun x y => !(ltOf cmpPr) y x) = s := by
 have h1 : (xs.mergeSort (fun x y => !(ltOf cmpPr) y x)).Perm s := (List.mergeSort_perm _ _).trans (hp.trans ((List.perm_ext_iff_of_nodup h.nd (nodup_of_sorted h.sorted)).2 h.mem))
 have h2 := List.pairwise_mergeSort (le := fun x y => !(ltOf cmpPr) y x) (fun a b c hab hbc => by
  simp only [ltOf_cmp, Bool.not_eq_true', Bool.eq_false_iff, ne_eq, ltP_iff] at *
  omega) (fun a b => by
  simp only [ltOf_cmp, Bool.or_eq_true, Bool.not_eq_true', Bool.eq_false_iff, ne_eq, ltP_iff]
  omega) xs
 refine List.Perm.eq_of_pairwise (le := fun x y => (!(ltOf cmpPr) y x) = true) (fun a b _ _ hab hba => ?_) h2 (h.sorted.imp (fun {a b} hab => ?_)) h1
 ·simp only [ltOf_cmp, Bool.not_eq_true', Bool.eq_false_iff, ne_eq, ltP_iff] at hab hba
  exact Prod.ext (by omega) (by omega)
 ·simp only [ltOf_cmp, Bool.not_eq_true', Bool.eq_false_iff, ne_eq, ltP_iff] at hab ⊢
  omega
theorem Collect_calls (L : List Pr) (hL : L.length ≤ 1000000) (b : Nat) (l : List (Pr × Value)) (hl : l.map (·.1) = L) (hk : (l.map (·.1)).Nodup) (B : Nat) (w : World) (hB : w.cell? ⟨B, 0, none⟩ = some (.map (some b))) (hps : PSet w b l) :
  Calls Tryz.prog 186 #[.func (.func 188) #[] #[.pointer (some ⟨B, 0, none⟩)]] w (CollR L w) := by
 have hc := AppendSeq_calls L hL b l hl hk B w hB hps
 clear hps hB
 go_enter Tryz.func186, Tryz.ntmps186
 go_wp2_with (go_at_call 196; refine hc.mono ?_; rintro e w' ⟨v, xs, rfl, hr⟩)
 go_ret
 exact ⟨_, xs, rfl, hr⟩
theorem Tryz.cmpLaysPr (blk off size : Nat) (w : World) : CmpLays Tryz.prog 173 #[] encPr 2 cmpPr blk off size w :=
 fun _ _ _ _ x y => list1_calls x y _
def PairsR (s : List Pr) (w : World) (e : Ending) (w' : World) : Prop := ∃ v, e = .returned v ∧ Row w' 113 2 v s.length (prCells s) ∧ Same [] w w' ∧ (∀ b, v.ownBlock = some b → w.heap.size ≤ b)
theorem SortFunc_calls (v : Value) (l : List Pr) (hl : l.length < 4611686018427387904) (w : World) (hr : Row w 113 2 v l.length (prCells l)) :
  Calls Tryz.prog 187 #[v, .func (.func 173) #[] #[]] w fun e w' => e = .returned (.tuple #[]) ∧ Row w' 113 2 v l.length (prCells (l.mergeSort fun x y => !(ltOf cmpPr) y x)) ∧ Same v.ownBlock.toList w w' := by
 rcases hr.2 with ⟨rfl, h0⟩ | ⟨g, cap, cur, rfl, h2, h3, h4, h5, h6, h7⟩
 ·have hln : l = [] := List.eq_nil_of_length_eq_zero h0
  subst hln
  have hc := AnyF.slices_SortFunc_none (P := Tryz.prog) { Tryz.sortPr with } none 0 (.func (.func 173) #[] #[]) w
  refine hc.mono ?_
  rintro e w' ⟨rfl, rfl⟩
  exact ⟨rfl, by simpa using hr, Same.refl _ _⟩
 ·have eg : ∀ args w, (callFunc 173 args).run Tryz.prog w = .ok (.enter 173 args) w := enters_of Tryz.func173 (by kernel_rfl) rfl
  have hc := AnyQ.slices_SortFunc_total Tryz.sortPr 2 Tryz.isAgg113 Tryz.sizeOf113 encPr (fun _ => rfl) (fun x v hv => by simp [encPr] at hv; rcases hv with rfl | rfl <;> rfl) cmpPr swoPr 173 #[] g 0 cap l.toArray w eg (Tryz.cmpLaysPr g 0 l.toArray.size w) hr.holdsPr (blk_lt h3) (by simpa using hl) ltP_total
  refine Calls.mono hc ?_
  rintro e w' ⟨rfl, n, os, rfl⟩
  have := hr.sortedPr (s := l.mergeSort fun x y => !(ltOf cmpPr) y x) (n := n) (os := os) (List.length_mergeSort _)
  exact ⟨rfl, this.1, by simpa [Value.ownBlock] using this.2⟩
theorem SortedFunc_calls (L : List Pr) (hL : L.length ≤ 1000000) (b : Nat) (l : List (Pr × Value)) (hl : l.map (·.1) = L) (hk : (l.map (·.1)).Nodup) (B : Nat) (w : World) (hB : w.cell? ⟨B, 0, none⟩ = some (.map (some b))) (hps : PSet w b l) (s : List Pr) (hs : ∀ xs : List Pr, xs.Perm L → xs.mergeSort (fun x y => !(ltOf cmpPr) y x) = s) :
  Calls Tryz.prog 171 #[.func (.func 188) #[] #[.pointer (some ⟨B, 0, none⟩)], .func (.func 173) #[] #[]] w (PairsR s w) := by
 have hc := Collect_calls L hL b l hl hk B w hB hps
 clear hps hB hk
 have Hs := Kd hs
 clear hs
 go_enter Tryz.func171, Tryz.ntmps171
 go_wp2_with (first
  | (go_at_call 186; refine hc.mono ?_; rintro e W1 ⟨v, xs, rfl, hp, hr, hs1, hv1⟩; obtain ⟨Av, cv, rfl⟩ := hr.shape; have Hp := Kd hp; have Hr := Kd hr; have Hs1 := Kd hs1; have Hv1 := Kd hv1; clear hp hr hs1 hv1)
  | (go_at_call 187; refine (SortFunc_calls _ xs (by have := Hp.out.length_eq; omega) _ Hr.out).mono ?_; rintro e W2 ⟨rfl, hr2, hs2⟩))
 go_ret
 rw [Hs.out xs Hp.out] at hr2
 have hln : s.length = xs.length := by rw [← Hs.out xs Hp.out]; exact List.length_mergeSort _
 rw [← hln] at hr2
 exact ⟨_, rfl, by rw [hln] at hr2 ⊢; exact hr2, Hs1.out.then hs2 (fun x hx => .inr (Hv1.out x (Option.mem_toList.1 hx))), Hv1.out⟩
theorem list_calls (b : Nat) (l : List (Pr × Value)) (s : List Pr) (h : PInv l s) (hL : l.length ≤ 1000000) (w : World) (hps : PSet w b l) : Calls Tryz.prog 159 #[.map (some b)] w (PairsR s w) := by
 have hk := fun w => Keys_calls b w
 have H := Kd h
 have Hp := Kd hps
 clear h hps
 go_enter Tryz.func159, Tryz.ntmps159
 go_wp2_with (first
  | (go_at_call 172; refine (hk _).mono ?_; rintro e W1 ⟨rfl, hz1, hc1, hs1⟩)
  | (go_at_call 171; go_must (refine (SortedFunc_calls (l.map (·.1)) (by simpa using hL) b l rfl H.out.nd _ _ hc1 (Hp.out.same hs1 (by simp)) s (fun xs hx => H.out.sort hx)).mono ?_; rintro e W2 ⟨v, rfl, hr2, hs2, hv2⟩)))
 go_ret
 exact ⟨_, rfl, hr2, hs1.trans hs2, fun b hb => by have := hv2 b hb; have := hs1.size; omega⟩
end Go.Proofs.YtdhkmfpfbjcdiaaGreatDoor
