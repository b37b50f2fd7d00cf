/- lemmalaw texts, part 10. -/
import Derived.Test.YtbfbgfpghkijdaaGreatDoorYag
import Derived.Test.YtbfbgfpghkijdaaGreatDoorYah
import Derived.Test.YtbfbgfpghkijdaaGreatDoorYai
import Derived.WalkSpells
import Derived.Deep.DeepFit
set_option maxRecDepth 100000
set_option linter.unusedVariables false
set_option linter.unusedSimpArgs false
set_option maxHeartbeats 32000000
namespace Go.Proofs.YtbfbgfpghkijdaaGreatDoor
open Go.RowKit
def LU (e k n : Nat) (xs : List Value) (w : World) (r : Ending) (w' : World) : Prop := ∃ v, r = .returned v ∧ Row w' e k v n xs ∧ Ad [] w w' ∧ (∀ b, v.ownBlock = some b → w.heap.size ≤ b)
theorem EZ (w : World) (e k : Nat) : Row (w.alloc (.cells #[] e)) e k (.slice (some ⟨w.heap.size, 0, none⟩) 0 0) 0 [] :=
 ⟨by simp, .inr ⟨w.heap.size, 0, #[], rfl, Nat.zero_le _, Aj _ _, Nat.le_refl _, by simp, by simp, by simp⟩⟩
section
variable {P : Program} {ops : Array Oper} {rest : List Oper} {o : Oper} {a : Act} {Q : Exit → Act → World → Prop}
theorem zq56 {P : Prop} (h : P := by
 intro v' w' hown' hg _ hat
 refine h v' w' hown' (Ad.of_grown hg) ?_
 rcases hat with hat | hat
 ·exact .inl hat
 ·exact .inr ⟨_, hat, Nat.le_refl _⟩) : P := h
theorem Dr {W : World} (hgd : o.guard = none) (s x : Operand) (t : TypeId) (ho : o.op = .call { callee := .builtin .append, args := #[s, x], argTypes := #[t, t] })
  (e k bytes : Nat) (z : Value) (ht : P.underlying t = some (.slice e)) (hinfo : (P.info? e).map (fun i => (i.zero, i.size, i.bytes)) = some (some z, k, bytes)) (hz : z.cells.size = k) (hk : 0 < k)
  (v : Value) (n : Nat) (xs : List Value) (hs : a.eval s = v) (hown : Row W e k v n xs) (g m c : Nat) (ys : List Value) (hx : a.eval x = .slice (some ⟨g, 0, none⟩) m c) (hsrc : Row W e k (.slice (some ⟨g, 0, none⟩) m c) m ys) (h1 : ∀ u ∈ ys, u.oneCell' = true)
  (hn : (n + m) * bytes ≤ 140737488355328) (hb : 0 < bytes)
  (h : ∀ v' w', Row w' e k v' (n + m) (xs ++ ys) → Ad v.ownBlock.toList W w' → (v'.ownBlock = v.ownBlock ∨ ∃ b, v'.ownBlock = some b ∧ W.heap.size ≤ b) → wpList P ops Q rest (a.put o.dst v') w') :
  wpList P ops Q (o :: rest) a W := by
 obtain ⟨i, hi, hz0, hz1, hz2⟩ := Co hinfo
 have hlen : n + m ≤ 140737488355328 := Nat.le_trans (Nat.le_mul_of_pos_right _ hb) hn
 refine wpList_append_own_at _ hgd s x t ho 0 e i z k bytes ht hi hz0 hz1 hz2 hz hk v n xs hs hown ⟨g, 0, none⟩ m c ys hx hsrc.1 (fun j u hj => ?_) h1 (by simp only [maxLen]; omega) hn (Nat.zero_le _) ?_
 ·have hjl : j < m * k := by rw [← hsrc.1]; exact (List.getElem?_eq_some_iff.1 hj).1
  obtain ⟨g', c', hv, h2, _⟩ := hsrc.cell (j := j) hjl
  cases hv
  have e1 : (⟨g, 0, none⟩ : Addr).add j = ⟨g, j, none⟩ := by unfold Addr.add; split <;> simp_all
  rw [e1, h2]
  simp [List.getD_eq_getElem?_getD, hj]
 ·exact zq56
end
theorem Tryz.infoInt' : (Tryz.prog.info? 3).map (fun i => (i.zero, i.size, i.bytes)) = some (some (.int .i64 0), 1, 8) := by kernel_rfl
theorem Tryz.infoPair : (Tryz.prog.info? 47).map (fun i => (i.zero, i.size, i.bytes)) = some (some (.agg #[.int .i64 0, .int .i64 0]), 2, 16) := by kernel_rfl
theorem Tryz.infoToken' : (Tryz.prog.info? 59).map (fun i => (i.zero, i.size, i.bytes)) = some (some (.agg #[.string ByteArray.empty, .int .i64 0, .int .i64 0, .int .i64 0]), 4, 40) := by kernel_rfl
theorem Tryz.infoHyp : (Tryz.prog.info? 49).map (fun i => (i.zero, i.size, i.bytes)) = some (some (.agg #[.string ByteArray.empty, .bool false, .int .i64 0, .slice none 0 0]), 4, 56) := by kernel_rfl
theorem zq29 {P : Prop} (h : P := by
 rw [List.nil_append] at hr1
 simp only [Nat.zero_add] at hr1 ho1 ⊢
 go_ret
 refine ⟨.slice A1 n c1, rfl, hr1, (Ad.alloc [] w _).then hs1 (fun x hx => .inr (by simp [Value.ownBlock] at hx; omega)), fun b hb => ?_⟩
 rcases ho1 with ho | ⟨c, hc, hle⟩
 ·rw [ho] at hb; simp [Value.ownBlock] at hb; omega
 ·rw [hc] at hb; cases hb; simp at hle; omega) : P := h
theorem zq50 {P : Prop} (h : P := by
 go_wp2
 go_ret
 exact ⟨_, rfl, World.ownsRow_nil _ _ _ _, Ad.refl _ _, by simp [Value.ownBlock]⟩) : P := h
theorem CP (v : Value) (n : Nat) (xs : List Value) (w : World) (h : Row w 3 1 v n xs) (h1 : ∀ u ∈ xs, u.oneCell' = true) (hn : n ≤ 1000000) : Calls Tryz.prog 51 #[v] w (LU 3 1 n xs w) := by
 rcases h.2 with ⟨rfl, rfl⟩ | ⟨g, cap, cur, rfl, h2, h3, h4, h5, h6, h7⟩
 ·have hxs : xs = [] := by have := h.1; simpa using this
  subst hxs
  have hnil := fun w => Lib.run_eql_slice_nil (P := Tryz.prog) w _ _ none 0 0 0 0 Tryz.underlying24
  clear h h1
  go_enter Tryz.func51, Tryz.ntmps51
  exact zq50
 ·have H := Kd h
  have H1 := Kd h1
  have hnil := fun w => Lib.run_eql_slice_nil (P := Tryz.prog) w _ _ (some ⟨g, 0, none⟩) n cap 0 0 Tryz.underlying24
  clear h h1 h2 h3 h4 h5 h6 h7
  go_enter Tryz.func51, Tryz.ntmps51
  go_wp2_with (at_builtin; go_must (refine Dr rfl _ _ 24 rfl 3 1 8 _ Tryz.underlying24 Tryz.infoInt' rfl (by decide) (.slice (some ⟨w.heap.size, 0, none⟩) 0 0) 0 [] rfl (EZ w _ _) g n cap xs rfl (H.out.same (Ad.alloc [] _ _) (by simp)) H1.out (by omega) (by decide) ?_; intro v1 w1 hr1 hs1 ho1; obtain ⟨A1, c1, rfl⟩ := hr1.shape))
  exact zq29
theorem DV (v : Value) (n : Nat) (xs : List Value) (w : World) (h : Row w 47 2 v n xs) (h1 : ∀ u ∈ xs, u.oneCell' = true) (hn : n ≤ 1000000) : Calls Tryz.prog 50 #[v] w (LU 47 2 n xs w) := by
 rcases h.2 with ⟨rfl, rfl⟩ | ⟨g, cap, cur, rfl, h2, h3, h4, h5, h6, h7⟩
 ·have hxs : xs = [] := by have := h.1; simpa using this
  subst hxs
  have hnil := fun w => Lib.run_eql_slice_nil (P := Tryz.prog) w _ _ none 0 0 0 0 Tryz.underlying33
  clear h h1
  go_enter Tryz.func50, Tryz.ntmps50
  exact zq50
 ·have H := Kd h
  have H1 := Kd h1
  have hnil := fun w => Lib.run_eql_slice_nil (P := Tryz.prog) w _ _ (some ⟨g, 0, none⟩) n cap 0 0 Tryz.underlying33
  clear h h1 h2 h3 h4 h5 h6 h7
  go_enter Tryz.func50, Tryz.ntmps50
  go_wp2_with (at_builtin; go_must (refine Dr rfl _ _ 33 rfl 47 2 16 _ Tryz.underlying33 Tryz.infoPair rfl (by decide) (.slice (some ⟨w.heap.size, 0, none⟩) 0 0) 0 [] rfl (EZ w _ _) g n cap xs rfl (H.out.same (Ad.alloc [] _ _) (by simp)) H1.out (by omega) (by decide) ?_; intro v1 w1 hr1 hs1 ho1; obtain ⟨A1, c1, rfl⟩ := hr1.shape))
  exact zq29
theorem EX (v : Value) (n : Nat) (xs : List Value) (w : World) (h : Row w 59 4 v n xs) (h1 : ∀ u ∈ xs, u.oneCell' = true) (hn : n ≤ 10000000) : Calls Tryz.prog 52 #[v] w (LU 59 4 n xs w) := by
 rcases h.2 with ⟨rfl, rfl⟩ | ⟨g, cap, cur, rfl, h2, h3, h4, h5, h6, h7⟩
 ·have hxs : xs = [] := by have := h.1; simpa using this
  subst hxs
  have hnil := fun w => Lib.run_eql_slice_nil (P := Tryz.prog) w _ _ none 0 0 0 0 Tryz.underlying54
  clear h h1
  go_enter Tryz.func52, Tryz.ntmps52
  exact zq50
 ·have H := Kd h
  have H1 := Kd h1
  have hnil := fun w => Lib.run_eql_slice_nil (P := Tryz.prog) w _ _ (some ⟨g, 0, none⟩) n cap 0 0 Tryz.underlying54
  clear h h1 h2 h3 h4 h5 h6 h7
  go_enter Tryz.func52, Tryz.ntmps52
  go_wp2_with (at_builtin; go_must (refine Dr rfl _ _ 54 rfl 59 4 40 _ Tryz.underlying54 Tryz.infoToken' rfl (by decide) (.slice (some ⟨w.heap.size, 0, none⟩) 0 0) 0 [] rfl (EZ w _ _) g n cap xs rfl (H.out.same (Ad.alloc [] _ _) (by simp)) H1.out (by omega) (by decide) ?_; intro v1 w1 hr1 hs1 ho1; obtain ⟨A1, c1, rfl⟩ := hr1.shape))
  exact zq29
theorem Jf (v : Value) (n : Nat) (xs : List Value) (w : World) (h : Row w 49 4 v n xs) (h1 : ∀ u ∈ xs, u.oneCell' = true) (hn : n ≤ 1000000) : Calls Tryz.prog 100 #[v] w (LU 49 4 n xs w) := by
 rcases h.2 with ⟨rfl, rfl⟩ | ⟨g, cap, cur, rfl, h2, h3, h4, h5, h6, h7⟩
 ·have hxs : xs = [] := by have := h.1; simpa using this
  subst hxs
  have hnil := fun w => Lib.run_eql_slice_nil (P := Tryz.prog) w _ _ none 0 0 0 0 Tryz.underlying22
  clear h h1
  go_enter Tryz.func100, Tryz.ntmps100
  exact zq50
 ·have H := Kd h
  have H1 := Kd h1
  have hnil := fun w => Lib.run_eql_slice_nil (P := Tryz.prog) w _ _ (some ⟨g, 0, none⟩) n cap 0 0 Tryz.underlying22
  clear h h1 h2 h3 h4 h5 h6 h7
  go_enter Tryz.func100, Tryz.ntmps100
  go_wp2_with (at_builtin; go_must (refine Dr rfl _ _ 22 rfl 49 4 56 _ Tryz.underlying22 Tryz.infoHyp rfl (by decide) (.slice (some ⟨w.heap.size, 0, none⟩) 0 0) 0 [] rfl (EZ w _ _) g n cap xs rfl (H.out.same (Ad.alloc [] _ _) (by simp)) H1.out (by omega) (by decide) ?_; intro v1 w1 hr1 hs1 ho1; obtain ⟨A1, c1, rfl⟩ := hr1.shape))
  exact zq29
attribute [local go_sem] Oper.semAt_some
def AT (l : List Pr) : List Value := l.flatMap BT
theorem D8 (l : List Pr) (p : Pr) : AT (l ++ [p]) = AT l ++ BT p := by simp [AT]
structure IH (lo : Nat) (L pre : List Pr) (v : Value) (w W : World) : Prop where
 base : Ad [] w W
 r0 : W.heap[lo]? = some (.cells #[v] 33 (0, 0))
 row : Row W 47 2 v pre.length (AT pre)
 vlo : ∀ b, v.ownBlock = some b → lo + 4 ≤ b
 nd : pre.Nodup
 sub : ∀ x ∈ pre, x ∈ L
 lt : lo + 1 ≤ W.heap.size
 sz : lo = w.heap.size
theorem IH.same {lo : Nat} {L pre : List Pr} {v : Value} {w W W' : World} {S : List Nat} (h : IH lo L pre v w W) (hs : Ad S W W') (hS : ∀ b ∈ S, lo + 1 ≤ b ∧ b < lo + 4) : IH lo L pre v w W' := {
 base := h.base.then hs (fun x hx => .inr (by have := hS x hx; have := h.sz; omega))
 r0 := hs.get h.r0 (fun hm => by have := hS _ hm; omega)
 row := h.row.same hs (fun b hb hm => by have := hS _ hm; have := h.vlo b hb; omega)
 vlo := h.vlo
 nd := h.nd
 sub := h.sub
 lt := Nat.le_trans h.lt hs.size
 sz := h.sz }
theorem zq108 {P : Prop} (h : P := by
 exact List.nodup_append.2 ⟨h.nd, by simp, fun a ha b hb e => by simp at hb; subst hb; subst e; exact hn ha⟩) : P := h
theorem IH.push {lo : Nat} {L pre : List Pr} {v v1 : Value} {w W W1 : World} (h : IH lo L pre v w W) (h4 : lo + 4 ≤ W.heap.size) (x : Pr) (hx : x ∈ L) (hn : x ∉ pre) (hs : Ad v.ownBlock.toList W W1) (hr : Row W1 47 2 v1 (pre.length + 1) (AT pre ++ BT x))
  (ho : v1.ownBlock = v.ownBlock ∨ ∃ b, v1.ownBlock = some b ∧ W.heap.size ≤ b) :
  IH lo L (pre ++ [x]) v1 w (W1.setCell ⟨lo, 0, none⟩ v1) ∧ Ch (lo + 1) 3 W (W1.setCell ⟨lo, 0, none⟩ v1) := by
 have hlt := h.lt
 have hsz := h.sz
 have hv1 : ∀ b, v1.ownBlock = some b → lo + 4 ≤ b := fun b hb => by
  exact zq105
 have hs' : Ad (lo :: v.ownBlock.toList) W (W1.setCell ⟨lo, 0, none⟩ v1) := (hs.mono (fun y hy => .inl (List.mem_cons_of_mem _ hy))).set _ _ (by simp)
 have hno : ∀ b, b ∈ lo :: v.ownBlock.toList → b = lo ∨ lo + 4 ≤ b := fun b hb => by
  exact zq112
 refine ⟨⟨h.base.then hs' (fun y hy => .inr (by have := hno y hy; omega)), ?_, ?_, hv1, ?_, ?_, Nat.le_trans hlt hs'.size, hsz⟩, Ch.of_same hs' (fun b hb => by have := hno b hb; omega) (by omega)⟩
 ·have := hs.get h.r0 (fun hm => by have := h.vlo _ (Option.mem_toList.1 hm); omega)
  simp [Az, this, AV]
 ·have := hr.same (Ad.setCell W1 ⟨lo, 0, none⟩ v1 (S := [lo]) (by simp)) (fun b hb hm => by have := hv1 b hb; simp at hm; omega)
  rw [D8]
  simpa using this
 ·exact zq108
 ·intro y hy
  rcases List.mem_append.1 hy with hy | hy
  ·exact h.sub y hy
  ·simp at hy; subst hy; exact hx
def Rh (L : List Pr) (w : World) (e : Ending) (w' : World) : Prop := ∃ v xs, e = .returned v ∧ xs.Perm L ∧ Row w' 47 2 v xs.length (AT xs) ∧ Ad [] w w' ∧ (∀ b, v.ownBlock = some b → w.heap.size ≤ b)
theorem I0 (L : List Pr) (hL : L.length ≤ 1000000) (b : Nat) (l : List (Pr × Value)) (hl : l.map (·.1) = L) (hk : (l.map (·.1)).Nodup) (B : Nat) (w : World) (hB : w.cell? ⟨B, 0, none⟩ = some (.map (some b))) (hps : EY w b l) :
  Calls Tryz.prog 198 #[.slice none 0 0, .func (.func 188) #[] #[.pointer (some ⟨B, 0, none⟩)]] w (Rh L w) := by
 refine (callsIn_wide (n := 0)).1 ?_
 refine callsIn_of_wp_marks Tryz.func198 rfl trivial ?_ rfl
 simp only [Tryz.ntmps198, List.size_toArray, List.length_cons, List.length_nil, Nat.reduceAdd, Nat.reduceSub, Array.replicate_succ, Array.replicate_zero, List.push_toArray, List.append_toArray, List.nil_append, List.cons_append]
 have hBl := World.block_lt_of_cell? w ⟨B, 0, none⟩ hB
 have hbl := hps.lt
 obtain ⟨o, hm⟩ : ∃ o, w.heap[b]? = some o := ⟨_, Array.getElem?_eq_getElem hbl⟩
 gi_wp2
 have hA0 : IH w.heap.size L [] (.slice none 0 0) w (w.alloc (.cells #[.slice none 0 0] 33)) :=
  ⟨Ad.alloc _ _ _, Aj _ _, World.ownsRow_nil _ _ _ _, by simp [Value.ownBlock], by simp, by simp, by simp, rfl⟩
 refine OU (p := 1) (gf := 188) (lb := #[.pointer (some ⟨B, 0, none⟩)]) (encs := fun p : Pr => #[prV p])
  (Kp := fun W => W.cell? ⟨B, 0, none⟩ = some (.map (some b)) ∧ W.heap[b]? = some o) (Nx := fun pre x => x ∈ l.map (·.1) ∧ x ∉ pre) (Fin := fun xs => xs.Perm (l.map (·.1))) (by simp [Act.eval]) (enters_of Tryz.func188 (by kernel_rfl) rfl) (fun _ => rfl)
  (fun W hW => Oj b l hk B W (by have := hW.size; simp at this; omega) o (hW.get (AR hm _) (by simp)) ((hps.same (Ad.alloc [] _ _) (by simp)).same hW (by simp)))
  (fun pre W => ∃ v, IH w.heap.size L pre v w W) (fun _ _ _ => False) ⟨_, hA0⟩ ?kp ?hI ?hIx ?round ?done ?stop
 case kp =>
  rintro pre W ⟨v, hS⟩
  exact ⟨hS.base.cell hB (by simp), hS.base.get hm (by simp)⟩
 case hI =>
  rintro pre S W1 W2 ⟨v, hS⟩ hsm hin
  exact ⟨v, hS.same hsm (fun b hb => by have := hin b hb; simp only [World.size_alloc] at this; omega)⟩
 case hIx => exact fun _ _ _ _ _ h _ _ => h
 case round =>
  rintro lp pre x W ⟨hx1, hx2⟩ ⟨v, hS⟩ hsz
  dsimp only [prV]
  simp only [World.size_alloc] at hsz
  gi_wp2
  refine ⟨fun b h1 h2 => (Ad.alloc [] W _).block b (by simp only [World.size_alloc] at h2; omega) (by simp), (Ad.alloc [] W _).size, ?_⟩
  intro W2 hsm2
  simp only [World.size_alloc] at hsm2
  have hsm := (Ad.alloc [w.heap.size + 1 + 1] W (.cells #[.int .i64 x.1, .int .i64 x.2] 47)).trans hsm2
  have hS2 := hS.same hsm (fun b hb => by simp at hb; omega)
  have hblk := hsm2.get (Aj W (.cells #[.int .i64 x.1, .int .i64 x.2] 47)) (by simp; omega)
  obtain ⟨Av, cv, rfl⟩ := hS2.row.shape
  have i0 := Ai (i := 0) (v := .int .i64 x.1) hblk rfl
  have i1 := Ai (i := 1) (v := .int .i64 x.2) hblk rfl
  have e0 := Ai (i := 0) (v := .slice Av pre.length cv) hS2.r0 rfl
  have f0 := AE hS2.r0
  have HS := Kd hS2
  have Hx1 := Kd hx1
  have Hx2 := Kd hx2
  have hl0 := Af hS2.r0
  have hl1 := Af hblk
  have hpl : pre.length < 1000001 := by
   have := hS2.nd.length_le_of_subset (fun y hy => hS2.sub y hy)
   omega
  have h4 : w.heap.size + 4 ≤ W2.heap.size := by have := hsm.size; omega
  clear hS hS2 hx1 hx2 hblk hsm hsm2 hA0
  gi_wp2_with (gi_at_builtin; go_must (refine MZ (fun _ => trivial) rfl _ _ 33 rfl 47 2 16 _ Tryz.underlying33 Tryz.infoPair rfl (by decide) (.slice Av pre.length cv) pre.length _ rfl HS.out.row [.int .i64 x.1, .int .i64 x.2] _ rfl rfl rfl (by simp [Value.oneCell']) (by omega) (by decide) ?_; intro v1 W5 hrow5 hsm5 hor5; obtain ⟨A5, c5, rfl⟩ := hrow5.shape; have g2 := hsm5.get HS.out.r0 (fun hm => by have := HS.out.vlo _ (Option.mem_toList.1 hm); omega); have g2f := AE g2; have g2c := Ai (i := 0) (v := .slice Av pre.length cv) g2 rfl))
  have hpush := HS.out.push h4 x (by rw [← hl]; exact Hx1.out) Hx2.out hsm5 hrow5 hor5
  exact ⟨by simpa using hpush.2, _, hpush.1⟩
 case done =>
  rintro xs W hfin ⟨v, hS⟩ hK
  simp only [World.size_alloc] at hK ⊢
  obtain ⟨Av, cv, rfl⟩ := hS.row.shape
  have e0 := Ai (i := 0) (v := .slice Av xs.length cv) hS.r0 rfl
  have HS := Kd hS
  have HK := Kd hK
  have Hf := Kd hfin
  clear hS hK hfin hA0
  gi_wp2
  refine ⟨by simp, .inl ⟨_, _, rfl, run_takeDeferred HK.out, ?_⟩⟩
  have hp : Ad [w.heap.size + 1] W (W.putObj (w.heap.size + 1) (.deferred none)) := Ad.put _ HK.out
  refine ⟨.slice Av xs.length cv, ?_, .slice Av xs.length cv, xs, rfl, by rw [← hl]; exact Hf.out, HS.out.row.same hp (fun b hb hm => by have := HS.out.vlo b hb; simp at hm; omega), Ad.then (T := [w.heap.size + 1]) HS.out.base hp (fun x hx => .inr (by simp at hx; omega)), fun b hb => by have := HS.out.vlo b hb; omega⟩
  simp [results, Tryz.f198, go_sem]
 case stop => exact fun _ _ _ h _ => h.elim
end Go.Proofs.YtbfbgfpghkijdaaGreatDoor
namespace Go.Proofs.YtbfbgfpghkijdaaGreatDoor
open Go.RowKit Go.Shelf Go.Lib Go.Sort
theorem Db (l : List Pr) : (AT l).length = l.length * 2 := by
 induction l with
 | nil => rfl
 | cons a l ih => simp [AT, BT] at ih ⊢; omega
theorem IU : ∀ (l : List Pr) (t : Nat), t < l.length * 2 → (AT l).toArray[t]! = (BT l.toArray[t / 2]!)[t % 2]!
 | [], t, h => by simp at h
 | p :: l, t, h => by
  rcases Nat.lt_or_ge t 2 with h2 | h2
  ·have : t = 0 ∨ t = 1 := by omega
   rcases this with rfl | rfl <;> rfl
  ·have ih := IU l (t - 2) (by simp at h; omega)
   have e1 : (AT (p :: l)).toArray[t]! = (AT l).toArray[t - 2]! := by
    simp only [Array.getElem!_eq_getD, Array.getD_eq_getD_getElem?, List.getElem?_toArray]
    rw [show AT (p :: l) = BT p ++ AT l by simp [AT], List.getElem?_append_right (by simpa [BT] using h2)]
    simp [BT]
   have e2 : ((p :: l).toArray[t / 2]!) = l.toArray[(t - 2) / 2]! := by
    obtain ⟨u, hu⟩ : ∃ u, t / 2 = u + 1 := ⟨t / 2 - 1, by omega⟩
    rw [hu, show (t - 2) / 2 = u by omega]
    simp
   rw [e1, ih, e2, show (t - 2) % 2 = t % 2 by omega]
theorem Mf (l : List Pr) : Go.Sort.flatK BT 2 l.toArray = (AT l).toArray := by
 refine Go.Sort.ext_get! (by simp [Db]) (fun t ht => ?_)
 have ht' : t < l.length * 2 := by simpa using ht
 rw [Go.Sort.get_flatK _ _ _ _ (by simpa using ht'), IU l t ht']
theorem Gx (cur : Array Value) (ts : List Value) (h : ts.length ≤ cur.size) : (Go.Sort.putCells id 0 ts.toArray cur).toList.take ts.length = ts := by
 apply List.ext_getElem?
 intro j
 by_cases hj : j < ts.length
 ·rw [List.getElem?_take_of_lt hj, Array.getElem?_toList]
  simp [Go.Sort.putCells, hj, show j < cur.size by omega]
 ·rw [List.getElem?_take_eq_none (by omega), List.getElem?_eq_none (by omega)]
theorem Row.holdsPr {w : World} {g c : Nat} {l : List Pr} (h : Row w 47 2 (.slice (some ⟨g, 0, none⟩) l.length c) l.length (AT l)) : Go.Sort.HoldsK BT 2 w g 0 l.toArray := by
 unfold Go.Sort.HoldsK
 rw [Mf]
 intro j hj
 have hj' : j < l.length * 2 := by simpa [Db] using hj
 obtain ⟨g', c', hv, h1, h2⟩ := h.cell (j := j) hj'
 cases hv
 rw [Nat.zero_add]
 refine ⟨?_, h2⟩
 rw [h1]
 simp [List.getD_eq_getElem?_getD, Array.getElem!_eq_getD, Array.getD_eq_getD_getElem?]
 have : j < (AT l).length := by rw [Db]; exact hj'
 simp [this]
theorem zq60 {P : Prop} (h : P := by
 intro b hb hn
 unfold sortWorldK Go.Sort.putRowK
 rw [Go.Sort.heap_grow_old _ _ (by simpa [Go.Sort.putRow, Go.Sort.mapBlock, Go.Sort.ahead] using hb)]
 have : g ≠ b := fun e => hn (by simp [e])
 simp [Go.Sort.putRow, Go.Sort.mapBlock, Go.Sort.ahead, Array.getElem?_modify, this]) : P := h
theorem zq116 {P : Prop} (h : P := by
 simp [Go.Sort.putRow, Go.Sort.mapBlock, Go.Sort.ahead, Array.getElem?_modify, h3, Go.Sort.onCells]) : P := h
theorem Row.sortedPr {w : World} {g c n : Nat} {l s : List Pr} {os : Array Obj} (h : Row w 47 2 (.slice (some ⟨g, 0, none⟩) l.length c) l.length (AT l)) (hl : s.length = l.length) :
  Row (sortWorldK BT 2 w g 0 n s.toArray os) 47 2 (.slice (some ⟨g, 0, none⟩) l.length c) l.length (AT s) ∧ Ad [g] w (sortWorldK BT 2 w g 0 n s.toArray os) := by
 rcases h.2 with ⟨h1, _⟩ | ⟨g', cap, cur, h1, h2, h3, h4, h5, h6, h7⟩
 ·simp at h1
 ·cases h1
  have hg : g < w.heap.size := Af h3
  have hheap : (sortWorldK BT 2 w g 0 n s.toArray os).heap[g]? = some (.cells (Go.Sort.putCells id 0 (AT s).toArray cur) 47 (0, 0)) := by
   unfold sortWorldK Go.Sort.putRowK
   rw [Mf, Go.Sort.heap_grow_old _ _ (by simpa [Go.Sort.putRow, Go.Sort.mapBlock, Go.Sort.ahead] using hg)]
   exact zq116
  refine ⟨⟨by rw [Db, hl], .inr ⟨g, c, _, rfl, h2, hheap, h4, h5, by simp [Go.Sort.putCells, h6], ?_⟩⟩, rfl, rfl, rfl, by simp [sortWorldK, Go.Sort.putRowK, Go.Sort.putRow, Go.Sort.mapBlock, Go.Sort.ahead, Go.Sort.grow], ?_⟩
  ·have := Gx cur (AT s) (by rw [Db, hl, h6]; exact Nat.mul_le_mul_right _ h4)
   rw [Db, hl] at this
   exact this
  ·exact zq60
def ltP (p q : Pr) : Bool := decide (p.1 < q.1) || (decide (p.1 = q.1) && decide (p.2 < q.2))
theorem DN (p q : Pr) : ltOf D7 p q = ltP p q := by
 unfold ltOf D7 ltP Lib.compareInt
 by_cases h : p.1 = q.1
 ·simp only [h, if_true]
  by_cases h1 : p.2 < q.2
  ·simp [h1]
  ·by_cases h2 : q.2 < p.2 <;> simp [h1, h2]
 ·simp only [h, if_false]
  by_cases h1 : p.1 < q.1
  ·simp [h1]
  ·by_cases h2 : q.1 < p.1 <;> simp [h1, h2]
theorem DF (p q : Pr) : ltP p q = true ↔ p.1 < q.1 ∨ (p.1 = q.1 ∧ p.2 < q.2) := by simp [ltP]
theorem RO : Go.Sort.SWO (ltOf D7) := {
 irrefl x := by rw [DN]; simp [ltP]
 trans x y z h1 h2 := by rw [DN, DF] at *; omega
 ntrans x y z h1 h2 := by
  rw [DN] at *
  rw [Bool.eq_false_iff] at *
  rw [ne_eq, DF] at *
  omega }
theorem OV (x y : Pr) (h1 : ltOf D7 x y = false) (h2 : ltOf D7 y x = false) : x = y := by
 rw [DN, Bool.eq_false_iff, ne_eq, DF] at h1 h2
 exact Prod.ext (by omega) (by omega)
def Kc (p : Pr) : List Pr → List Pr
 | [] => [p]
 | q :: r => if p = q then q :: r else if ltP p q = true then p :: q :: r else q :: Kc p r
def Fk (s : List Pr) (p : Pr) : List Pr := if p.1 = p.2 then s else Kc (BB p) s
theorem HU {p x : Pr} : ∀ {s : List Pr}, x ∈ Kc p s ↔ x = p ∨ x ∈ s
 | [] => by simp [Kc]
 | q :: r => by
  unfold Kc
  split
  ·rename_i h; subst h; simp
  ·split
   ·simp
   ·simp [HU (s := r)]; constructor
    ·rintro (h | h | h) <;> simp [h]
    ·rintro (h | h | h) <;> simp [h]
def CU (s : List Pr) : Prop := s.Pairwise (fun p q => ltP p q = true)
theorem FR {p : Pr} : ∀ {s : List Pr}, CU s → CU (Kc p s)
 | [], _ => by simp [Kc, CU]
 | q :: r, h => by
  unfold CU at h ⊢
  rw [List.pairwise_cons] at h
  unfold Kc
  split
  ·rw [List.pairwise_cons]; exact h
  ·rename_i hne
   split
   ·rename_i hlt
    rw [List.pairwise_cons, List.pairwise_cons]
    refine ⟨fun x hx => ?_, h⟩
    rcases List.mem_cons.1 hx with rfl | hx
    ·exact hlt
    ·have := h.1 x hx
     rw [DF] at *
     omega
   ·rename_i hnl
    rw [List.pairwise_cons]
    refine ⟨fun x hx => ?_, FR (s := r) h.2⟩
    rcases HU.1 hx with rfl | hx
    ·rw [DF] at hnl ⊢
     have : x.1 ≠ q.1 ∨ x.2 ≠ q.2 := by
      by_cases h1 : x.1 = q.1
      ·by_cases h2 : x.2 = q.2
       ·exact absurd (Prod.ext h1 h2) hne
       ·exact .inr h2
      ·exact .inl h1
     omega
    ·exact h.1 x hx
theorem MC {s : List Pr} {p : Pr} (h : CU s) : CU (Fk s p) := by
 unfold Fk
 split
 ·exact h
 ·exact FR h
theorem DZ {s : List Pr} (h : CU s) : s.Nodup := h.imp (fun {a b} hab e => by subst e; rw [DF] at hab; omega)
structure Ff (l : List (Pr × Value)) (s : List Pr) : Prop where
 nd : (l.map (·.1)).Nodup
 mem : ∀ x, x ∈ l.map (·.1) ↔ x ∈ s
 sorted : CU s
theorem Ff.nil : Ff [] [] := ⟨by simp, by simp, by simp [CU]⟩
theorem DB {α β : Type} [DecidableEq α] (k : α) : ∀ (l : List (α × β)), AJ k l = none ↔ k ∉ l.map (·.1)
 | [] => by simp [AJ]
 | (k', v) :: r => by
  unfold AJ
  by_cases h : k = k'
  ·simp [h]
  ·simp [h, DB k r]
theorem Gh {α β : Type} [DecidableEq α] (k : α) (v : β) (l : List (α × β)) : (Bd k v l).map (·.1) = if k ∈ l.map (·.1) then l.map (·.1) else l.map (·.1) ++ [k] := by
 induction l with
 | nil => simp [Bd]
 | cons p r ih =>
  obtain ⟨k', u⟩ := p
  unfold Bd
  by_cases h : k = k'
  ·simp [h]
  ·by_cases hm : k ∈ r.map (·.1)
   ·rw [if_pos hm] at ih
    rw [if_neg h, List.map_cons, List.map_cons, ih, if_pos (List.mem_cons_of_mem _ hm)]
   ·rw [if_neg hm] at ih
    rw [if_neg h, List.map_cons, List.map_cons, ih, if_neg (fun hc => (List.mem_cons.1 hc).elim h hm)]
    rfl
theorem Ff.put {l : List (Pr × Value)} {s : List Pr} (h : Ff l s) (p : Pr) : Ff (Cr l p) (Fk s p) := by
 unfold Cr Fk
 split
 ·exact h
 ·refine ⟨?_, fun x => ?_, FR h.sorted⟩
  ·rw [Gh]
   split
   ·exact h.nd
   ·rename_i hn
    exact zq108
  ·rw [Gh, HU, ← h.mem x]
   split
   ·rename_i hm
    exact ⟨fun h => .inr h, fun h' => by rcases h' with rfl | h'; exact hm; exact h'⟩
   ·simp only [List.mem_append, List.mem_singleton]
    exact ⟨fun h => h.symm, fun h => h.symm⟩
theorem Ff.len {l : List (Pr × Value)} {s : List Pr} (h : Ff l s) : s.length = l.length := by
 have := ((List.perm_ext_iff_of_nodup h.nd (DZ h.sorted)).2 h.mem).length_eq
 simpa using this.symm
theorem Ff.sort {l : List (Pr × Value)} {s xs : List Pr} (h : Ff l s) (hp : xs.Perm (l.map (·.1))) : xs.mergeSort (fun x y => !(ltOf D7) y x) = s := by
 have h1 : (xs.mergeSort (fun x y => !(ltOf D7) y x)).Perm s := (List.mergeSort_perm _ _).trans (hp.trans ((List.perm_ext_iff_of_nodup h.nd (DZ h.sorted)).2 h.mem))
 have h2 := List.pairwise_mergeSort (le := fun x y => !(ltOf D7) y x) (fun a b c hab hbc => by
  simp only [DN, Bool.not_eq_true', Bool.eq_false_iff, ne_eq, DF] at *
  omega) (fun a b => by
  simp only [DN, Bool.or_eq_true, Bool.not_eq_true', Bool.eq_false_iff, ne_eq, DF]
  omega) xs
 refine List.Perm.eq_of_pairwise (le := fun x y => (!(ltOf D7) y x) = true) (fun a b _ _ hab hba => ?_) h2 (h.sorted.imp (fun {a b} hab => ?_)) h1
 ·simp only [DN, Bool.not_eq_true', Bool.eq_false_iff, ne_eq, DF] at hab hba
  exact Prod.ext (by omega) (by omega)
 ·simp only [DN, Bool.not_eq_true', Bool.eq_false_iff, ne_eq, DF] at hab ⊢
  omega
theorem Kl (L : List Pr) (hL : L.length ≤ 1000000) (b : Nat) (l : List (Pr × Value)) (hl : l.map (·.1) = L) (hk : (l.map (·.1)).Nodup) (B : Nat) (w : World) (hB : w.cell? ⟨B, 0, none⟩ = some (.map (some b))) (hps : EY w b l) :
  Calls Tryz.prog 186 #[.func (.func 188) #[] #[.pointer (some ⟨B, 0, none⟩)]] w (Rh L w) := by
 have hc := I0 L hL b l hl hk B w hB hps
 clear hps hB
 go_enter Tryz.func186, Tryz.ntmps186
 go_wp2_with (go_at_call 198; refine hc.mono ?_; rintro e w' ⟨v, xs, rfl, hr⟩)
 go_ret
 exact ⟨_, xs, rfl, hr⟩
theorem Tryz.cmpLaysPr (blk off size : Nat) (w : World) : CmpLays Tryz.prog 173 #[] BT 2 D7 blk off size w :=
 fun _ _ _ _ x y => Nd x y _
def GP (s : List Pr) (w : World) (e : Ending) (w' : World) : Prop := ∃ v, e = .returned v ∧ Row w' 47 2 v s.length (AT s) ∧ Ad [] w w' ∧ (∀ b, v.ownBlock = some b → w.heap.size ≤ b)
theorem Jj (v : Value) (l : List Pr) (hl : l.length < 4611686018427387904) (w : World) (hr : Row w 47 2 v l.length (AT l)) :
  Calls Tryz.prog 187 #[v, .func (.func 173) #[] #[]] w fun e w' => e = .returned (.tuple #[]) ∧ Row w' 47 2 v l.length (AT (l.mergeSort fun x y => !(ltOf D7) y x)) ∧ Ad v.ownBlock.toList w w' := by
 rcases hr.2 with ⟨rfl, h0⟩ | ⟨g, cap, cur, rfl, h2, h3, h4, h5, h6, h7⟩
 ·have hln : l = [] := List.eq_nil_of_length_eq_zero h0
  subst hln
  have hc := AnyF.slices_SortFunc_none (P := Tryz.prog) { Tryz.sortPr with } none 0 (.func (.func 173) #[] #[]) w
  refine hc.mono ?_
  rintro e w' ⟨rfl, rfl⟩
  exact ⟨rfl, by simpa using hr, Ad.refl _ _⟩
 ·have eg : ∀ args w, (callFunc 173 args).run Tryz.prog w = .ok (.enter 173 args) w := enters_of Tryz.func173 (by kernel_rfl) rfl
  have hc := AnyQ.slices_SortFunc_total Tryz.sortPr 2 Tryz.isAgg47 Tryz.sizeOf47 BT (fun _ => rfl) (fun x v hv => by simp [BT] at hv; rcases hv with rfl | rfl <;> rfl) D7 RO 173 #[] g 0 cap l.toArray w eg (Tryz.cmpLaysPr g 0 l.toArray.size w) hr.holdsPr (Af h3) (by simpa using hl) OV
  refine Calls.mono hc ?_
  rintro e w' ⟨rfl, n, os, rfl⟩
  have := hr.sortedPr (s := l.mergeSort fun x y => !(ltOf D7) y x) (n := n) (os := os) (List.length_mergeSort _)
  exact ⟨rfl, this.1, by simpa [Value.ownBlock] using this.2⟩
theorem Io (L : List Pr) (hL : L.length ≤ 1000000) (b : Nat) (l : List (Pr × Value)) (hl : l.map (·.1) = L) (hk : (l.map (·.1)).Nodup) (B : Nat) (w : World) (hB : w.cell? ⟨B, 0, none⟩ = some (.map (some b))) (hps : EY w b l) (s : List Pr) (hs : ∀ xs : List Pr, xs.Perm L → xs.mergeSort (fun x y => !(ltOf D7) y x) = s) :
  Calls Tryz.prog 171 #[.func (.func 188) #[] #[.pointer (some ⟨B, 0, none⟩)], .func (.func 173) #[] #[]] w (GP s w) := by
 have hc := Kl L hL b l hl hk B w hB hps
 clear hps hB hk
 have Hs := Kd hs
 clear hs
 go_enter Tryz.func171, Tryz.ntmps171
 go_wp2_with (first
  | (go_at_call 186; refine hc.mono ?_; rintro e W1 ⟨v, xs, rfl, hp, hr, hs1, hv1⟩; obtain ⟨Av, cv, rfl⟩ := hr.shape; have Hp := Kd hp; have Hr := Kd hr; have Hs1 := Kd hs1; have Hv1 := Kd hv1; clear hp hr hs1 hv1)
  | (go_at_call 187; refine (Jj _ xs (by have := Hp.out.length_eq; omega) _ Hr.out).mono ?_; rintro e W2 ⟨rfl, hr2, hs2⟩))
 go_ret
 rw [Hs.out xs Hp.out] at hr2
 have hln : s.length = xs.length := by rw [← Hs.out xs Hp.out]; exact List.length_mergeSort _
 rw [← hln] at hr2
 exact ⟨_, rfl, by rw [hln] at hr2 ⊢; exact hr2, Hs1.out.then hs2 (fun x hx => .inr (Hv1.out x (Option.mem_toList.1 hx))), Hv1.out⟩
theorem GH (b : Nat) (l : List (Pr × Value)) (s : List Pr) (h : Ff l s) (hL : l.length ≤ 1000000) (w : World) (hps : EY w b l) : Calls Tryz.prog 151 #[.map (some b)] w (GP s w) := by
 have hk := fun w => Ob b w
 have H := Kd h
 have Hp := Kd hps
 clear h hps
 go_enter Tryz.func151, Tryz.ntmps151
 go_wp2_with (first
  | (go_at_call 172; refine (hk _).mono ?_; rintro e W1 ⟨rfl, hz1, hc1, hs1⟩)
  | (go_at_call 171; go_must (refine (Io (l.map (·.1)) (by simpa using hL) b l rfl H.out.nd _ _ hc1 (Hp.out.same hs1 (by simp)) s (fun xs hx => H.out.sort hx)).mono ?_; rintro e W2 ⟨v, rfl, hr2, hs2, hv2⟩)))
 go_ret
 exact ⟨_, rfl, hr2, hs1.trans hs2, fun b hb => by have := hv2 b hb; have := hs1.size; omega⟩
end Go.Proofs.YtbfbgfpghkijdaaGreatDoor
namespace Go.Proofs.YtbfbgfpghkijdaaGreatDoor
open Go.RowKit
theorem Ff.fold {l : List (Pr × Value)} {s : List Pr} (h : Ff l s) (ps : List Pr) : Ff (ps.foldl Cr l) (ps.foldl Fk s) := by
 induction ps generalizing l s with
 | nil => exact h
 | cons p ps ih => exact ih (h.put p)
theorem Qd (l : List (Pr × Value)) (p : Pr) : (Cr l p).length ≤ l.length + 1 := by
 unfold Cr
 split
 ·omega
 ·have := congrArg List.length (Gh (BB p) (Value.agg #[]) l)
  simp only [List.length_map] at this
  rw [this]
  split <;> simp
theorem zq114 {P : Prop} (h : P := by
 simp only [List.foldl_cons, List.length_cons]
 omega) : P := h
theorem Gg (ps : List Pr) : ∀ l : List (Pr × Value), (ps.foldl Cr l).length ≤ l.length + ps.length := by
 induction ps with
 | nil => intro l; simp
 | cons p ps ih =>
  intro l
  have h1 := ih (Cr l p)
  have h2 := Qd l p
  exact zq114
def Bw (a b : List Pr) : List Pr := b.foldl Fk (a.foldl Fk [])
theorem CG : ∀ (l : List Pr) (k : Nat) (h : k < l.length), ((AT l).drop (k * 2)).take 2 = BT l[k]
 | t :: l, 0, _ => by simp [AT, BT]
 | t :: l, k + 1, h => by
  have := CG l k (by simpa using h)
  rw [show (k + 1) * 2 = 2 + k * 2 by omega, ← List.drop_drop]
  have e : (AT (t :: l)).drop 2 = AT l := by simp [AT, BT]
  rw [e]
  simpa using this
def M6 (w : World) (b : Nat) (l0 : List (Pr × Value)) (ps : List Pr) (u : Value) (W : World) : Prop :=
 ∃ k : Nat, k ≤ ps.length ∧ u = .int .i64 k ∧ EY W b ((ps.take k).foldl Cr l0) ∧ Ad [] w W
theorem M6.step {w W W' : World} {b : Nat} {l0 : List (Pr × Value)} {ps : List Pr} {k : Nat} (hk : k < ps.length) (hs : Ad [] w W) (hb : w.heap.size ≤ b) (h : EY W' b (Cr ((ps.take k).foldl Cr l0) ps[k])) (hs' : Ad [b] W W') : M6 w b l0 ps (.int .i64 ((k : Int) + 1)) W' :=
 ⟨k + 1, hk, by go_num, by rw [List.take_succ_eq_append_getElem hk, List.foldl_append]; exact h, hs.then hs' (fun x hx => by simp at hx; subst hx; exact .inr hb)⟩
theorem zq68 {P : Prop} (h : P := by
 go_wp2_with (go_at_call 151; go_must (refine (hlist _ Hset'.out).mono ?_; rintro e W4 ⟨v4, rfl, hr4, hs4, hv4⟩))
 go_ret
 exact ⟨_, rfl, hr4, Hsm'.out.trans hs4, fun b hb => by have := hv4 b hb; have := Hsm'.out.size; omega⟩) : P := h
theorem zq86 {P : Prop} (h : P := by
 go_roundw
 case rel => exact M6.step hlt Hsm.out (Nat.le_refl _) Hset3.out ((Ad.alloc [w.heap.size] wr _).trans Hs3.out)
 case measure => simp [intOf]; omega) : P := h
theorem Ev (va vb : Value) (la lb : List Pr) (w : World) (ha : Row w 47 2 va la.length (AT la)) (hb : Row w 47 2 vb lb.length (AT lb)) (hn : la.length + lb.length ≤ 1000000) :
  Calls Tryz.prog 118 #[va, vb] w (GP (Bw la lb) w) := by
 have hmm := @run_makeMap Tryz.prog
 obtain ⟨Aa, ca, rfl⟩ := ha.shape
 obtain ⟨Ab, cb, rfl⟩ := hb.shape
 have Ha := Kd ha
 have Hb := Kd hb
 clear ha hb
 go_enter Tryz.func118, Tryz.ntmps118
 go_wp2
 have h0 : M6 w w.heap.size [] la (.int .i64 0) (w.alloc (.map #[] 0)) := ⟨0, Nat.zero_le _, rfl, Cn.new _ _ _, Ad.alloc _ _ _⟩
 have H0 := Kd h0
 clear h0
 go_loopw [13] (fun u wr => M6 w w.heap.size [] la u wr) (fun u _ => la.length - (intOf u).toNat)
 case atStart => exact H0.out
 case round =>
  obtain ⟨k, hk, rfl, hset, hsm⟩ := hrel
  by_cases hlt : k < la.length
  ·obtain ⟨g, c, hv, hcell⟩ := (Row.same (Ha).out hsm (by simp)).elem (i := k) hlt (ys := BT la[k]) rfl (CG la k hlt) (by decide)
   have t0 := (hcell 0 (by decide)).1
   have t1 := (hcell 1 (by decide)).1
   simp only [BT, List.getD_cons_zero, List.getD_cons_succ, Nat.add_zero] at t0 t1
   have Hset := Kd hset
   have Hsm := Kd hsm
   cases hv
   have hgl := World.block_lt_of_cell? _ _ t0
   clear hset hsm hcell
   have hput := fun W hW => EU w.heap.size ((la.take k).foldl Cr ([] : List (Pr × Value))) la[k] W hW
   go_wp2_with (go_at_call 150; go_must (refine (hput _ (Hset.out.same (Ad.alloc [] wr (.cells #[.int .i64 la[k].1, .int .i64 la[k].2] 47)) (by simp))).mono ?_; rintro e W3 ⟨⟨v3, rfl⟩, hset3, hs3⟩; have Hset3 := Kd hset3; have Hs3 := Kd hs3; clear hset3 hs3))
   exact zq86
  ·have hkk : k = la.length := by omega
   subst hkk
   rw [List.take_length] at hset
   have Hset := Kd hset
   have Hsm := Kd hsm
   clear hset hsm H0 hlt hk
   obtain ⟨w1, hw1⟩ : ∃ w1, w1 = wr := ⟨_, rfl⟩
   subst hw1
   go_wp2
   have h1 : M6 w w.heap.size (la.foldl Cr []) lb (.int .i64 0) w1 := ⟨0, Nat.zero_le _, rfl, Hset.out, Hsm.out⟩
   have H1 := Kd h1
   clear h1
   go_loopw [23] (fun u wr => M6 w w.heap.size (la.foldl Cr []) lb u wr) (fun u _ => lb.length - (intOf u).toNat)
   case atStart => exact H1.out
   case round =>
    obtain ⟨k, hk, rfl, hset, hsm⟩ := hrel
    by_cases hlt : k < lb.length
    ·obtain ⟨g, c, hv, hcell⟩ := (Row.same (Hb).out hsm (by simp)).elem (i := k) hlt (ys := BT lb[k]) rfl (CG lb k hlt) (by decide)
     have t0 := (hcell 0 (by decide)).1
     have t1 := (hcell 1 (by decide)).1
     simp only [BT, List.getD_cons_zero, List.getD_cons_succ, Nat.add_zero] at t0 t1
     have Hset := Kd hset
     have Hsm := Kd hsm
     cases hv
     have hgl := World.block_lt_of_cell? _ _ t0
     clear hset hsm hcell
     have hput := fun W hW => EU w.heap.size ((lb.take k).foldl Cr (la.foldl Cr [])) lb[k] W hW
     go_wp2_with (go_at_call 150; go_must (refine (hput _ (Hset.out.same (Ad.alloc [] wr (.cells #[.int .i64 lb[k].1, .int .i64 lb[k].2] 47)) (by simp))).mono ?_; rintro e W3 ⟨⟨v3, rfl⟩, hset3, hs3⟩; have Hset3 := Kd hset3; have Hs3 := Kd hs3; clear hset3 hs3))
     exact zq86
    ·have hkk : k = lb.length := by omega
     subst hkk
     rw [List.take_length] at hset
     have hlen := Gg lb (la.foldl Cr [])
     have hlen1 := Gg la []
     have hinv : Ff (lb.foldl Cr (la.foldl Cr [])) (Bw la lb) := (Ff.nil.fold la).fold lb
     have hlist := fun W hW => GH w.heap.size (lb.foldl Cr (la.foldl Cr [])) (Bw la lb) hinv (by simp at hlen1; omega) W hW
     have Hset' := Kd hset
     have Hsm' := Kd hsm
     clear hset hsm hinv hlen hlen1 hlt hk
     exact zq68
theorem Od (va : Value) (la : List Pr) (w : World) (ha : Row w 47 2 va la.length (AT la)) (hn : la.length ≤ 1000000) :
  Calls Tryz.prog 115 #[va] w (GP (Bw la []) w) := by
 have hu := Ev va (.slice none 0 0) la [] w ha (World.ownsRow_nil _ _ _ _) (by simpa using hn)
 obtain ⟨Aa, ca, rfl⟩ := ha.shape
 clear ha
 go_enter Tryz.func115, Tryz.ntmps115
 go_wp2_with (go_at_call 118; refine hu.mono ?_; rintro e W1 ⟨v, rfl, h⟩)
 go_ret
 exact ⟨_, rfl, h⟩
end Go.Proofs.YtbfbgfpghkijdaaGreatDoor
