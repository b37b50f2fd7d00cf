/- lemmalaw texts, part 26. -/
import Derived.Test.YtbfbgfpghkijdaaGreatDoorYaj
import Derived.Test.YtbfbgfpghkijdaaGreatDoorYal
import Derived.Test.YtbfbgfpghkijdaaGreatDoorYay
set_option maxRecDepth 100000
set_option linter.unusedVariables false
set_option linter.unusedSimpArgs false
set_option maxHeartbeats 32000000
namespace Go.Proofs.YtbfbgfpghkijdaaGreatDoor
open Go.RowKit
def stV (s : St) (wv pv : Value) : Value := .agg #[.int .i64 s.kind, .string s.label.text, .int .i64 s.label.at_.off, .int .i64 s.label.at_.line, .int .i64 s.label.at_.col, .string s.key.text, .int .i64 s.key.at_.off, .int .i64 s.key.at_.line, .int .i64 s.key.at_.col, .bool s.proving, wv, pv, .string s.end_.text, .int .i64 s.end_.at_.off, .int .i64 s.end_.at_.line, .int .i64 s.end_.at_.col]
def stO (s : St) (wv pv : Value) : Obj := .cells #[.int .i64 s.kind, .string s.label.text, .int .i64 s.label.at_.off, .int .i64 s.label.at_.line, .int .i64 s.label.at_.col, .string s.key.text, .int .i64 s.key.at_.off, .int .i64 s.key.at_.line, .int .i64 s.key.at_.col, .bool s.proving, wv, pv, .string s.end_.text, .int .i64 s.end_.at_.off, .int .i64 s.end_.at_.line, .int .i64 s.end_.at_.col] 98
theorem AF {w : World} {b : Nat} {s : St} {wv pv : Value} (h : w.heap[b]? = some (stO s wv pv)) : w.cell? ⟨b, 0, none⟩ = some (.int .i64 s.kind) ∧ w.cell? ⟨b, 1, none⟩ = some (.string s.label.text) ∧ w.cell? ⟨b, 2, none⟩ = some (.int .i64 s.label.at_.off) ∧ w.cell? ⟨b, 3, none⟩ = some (.int .i64 s.label.at_.line) ∧ w.cell? ⟨b, 4, none⟩ = some (.int .i64 s.label.at_.col) ∧
  w.cell? ⟨b, 5, none⟩ = some (.string s.key.text) ∧ w.cell? ⟨b, 6, none⟩ = some (.int .i64 s.key.at_.off) ∧ w.cell? ⟨b, 7, none⟩ = some (.int .i64 s.key.at_.line) ∧ w.cell? ⟨b, 8, none⟩ = some (.int .i64 s.key.at_.col) ∧ w.cell? ⟨b, 9, none⟩ = some (.bool s.proving) ∧ w.cell? ⟨b, 10, none⟩ = some wv ∧ w.cell? ⟨b, 11, none⟩ = some pv ∧
  w.cell? ⟨b, 12, none⟩ = some (.string s.end_.text) ∧ w.cell? ⟨b, 13, none⟩ = some (.int .i64 s.end_.at_.off) ∧ w.cell? ⟨b, 14, none⟩ = some (.int .i64 s.end_.at_.line) ∧ w.cell? ⟨b, 15, none⟩ = some (.int .i64 s.end_.at_.col) ∧ ∀ i, w.frozen? ⟨b, i, none⟩ = false := by
 unfold stO at h
 exact ⟨Ai h, Ai h, Ai h, Ai h, Ai h, Ai h, Ai h, Ai h, Ai h, Ai h, Ai h, Ai h, Ai h, Ai h, Ai h, Ai h, AE h⟩
theorem C6 (w : World) (t : Tk) (n : Nat) (h : n = 0) : Calls Tryz.prog 60 #[tkV t, .int .i64 n] w fun e w' => e = .returned (.tuple #[]) ∧ Ad [] w w' := by
 refine (J5 w t n).mono fun e w' hr => ?_
 rw [M2, if_pos h] at hr
 exact hr
theorem CI (w : World) (t : Tk) (n : Nat) (h : n ≠ 0) : Calls Tryz.prog 60 #[tkV t, .int .i64 n] w (Gu t n w) := by
 refine (J5 w t n).mono fun e w' hr => ?_
 rw [M2, if_neg h] at hr
 exact hr
def hyV (x : Hy) (ev : Value) : Value := .agg #[.string x.label, .bool x.floating, .int .i64 x.var, ev]
theorem Fz (w : World) (F : LF) (V : LV) (L : Ld) (h : BR w F V L) (hl : L.labels ≤ 1000000) (s : St) (Aw Ap : Option Addr) (nw cw np cp : Nat) (x : Hy) (hs : x.label.size ≤ maxLen) (ev : Value) (hv : Ds w (V.blocks F) ev x.expr) :
  Calls Tryz.prog 71 #[.pointer (some ⟨F.l, 0, none⟩), stV s (.slice Aw nw cw) (.slice Ap np cp), hyV x ev] w (LdX F V (L.hyp s x) w) := by
 have l0 := Ai (i := 0) (v := .pointer (some ⟨F.nb, 0, none⟩)) h.lb
 have l2 := Ai (i := 2) (v := .int .i64 L.labels) h.lb
 have lf := AE h.lb
 have ll := Af h.lb
 have n2 := Ai (i := 2) (v := .pointer (some ⟨F.t, 0, none⟩)) h.nbb
 have n6 := Ai (i := 6) (v := .map (some F.mh)) h.nbb
 have nl := Af h.nbb
 obtain ⟨Ae, ce, rfl⟩ := hv.row.shape
 have hlt := h.lt
 have H := Kd h
 have Hv := Kd hv
 have Hlt := Kd hlt
 unfold stV hyV
 clear h hv hlt
 go_enter Tryz.func71, Tryz.ntmps71
 go_wp2
 obtain ⟨W2, hW2⟩ : ∃ W2, ((w.setCell ⟨F.l, 2, none⟩ (.int .i64 ((L.labels : Int) + 1))).alloc (stO s (.slice Aw nw cw) (.slice Ap np cp))).alloc (.cells #[.string x.label, .bool x.floating, .int .i64 x.var, .slice Ae x.expr.length ce] 49) = W2 := ⟨_, rfl⟩
 have hW2' := hW2
 unfold stO at hW2'
 rw [hW2']
 have key : BR W2 F V { L with labels := L.labels + 1 } ∧ AN (V.blocks F) (V.blocks F) w W2 ∧ W2.heap[w.heap.size]? = some (stO s (.slice Aw nw cw) (.slice Ap np cp)) ∧ W2.heap[w.heap.size + 1]? = some (.cells #[.string x.label, .bool x.floating, .int .i64 x.var, .slice Ae x.expr.length ce] 49 (0, 0)) := by
  have hb1 := AI H.out.lb 2 (.int .i64 ((L.labels : Int) + 1))
  obtain ⟨h1, m1⟩ := H.out.setLabels (n := L.labels + 1) (by simpa using hb1) (Ad.setCell w _ _ (S := [F.l]) (by simp))
  have hz := Ba w ⟨F.l, 2, none⟩ (.int .i64 ((L.labels : Int) + 1))
  have hs2 : Ad [] (w.setCell ⟨F.l, 2, none⟩ (.int .i64 ((L.labels : Int) + 1))) W2 := by rw [← hW2]; exact (Ad.alloc _ _ _).trans (Ad.alloc _ _ _)
  refine ⟨h1.same hs2, m1.trans (AN.of_same hs2), ?_, ?_⟩
  ·rw [← hW2, ← hz]
   exact AR (Aj _ _) _
  ·have := Aj ((w.setCell ⟨F.l, 2, none⟩ (.int .i64 ((L.labels : Int) + 1))).alloc (stO s (.slice Aw nw cw) (.slice Ap np cp))) (.cells #[.string x.label, .bool x.floating, .int .i64 x.var, .slice Ae x.expr.length ce] 49)
   rw [AA, hz, hW2] at this
   exact this
 obtain ⟨hL2, hm2, hS2, hX2⟩ := key
 clear hW2 hW2' l0 l2 lf ll n2 n6 nl
 have l0 := Ai (i := 0) (v := .pointer (some ⟨F.nb, 0, none⟩)) hL2.lb
 have ll := Af hL2.lb
 have n2 := Ai (i := 2) (v := .pointer (some ⟨F.t, 0, none⟩)) hL2.nbb
 have n6 := Ai (i := 6) (v := .map (some F.mh)) hL2.nbb
 have nl := Af hL2.nbb
 obtain ⟨s0, s1, s2, s3, s4, s5, s6, s7, s8, s9, s10, s11, s12, s13, s14, s15, sf⟩ := AF hS2
 obtain ⟨x0, x1, x2, x3, xf⟩ := BV hX2
 have sl := Af hS2
 have xl := Af hX2
 have hlb := fun (W : World) (hW : Ad [] W2 W) => Ge W F.t V.TA L.tbl (hL2.tbl.same hW (by simp)) x.label hs
 have hnok := fun W n hn => C6 W s.label n hn
 have hnbad := fun W n hn => CI W s.label n hn
 unfold tkV at hnok hnbad
 have HL2 := Kd hL2
 have Hm2 := Kd hm2
 have HS2 := Kd hS2
 have HX2 := Kd hX2
 clear hL2 hm2 hS2 hX2
 refine Bg (.read 0 (.read 1 (.read 2 (.read 3 (.read 4 (.read 5 (.read 6 (.read 7 (.read 8 (.read 9 (.read 10 (.one 11 [0, 1] (.one 12 [] (.done)))))))))))))) (by kernel_rfl) (by kernel_rfl) ?_
 iterate 11 (refine Bv rfl (fun K hK => ?_); go_simp; (try go_bits); (try (rw [if_pos (by omega)]; go_simp)); refine hK _ ?_; clear hK K)
 refine AY rfl ?_
 go_wp2_with (go_at_call 124; go_must (refine (hlb _ (Ad.drew [] _)).mono ?_; rintro e3 W3 ⟨rfl, TA3, hT3, hm3⟩))
 obtain ⟨hL3, hmv3⟩ := (HL2.out.same (Ad.drew [] W2)).setTbl hT3 hm3
 dsimp only at hL3 hmv3
 have hmv03 := (Hm2.out.trans (AN.of_same (Ad.drew [] W2))).trans hmv3
 have hS3 := hm3.same.get ((Ad.drew [] W2).get HS2.out (by simp)) (fun hm => by have := HL2.out.tbl.lt _ hm; have h3 := Hlt.out _ (LV.mem.2 (.inr (.inr (.inr (.inr (.inr (.inr (.inl hm)))))))); omega)
 have hX3 := hm3.same.get ((Ad.drew [] W2).get HX2.out (by simp)) (fun hm => by have := HL2.out.tbl.lt _ hm; have h3 := Hlt.out _ (LV.mem.2 (.inr (.inr (.inr (.inr (.inr (.inr (.inl hm)))))))); omega)
 clear hT3 hm3 l0 ll n2 n6 nl x0 x1 x2 x3 xf xl s0 s1 s2 s3 s4 s5 s6 s7 s8 s9 s10 s11 s12 s13 s14 s15 sf sl
 have l0 := Ai (i := 0) (v := .pointer (some ⟨F.nb, 0, none⟩)) hL3.lb
 have ll := Af hL3.lb
 have n6 := Ai (i := 6) (v := .map (some F.mh)) hL3.nbb
 have nl := Af hL3.nbb
 obtain ⟨x0, x1, x2, x3, xf⟩ := BV hX3
 obtain ⟨s0, s1, s2, s3, s4, s5, s6, s7, s8, s9, s10, s11, s12, s13, s14, s15, sf⟩ := AF hS3
 have sl := Af hS3
 have xl := Af hX3
 have HL3 := Kd hL3
 have Hmv3 := Kd hmv03
 have HX3 := Kd hX3
 clear hL3 hmv3 hmv03 hX3 hS3
 refine EP.A ?_
 refine AY rfl ?_
 by_cases hz : (L.tbl.label x.label).1 = 0
 ·have hr : L.hyp s x = .ok { L with labels := L.labels + 1, tbl := (L.tbl.label x.label).2, hyps := Bd x.label x L.hyps } := by unfold Ld.hyp Bl; rw [if_pos hz]; rfl
  rw [hr]
  have HZ := Kd hz
  clear hz
  go_wp2_with (go_at_call 60; go_must (refine (hnok _ _ HZ.out).mono ?_; rintro e4 W4 ⟨rfl, hs4⟩))
  have hL4 := HL3.out.same hs4
  have hX4 := hs4.get HX3.out (by simp)
  have Hmv4 := Kd (Hmv3.out.trans (AN.of_same hs4))
  clear hs4 l0 ll n6 nl x0 x1 x2 x3 xf xl s0 s1 s2 s3 s4 s5 s6 s7 s8 s9 s10 s11 s12 s13 s14 s15 sf sl
  refine EP.A ?_
  refine Bz ?_
  have l0 := Ai (i := 0) (v := .pointer (some ⟨F.nb, 0, none⟩)) hL4.lb
  have ll := Af hL4.lb
  have n6 := Ai (i := 6) (v := .map (some F.mh)) hL4.nbb
  have nl := Af hL4.nbb
  obtain ⟨x0, x1, x2, x3, xf⟩ := BV hX4
  have xl := Af hX4
  have HL4 := Kd hL4
  clear hL4 hX4
  go_wp2
  refine AD (.read 0 (.read 1 (.read 2 (.read 3 (.read 4 (.read 5 (.read 6 (.read 7 (.read 8 (.read 9 (.one 10 [] (.done)))))))))))) (by kernel_rfl) (by kernel_rfl) ?_
  iterate 10 (refine An rfl (fun K hK => ?_); go_simp; (try go_bits); (try (rw [if_pos (by omega)]; go_simp)); refine hK _ ?_; clear hK K)
  refine Ak rfl ?_
  refine DH (HL4.out.hyps.same (Ad.drew [] _) (by simp)) Tryz.underlying85 Tryz.underlying9 rfl _ _ _ rfl x.label (.agg #[.string x.label, .bool x.floating, .int .i64 x.var, .slice Ae x.expr.length ce]) (by go_simp) (by go_simp) (by go_simp) ?_
  intro W5 hm5 hs5
  have hL5 := HL4.out.same (Ad.drew [] W4)
  have hv4 : Ds W4.drew (LV.blocks { V with TA := TA3 } F) (.slice Ae x.expr.length ce) x.expr := Hv.out.move (Hmv4.out.trans (AN.of_same (Ad.drew [] W4)))
  obtain ⟨hL6, hm6⟩ := hL5.setHyp x.label x hv4 hm5 hs5
  have Hm6 := Kd ((Hmv4.out.trans (AN.of_same (Ad.drew [] W4))).trans hm6)
  have HL6 := Kd hL6
  clear hL5 hv4 hL6 hm6
  go_wp2
  refine EQ.A ?_
  refine AB ?_
  go_wp2
  refine bodyPost_end (results_none rfl _ _ _) rfl ?_
  exact ⟨rfl, _, HL6.out, Hm6.out⟩
 ·have hr : L.hyp s x = .error (s.label, (L.tbl.label x.label).1) := by unfold Ld.hyp Bl; rw [if_neg hz]; rfl
  rw [hr]
  have HZ := Kd hz
  clear hz
  go_wp2_with (go_at_call 60; go_must (refine (hnbad _ _ HZ.out).mono ?_; rintro e4 W4 ⟨b, rfl, hf, hs4⟩))
  refine ⟨rfl, fun a' ha' => ⟨ha', ?_⟩⟩
  exact ⟨b, rfl, hf, Hmv3.out.same.then (hs4.mono (T := V.blocks F) (by simp)) fun _ hx => .inl hx⟩
structure Sub (w : World) (k : Nat) (v : Value) (n : Nat) (xs : List Value) : Prop where
 len : xs.length = n * k
 ex : ∃ g off c, v = .slice (some ⟨g, off, none⟩) n c ∧ n ≤ c ∧ g < w.heap.size ∧ ∀ j u, xs[j]? = some u → w.cell? ⟨g, off + j, none⟩ = some u
theorem Sub.same {w w' : World} {k n : Nat} {v : Value} {xs : List Value} (h : Sub w k v n xs) (hs : Ad [] w w') : Sub w' k v n xs := by
 obtain ⟨g, off, c, h1, h2, h3, h4⟩ := h.ex
 exact ⟨h.len, g, off, c, h1, h2, Nat.lt_of_lt_of_le h3 hs.size, fun j u hj => hs.cell (h4 j u hj) (by simp)⟩
theorem Sub.of_row {w : World} {e k n g c : Nat} {xs : List Value} (h : Row w e k (.slice (some ⟨g, 0, none⟩) n c) n xs) : Sub w k (.slice (some ⟨g, 0, none⟩) n c) n xs := by
 have hc : n ≤ c := by
  rcases h.2 with ⟨h1, _⟩ | ⟨g', cap, cur, h1, h2, h3, h4, _⟩
  ·simp at h1
  ·cases h1; exact h4
 refine ⟨h.1, g, 0, c, rfl, hc, h.lt rfl, fun j u hj => ?_⟩
 have hjl : j < n * k := by rw [← h.1]; exact (List.getElem?_eq_some_iff.1 hj).1
 obtain ⟨g', c', hv, h2, _⟩ := h.cell (j := j) hjl
 cases hv
 rw [Nat.zero_add, h2]
 simp [List.getD_eq_getElem?_getD, hj]
section
variable {P : Program} {ops : Array Oper} {rest : List Oper} {o : Oper} {a : Act} {Q : Exit → Act → World → Prop}
theorem Fa {W : World} (hgd : o.guard = none) (s x : Operand) (t : TypeId) (ho : o.op = .call { callee := .builtin .append, args := #[s, x], argTypes := #[t, t] })
  (e k bytes : Nat) (z : Value) (ht : P.underlying t = some (.slice e)) (hinfo : (P.info? e).map (fun i => (i.zero, i.size, i.bytes)) = some (some z, k, bytes)) (hz : z.cells.size = k) (hk : 0 < k)
  (v : Value) (n : Nat) (xs : List Value) (hs : a.eval s = v) (hown : Row W e k v n xs) (g off m c : Nat) (ys : List Value) (hx : a.eval x = .slice (some ⟨g, off, none⟩) m c) (hl : ys.length = m * k) (hsrc : ∀ j u, ys[j]? = some u → W.cell? ⟨g, off + j, none⟩ = some u) (h1 : ∀ u ∈ ys, u.oneCell' = true)
  (hn : (n + m) * bytes ≤ 140737488355328) (hb : 0 < bytes)
  (h : ∀ v' w', Row w' e k v' (n + m) (xs ++ ys) → Ad v.ownBlock.toList W w' → (v'.ownBlock = v.ownBlock ∨ ∃ b, v'.ownBlock = some b ∧ W.heap.size ≤ b) → wpList P ops Q rest (a.put o.dst v') w') :
  wpList P ops Q (o :: rest) a W := by
 obtain ⟨i, hi, hz0, hz1, hz2⟩ := Co hinfo
 have hlen : n + m ≤ 140737488355328 := Nat.le_trans (Nat.le_mul_of_pos_right _ hb) hn
 refine wpList_append_own_at _ hgd s x t ho 0 e i z k bytes ht hi hz0 hz1 hz2 hz hk v n xs hs hown ⟨g, off, none⟩ m c ys hx hl (fun j u hj => ?_) h1 (by simp only [maxLen]; omega) hn (Nat.zero_le _) ?_
 ·have e1 : (⟨g, off, none⟩ : Addr).add j = ⟨g, off + j, none⟩ := by unfold Addr.add; split <;> simp_all
  rw [e1]
  exact hsrc j u hj
 ·exact zq56
end
theorem EC (ws : List Tk) : (AC ws).length = ws.length * 4 := by
 induction ws with
 | nil => rfl
 | cons t r ih => simp [AC, Tk.cells, Ps.cells] at ih ⊢; omega
theorem HG : ∀ (ws : List Tk) (i : Nat), (AC ws).drop (i * 4) = AC (ws.drop i)
 | [], i => by simp [AC]
 | t :: r, 0 => by simp
 | t :: r, i + 1 => by
  rw [show (i + 1) * 4 = 4 + i * 4 by omega, ← List.drop_drop]
  have e : (AC (t :: r)).drop 4 = AC r := by simp [AC, Tk.cells, Ps.cells]
  rw [e, HG r i, List.drop_succ_cons]
theorem G1 : ∀ (ws : List Tk) (i : Nat), (AC ws).take (i * 4) = AC (ws.take i)
 | [], i => by simp [AC]
 | t :: r, 0 => by simp [AC]
 | t :: r, i + 1 => by
  have e : AC (t :: r) = t.cells ++ AC r := by simp [AC]
  have e2 : AC (t :: r.take i) = t.cells ++ AC (r.take i) := by simp [AC]
  rw [List.take_succ_cons, e, e2, ← G1 r i, List.take_append]
  have hl : t.cells.length = 4 := rfl
  rw [hl, List.take_of_length_le (by rw [hl]; omega), show (i + 1) * 4 - 4 = i * 4 by omega]
theorem Sub.drop {w : World} {g off n c : Nat} {ws : List Tk} (h : Sub w 4 (.slice (some ⟨g, off, none⟩) n c) n (AC ws)) {i : Nat} (hi : i ≤ n) : Sub w 4 (.slice (some ⟨g, off + i * 4, none⟩) (n - i) (c - i)) (n - i) (AC (ws.drop i)) := by
 obtain ⟨g', off', c', hv, h2, h3, h4⟩ := h.ex
 cases hv
 have hl := h.len
 rw [EC] at hl
 refine ⟨by rw [EC, List.length_drop]; omega, g, off + i * 4, c - i, rfl, by omega, h3, fun j u hj => ?_⟩
 rw [← HG, List.getElem?_drop] at hj
 have := h4 _ _ hj
 rw [show off + i * 4 + j = off + (i * 4 + j) by omega]
 exact this
theorem Sub.take {w : World} {g off n c : Nat} {ws : List Tk} (h : Sub w 4 (.slice (some ⟨g, off, none⟩) n c) n (AC ws)) {i : Nat} (hi : i ≤ n) : Sub w 4 (.slice (some ⟨g, off, none⟩) i c) i (AC (ws.take i)) := by
 obtain ⟨g', off', c', hv, h2, h3, h4⟩ := h.ex
 cases hv
 have hl := h.len
 rw [EC] at hl
 refine ⟨by rw [EC, List.length_take]; omega, g, off, c, rfl, by omega, h3, fun j u hj => ?_⟩
 rw [← G1, List.getElem?_take] at hj
 split at hj
 ·exact h4 _ _ hj
 ·cases hj
def Seg (w : World) (v : Value) (l : List Int) : Prop := (v = .slice none 0 0 ∧ l = []) ∨ Sub w 1 v l.length (Ay l)
theorem Seg.keep {S : List Nat} {w w' : World} {v : Value} {l : List Int} (h : Seg w v l) (hs : Ad S w w') (hv : ∀ b, v.ownBlock = some b → b ∉ S) : Seg w' v l := by
 rcases h with h | h
 ·exact .inl h
 ·obtain ⟨g, off, c, rfl, h2, h3, h4⟩ := h.ex
  exact .inr ⟨h.len, g, off, c, rfl, h2, Nat.lt_of_lt_of_le h3 hs.size, fun j u hj => hs.cell (h4 j u hj) (hv g rfl)⟩
theorem Seg.same {w w' : World} {v : Value} {l : List Int} (h : Seg w v l) (hs : Ad [] w w') : Seg w' v l := h.keep hs (by simp)
theorem Seg.of_row {w : World} {v : Value} {l : List Int} {n : Nat} (h : Row w 3 1 v n (Ay l)) : Seg w v l := by
 have hn : n = l.length := by have := h.1; rw [AQ] at this; omega
 subst hn
 obtain ⟨A, c, hv⟩ := h.shape
 rcases h.2 with ⟨h1, h2⟩ | ⟨g, cap, cur, h1, _⟩
 ·exact .inl ⟨h1, List.eq_nil_of_length_eq_zero h2⟩
 ·subst h1; exact .inr (Sub.of_row h)
theorem Seg.nil (w : World) : Seg w (.slice none 0 0) [] := .inl ⟨rfl, rfl⟩
theorem zq96 {P : Prop} (h : P := by
 obtain ⟨g, off, c, rfl, _⟩ := h.ex; exact ⟨_, c, rfl⟩) : P := h
theorem Seg.shape {w : World} {v : Value} {l : List Int} (h : Seg w v l) : ∃ A c, v = .slice A l.length c := by
 rcases h with ⟨rfl, rfl⟩ | h
 ·exact ⟨none, 0, rfl⟩
 ·exact zq96
theorem Seg.lt {w : World} {v : Value} {l : List Int} (h : Seg w v l) {b : Nat} (hb : v.ownBlock = some b) : b < w.heap.size := by
 rcases h with ⟨rfl, rfl⟩ | h
 ·cases hb
 ·obtain ⟨g, off, c, rfl, _, h3, _⟩ := h.ex; cases hb; exact h3
theorem Seg.cap {w : World} {A : Option Addr} {n c : Nat} {l : List Int} (h : Seg w (.slice A n c) l) : n = l.length ∧ n ≤ c := by
 rcases h with ⟨h1, rfl⟩ | h
 ·cases h1; exact ⟨rfl, Nat.le_refl _⟩
 ·obtain ⟨g, off, c', h1, h2, _⟩ := h.ex; cases h1; exact ⟨rfl, h2⟩
theorem Seg.cell {w : World} {A : Option Addr} {n c : Nat} {l : List Int} (h : Seg w (.slice A n c) l) {k : Nat} (hk : k < l.length) : ∃ g off, A = some ⟨g, off, none⟩ ∧ w.cell? ⟨g, off + k, none⟩ = some (.int .i64 l[k]) ∧ g < w.heap.size := by
 rcases h with ⟨h1, rfl⟩ | h
 ·simp at hk
 ·obtain ⟨g, off, c', h1, h2, h3, h4⟩ := h.ex
  cases h1
  exact ⟨g, off, rfl, h4 k _ (by simp [Ay, hk]), h3⟩
theorem Seg.row {w : World} {v : Value} {l : List Int} (h : Seg w v l) : (v = .slice none 0 0 ∧ l = []) ∨ ∃ g off c, v = .slice (some ⟨g, off, none⟩) l.length c ∧ l.length ≤ c ∧ ∀ j u, (Ay l)[j]? = some u → w.cell? ⟨g, off + j, none⟩ = some u := by
 rcases h with h | h
 ·exact .inl h
 ·obtain ⟨g, off, c, rfl, h2, h3, h4⟩ := h.ex
  exact .inr ⟨g, off, c, rfl, h2, h4⟩
theorem Seg.cut {w : World} {A : Option Addr} {n c : Nat} {l : List Int} (h : Seg w (.slice A n c) l) {lo hi : Nat} (h1 : lo ≤ hi) (h2 : hi ≤ l.length) : Seg w (sliced A lo hi c 1) ((l.take hi).drop lo) := by
 have hl : ((l.take hi).drop lo).length = hi - lo := by simp [List.length_drop, List.length_take]; omega
 rcases h with ⟨h3, rfl⟩ | h
 ·cases h3
  simp at h2
  subst h2
  have : lo = 0 := by omega
  subst this
  exact .inl ⟨by simp [sliced], by simp⟩
 ·obtain ⟨g, off, c', h3, h4, h5, h6⟩ := h.ex
  cases h3
  right
  by_cases hc : c = lo
  ·have e0 : hi - lo = 0 := by omega
   refine ⟨by rw [AQ]; omega, g, off, 0, ?_, by omega, h5, fun j u hj => ?_⟩
   ·simp [sliced, hc, hl, e0]
   ·have : (Ay ((l.take hi).drop lo)).length = 0 := by rw [AQ]; omega
    rw [List.eq_nil_of_length_eq_zero this] at hj
    simp at hj
  ·refine ⟨by rw [AQ]; omega, g, off + lo, c - lo, ?_, by omega, h5, fun j u hj => ?_⟩
   ·simp [sliced, hc, hl, Addr.add]
   ·have hj' : (Ay l)[lo + j]? = some u := by
     unfold Ay at hj ⊢
     rw [List.getElem?_map, List.getElem?_drop, List.getElem?_take] at hj
     rw [List.getElem?_map]
     split at hj
     ·exact hj
     ·simp at hj
    rw [Nat.add_assoc]
    exact h6 _ _ hj'
section
variable {P : Program} {ops : Array Oper} {rest : List Oper} {o : Oper} {a : Act} {Q : Exit → Act → World → Prop} {w : World}
theorem QC {t : TypeId} (ht : P.underlying t = some (.slice (P.elem t))) (hz : ∀ w, (sizeOf (P.elem t)).run P w = .ok 1 w) {A : Option Addr} {n c : Nat} {l : List Int} (h : Seg w (.slice A n c) l) (lo hi : Option Value) (i j : Nat)
  (hlo : (lo = none ∧ i = 0) ∨ lo = some (.int .i64 i)) (hhi : (hi = none ∧ j = l.length) ∨ hi = some (.int .i64 j)) (h1 : i ≤ j) (h2 : j ≤ l.length) :
  (Instr.slice t (.slice A n c) lo hi none).run P w = .ok (sliced A i j c 1) w ∧ Seg w (sliced A i j c 1) ((l.take j).drop i) := by
 obtain ⟨rfl, hc⟩ := h.cap
 refine ⟨?_, h.cut h1 h2⟩
 rcases hlo with ⟨rfl, rfl⟩ | rfl <;> rcases hhi with ⟨rfl, rfl⟩ | rfl
 ·rw [run_slice_all w t A l.length c ht]; simp [hz]
 ·rw [run_slice_h w t A l.length c ht .i64 j (by omega) (by omega)]; simp [hz]
 ·rw [run_slice_l w t A l.length c ht .i64 i (by omega) (by omega)]; simp [hz]
 ·rw [run_slice_lh w t A l.length c ht .i64 .i64 i j (by omega) (by omega) (by omega)]; simp [hz]
theorem I8 {t : TypeId} (ht : P.underlying t = some (.slice (P.elem t))) (hz : ∀ w, (sizeOf (P.elem t)).run P w = .ok 1 w) (x : Operand) (lo hi : Option Operand) (hop : o.op = .slice t x lo hi none) (hw : Region.wanted o (yielded ops a.tmps) = true)
  {A : Option Addr} {n c : Nat} {l : List Int} (hx : a.eval x = .slice A n c) (h : Seg w (.slice A n c) l) (i j : Nat) (hlo : (lo.map a.eval = none ∧ i = 0) ∨ lo.map a.eval = some (.int .i64 i)) (hhi : (hi.map a.eval = none ∧ j = l.length) ∨ hi.map a.eval = some (.int .i64 j)) (h1 : i ≤ j) (h2 : j ≤ l.length)
  (hK : ∀ A' c', Seg w (.slice A' (j - i) c') ((l.take j).drop i) → wpList P ops Q rest (a.put o.dst (.slice A' (j - i) c')) w) : wpList P ops Q (o :: rest) a w := by
 refine wpList_step fun K' hK' => ?_
 rw [if_pos hw]
 obtain ⟨r1, r2⟩ := QC ht hz h (lo.map a.eval) (hi.map a.eval) i j hlo hhi h1 h2
 have hn : ((l.take j).drop i).length = j - i := by simp [List.length_drop, List.length_take]; omega
 unfold Oper.wp
 simp [execOp, hop, hx, run_sliceAt_slice (h := ht), r1, Result.andThen]
 refine hK' _ _ ?_
 obtain ⟨A', c', e⟩ := r2.shape
 rw [e, hn] at r2 ⊢
 exact hK A' c' r2
end
theorem Tryz.elemInts : Tryz.prog.underlying 24 = some (.slice (Tryz.prog.elem 24)) := by kernel_rfl
theorem Tryz.sizeInts : ∀ w, (sizeOf (Tryz.prog.elem 24)).run Tryz.prog w = .ok 1 w := fun w => by
 have e : Tryz.prog.elem 24 = 3 := by kernel_rfl
 rw [e]
 exact Tryz.sizeOf3 w
section
variable {P : Program} {ops : Array Oper} {rest : List Oper} {o : Oper} {a : Act} {Q : Exit → Act → World → Prop}
theorem L7 {W : World} (hgd : o.guard = none) (s x : Operand) (t : TypeId) (ho : o.op = .call { callee := .builtin .append, args := #[s, x], argTypes := #[t, t] })
  (e k bytes : Nat) (z : Value) (ht : P.underlying t = some (.slice e)) (hinfo : (P.info? e).map (fun i => (i.zero, i.size, i.bytes)) = some (some z, k, bytes)) (hz : z.cells.size = k) (hk : 0 < k)
  (v : Value) (n : Nat) (xs : List Value) (b : Nat) (hs : a.eval s = v) (hx : a.eval x = .slice (some ⟨b, 0, none⟩) 1 1) (hown : Row W e k v n xs) (ys : List Value) (hb0 : W.heap[b]? = some (.cells ys.toArray e)) (hl : ys.length = k) (h1 : ∀ u ∈ ys, u.oneCell' = true)
  (hn : (n + 1) * bytes ≤ 140737488355328) (hb : 0 < bytes)
  (h : ∀ v' w', Row w' e k v' (n + 1) (xs ++ ys) → Ad v.ownBlock.toList W w' → (v'.ownBlock = v.ownBlock ∨ ∃ b, v'.ownBlock = some b ∧ W.heap.size ≤ b) → wpList P ops Q rest (a.put o.dst v') w') :
  wpList P ops Q (o :: rest) a W := by
 obtain ⟨i, hi, hz0, hz1, hz2⟩ := Co hinfo
 have hlen : n + 1 ≤ 140737488355328 := Nat.le_trans (Nat.le_mul_of_pos_right _ hb) hn
 refine wpList_append_own_at _ hgd s x t ho 0 e i z k bytes ht hi hz0 hz1 hz2 hz hk v n xs hs hown ⟨b, 0, none⟩ 1 1 ys hx (by simpa using hl) (World.news_of_block (cs := ys.toArray) hb0) h1 (by simp only [maxLen]; omega) hn (Nat.zero_le _) ?_
 exact zq56
end
section
variable {ops : Array Oper} {rest : List Oper} {o : Oper} {a : Act} {Q : Exit → Act → World → Prop}
theorem L2 {W : World} (hgd : o.guard = none) (s x : Operand) (ho : o.op = .call { callee := .builtin .append, args := #[s, x], argTypes := #[24, 24] })
  (v : Value) (n : Nat) (xs : List Value) (hs : a.eval s = v) (hown : Row W 3 1 v n xs) (vs : Value) (l : List Int) (hx : a.eval x = vs) (hseg : Seg W vs l) (hn : n + l.length ≤ 10000000)
  (h : ∀ v' w', Row w' 3 1 v' (n + l.length) (xs ++ Ay l) → Ad v.ownBlock.toList W w' → (v'.ownBlock = v.ownBlock ∨ ∃ b, v'.ownBlock = some b ∧ W.heap.size ≤ b) → wpList Tryz.prog ops Q rest (a.put o.dst v') w') :
  wpList Tryz.prog ops Q (o :: rest) a W := by
 rcases hseg.row with ⟨rfl, rfl⟩ | ⟨g, off, c, rfl, h2, h4⟩
 ·obtain ⟨i, hi, hz0, hz1, hz2⟩ := Co Tryz.infoInt'
  refine wpList_plain hgd fun K hK => ?_
  have hr := run_append_owned_none (P := Tryz.prog) W 0 24 o.type 3 i 1 Tryz.underlying24 hi v n xs hown
  unfold Oper.wp execOp
  simp only [ho, resolve, invoke, builtin, Sem.run_bind, Sem.run_pure, Result.andThen_ok, List.map_toArray, List.map_cons, List.map_nil, hs, hx, hr]
  refine hK _ _ (h v W ?_ (Ad.refl _ _) (.inl rfl))
  have e : xs ++ Ay [] = xs := by simp [Ay]
  rw [e]
  exact hown
 ·refine Fa hgd s x 24 ho 3 1 8 _ Tryz.underlying24 Tryz.infoInt' rfl (by decide) v n xs hs hown g off l.length c (Ay l) hx (by rw [AQ, Nat.mul_one]) h4 (En l) (by omega) (by decide) h
end
theorem Cb (v : Value) (l : List Int) (w : World) (h : Seg w v l) (hn : l.length ≤ 1000000) : Calls Tryz.prog 51 #[v] w (Rb l w) := by
 have h1 := En l
 rcases h.row with ⟨rfl, rfl⟩ | ⟨g, off, cap, rfl, h2, h4⟩
 ·have hnil := fun w => Lib.run_eql_slice_nil (P := Tryz.prog) w _ _ none 0 0 0 0 Tryz.underlying24
  clear h h1
  go_enter Tryz.func51, Tryz.ntmps51
  exact zq50
 ·have H1 := Kd h1
  have H4 := Kd h4
  have hnil := fun w => Lib.run_eql_slice_nil (P := Tryz.prog) w _ _ (some ⟨g, off, none⟩) l.length cap 0 0 Tryz.underlying24
  clear h h1 h4
  go_enter Tryz.func51, Tryz.ntmps51
  go_wp2_with (at_builtin; go_must (refine Fa rfl _ _ 24 rfl 3 1 8 _ Tryz.underlying24 Tryz.infoInt' rfl (by decide) (.slice (some ⟨w.heap.size, 0, none⟩) 0 0) 0 [] rfl (EZ w _ _) g off l.length cap (Ay l) rfl (by rw [AQ, Nat.mul_one]) (fun j u hj => (Ad.alloc [] w _).cell (H4.out j u hj) (by simp)) H1.out (by omega) (by decide) ?_; intro v1 w1 hr1 hs1 ho1; obtain ⟨A1, c1, rfl⟩ := hr1.shape))
  rw [List.nil_append] at hr1
  simp only [Nat.zero_add] at hr1 ho1 ⊢
  go_ret
  refine ⟨.slice A1 l.length c1, rfl, hr1, (Ad.alloc [] w _).then hs1 (fun x hx => .inr (by simp [Value.ownBlock] at hx; omega)), fun b hb => ?_⟩
  rcases ho1 with ho | ⟨c, hc, hle⟩
  ·rw [ho] at hb; simp [Value.ownBlock] at hb; omega
  ·rw [hc] at hb; cases hb; simp at hle; omega
theorem NZ (w : World) (va vb : Value) (la lb : List Int) (ha : Seg w va la) (hb : Seg w vb lb) (hla : la.length ≤ 1000000) (hlb : lb.length ≤ 1000000) :
  Calls Tryz.prog 164 #[va, vb] w fun e w' => e = .returned (.bool (decide (la = lb))) ∧ w' = w := by
 obtain ⟨A1, c1, rfl⟩ := ha.shape
 obtain ⟨A2, c2, rfl⟩ := hb.shape
 have Ha := Kd ha
 have Hb := Kd hb
 clear ha hb
 by_cases hl : la.length = lb.length
 ·have Hl := Kd hl
  have hli : ((la.length : Int) != (lb.length : Int)) = false := by simp [hl]
  clear hl
  go_enter Tryz.func164, Tryz.ntmps164
  go_wp2
  go_loop [14] (fun u => ∃ k : Nat, k ≤ la.length ∧ u = .int .i64 k ∧ la.take k = lb.take k) (fun u => la.length - (intOf u).toNat)
  case atStart => exact ⟨0, Nat.zero_le _, rfl, by simp⟩
  case round =>
   obtain ⟨k, hk, rfl, htk⟩ := hrel
   by_cases hlt : k < la.length
   ·have hlb : k < lb.length := by rw [← Hl.out]; exact hlt
    obtain ⟨g1, o1, rfl, x1, hg1⟩ := Ha.out.cell hlt
    obtain ⟨g2, o2, rfl, y1, hg2⟩ := Hb.out.cell hlb
    have e1 : la.take (k + 1) = la.take k ++ [la[k]] := List.take_succ_eq_append_getElem hlt
    have e2 : lb.take (k + 1) = lb.take k ++ [lb[k]] := List.take_succ_eq_append_getElem hlb
    by_cases he : la[k] = lb[k]
    ·rw [← he] at y1 e2
     have Htk : Hid (la.take (k + 1) = lb.take (k + 1)) := Kd (by rw [e1, e2, htk])
     clear he e1 e2 htk
     go_wp2
     go_round
     case rel => exact ⟨k + 1, hlt, by go_num, Htk.out⟩
     case measure => simp [intOf]; omega
    ·have hd : decide (la = lb) = false := decide_eq_false fun e => he (by subst e; rfl)
     have hb : (la[k] != lb[k]) = true := by simpa using he
     have Hd := Kd hd
     generalize la[k] = a at x1 hb
     generalize lb[k] = b at y1 hb
     clear he e1 e2 htk hd
     go_wp2
     go_ret
     exact ⟨by rw [Hd.out]; rfl, rfl⟩
   ·have hkk : k = la.length := by omega
    subst hkk
    have hd : decide (la = lb) = true := decide_eq_true (by rw [List.take_length, Hl.out, List.take_length] at htk; exact htk)
    have Hd := Kd hd
    clear hd htk
    go_wp2
    go_ret
    exact ⟨by rw [Hd.out]; rfl, rfl⟩
 ·have hd : decide (la = lb) = false := decide_eq_false fun e => hl (by rw [e])
  rw [hd]
  have hli : ((la.length : Int) != (lb.length : Int)) = true := by simp; omega
  clear hl hd
  go_enter Tryz.func164, Tryz.ntmps164
  go_wp2
  go_ret
  exact ⟨rfl, rfl⟩
theorem FY (w : World) (va vb : Value) (la lb : List Int) (ha : Seg w va la) (hb : Seg w vb lb) (hla : la.length ≤ 1000000) (hlb : lb.length ≤ 1000000) :
  Calls Tryz.prog 140 #[va, vb] w fun e w' => e = .returned (.bool (decide (la = lb))) ∧ w' = w := by
 have hc := NZ w va vb la lb ha hb hla hlb
 clear ha hb
 go_enter Tryz.func140, Tryz.ntmps140
 go_wp2_with (go_at_call 164; go_must (refine hc.mono ?_; rintro e w' ⟨rfl, hw⟩; have hw2 := hw.symm; subst hw2; clear hw))
 go_ret
 exact ⟨rfl, rfl⟩
end Go.Proofs.YtbfbgfpghkijdaaGreatDoor
namespace Go.Proofs.YtbfbgfpghkijdaaGreatDoor
structure Stk where
 entries : List (List Int)
 peak : Nat
 count : Nat
abbrev Bx := List (Int × List Int)
def BH (s : Bx) (x : Int) : List Int := (AJ x s).getD [x]
def A0 (s : Bx) (e : List Int) : List Int := e.flatMap (BH s)
def Bp : List Hy → List (List Int) → Option Bx
 | [], _ => some []
 | _ :: _, [] => none
 | h :: f, e :: l => if h.floating = false then Bp f l else
  match e with
  | [] => none
  | x :: r => if x = h.expr.headD 0 then (Bp f l).map ((h.var, r) :: ·) else none
def BO (s : Bx) : List Hy → List (List Int) → Bool
 | h :: f, e :: l => (h.floating || A0 s h.expr == e) && BO s f l
 | _, _ => true
def Fy (l : List Pr) (p : Pr) : Bool := l.any fun q => q.1 != q.2 && BB q == BB p
def C8 (vars : Int → Bool) (l : List Pr) (s : Bx) (p : Pr) : Bool := (Cu (BH s p.1) vars).all fun v => (Cu (BH s p.2) vars).all fun w => v != w && Fy l (v, w)
def Stk.lay (m : Stk) (e : List Int) : Stk := ⟨m.entries ++ [e], max m.peak (m.entries.length + 1), m.count⟩
def Stk.push (m : Stk) (e : List Int) : Nat × Stk := if 40 ≤ m.entries.length then (117, m) else (0, m.lay e)
def Stk.applied (m : Stk) (n : Nat) (e : List Int) : Stk := { (({ m with entries := m.entries.take n } : Stk).lay e) with count := m.count + 1 }
def Stk.apply (vars : Int → Bool) (l : List Pr) (m : Stk) (hyps : List Hy) (pairs : List Pr) (goal : List Int) : Nat × Stk :=
 if m.entries.length < hyps.length then (113, m) else
 match Bp hyps (m.entries.drop (m.entries.length - hyps.length)) with
 | none => (114, m)
 | some s =>
  if ¬ (s.map (·.1)).Nodup then (114, m)
  else if BO s hyps (m.entries.drop (m.entries.length - hyps.length)) = false then (115, m)
  else if pairs.all (C8 vars l s) = false then (116, m)
  else if 200 < (A0 s goal).length then (31, m)
  else if 40 ≤ m.entries.length - hyps.length then (117, m)
  else (0, m.applied (m.entries.length - hyps.length) (A0 s goal))
structure Cx where
 hyps : List Hy
 pairs : List Pr
 before : Int
 goal : List Int
inductive Stp where
 | hyp (h : Hy)
 | asr (a : Asr)
def Bs.step (B : Bs) (c : Cx) (s : ByteArray) : Except Nat Stp :=
 match c.hyps.find? (fun h => decide (h.label = s)) with
 | some h => .ok (.hyp h)
 | none => match AJ s B.ld.finds with
  | some n => if c.before ≤ n then .error 111 else match B.ld.asserts[n]? with | some a => .ok (.asr a) | none => .error 0
  | none => if (AJ s B.ld.hyps).isSome then .error 112 else .error 110
def Bs.word (B : Bs) (vars : Int → Bool) (c : Cx) (i : Nat) (t : Tk) (m : Stk) : Nat × Stk :=
 if i = 4000 then (104, m) else if t.text = "?".toUTF8 then (105, m)
 else match B.step c t.text with
  | .error e => (e, m)
  | .ok (.hyp h) => m.push h.expr
  | .ok (.asr a) => m.apply vars c.pairs a.hyps a.pairs a.goal
structure Vd where
 code : Nat
 at_ : Tk
 count : Nat
 peak : Nat
def Bs.runGo (B : Bs) (vars : Int → Bool) (c : Cx) (e : Tk) : Nat → List Tk → Stk → Vd
 | _, [], m => if m.entries.length ≠ 1 then ⟨118, e, m.count, m.peak⟩ else if m.entries.headD [] ≠ c.goal then ⟨119, e, m.count, m.peak⟩ else ⟨0, Tk.none, m.count, m.peak⟩
 | i, t :: l, m => if (B.word vars c i t m).1 ≠ 0 then ⟨(B.word vars c i t m).1, t, (B.word vars c i t m).2.count, (B.word vars c i t m).2.peak⟩ else B.runGo vars c e (i + 1) l (B.word vars c i t m).2
def Bs.run (B : Bs) (vars : Int → Bool) (c : Cx) (l : List Tk) (e : Tk) : Vd := B.runGo vars c e 0 l ⟨[], 0, 0⟩
theorem IJ {B : Bs} {vars : Int → Bool} {c : Cx} {e e' : Tk} : ∀ (l : List Tk) (i : Nat) (m : Stk) (l' : List Tk), (B.runGo vars c e i l m).code ≠ 0 →
  (∃ k, ∃ h : k < l.length, (B.runGo vars c e i l m).at_ = l[k] ∧ B.runGo vars c e' i (l.take (k + 1) ++ l') m = B.runGo vars c e i l m) ∨ (B.runGo vars c e i l m).at_ = e
 | [], i, m, l', h => by
  simp only [Bs.runGo] at h ⊢
  right
  split
  ·rfl
  ·rename_i h1; rw [if_neg h1] at h
   split
   ·rfl
   ·rename_i h2; rw [if_neg h2] at h; exact absurd rfl h
 | t :: l, i, m, l', h => by
  simp only [Bs.runGo] at h ⊢
  by_cases hw : (B.word vars c i t m).1 ≠ 0
  ·rw [if_pos hw]
   refine .inl ⟨0, by simp, rfl, ?_⟩
   simp only [List.take_succ_cons, List.take_zero, List.cons_append, List.nil_append, Bs.runGo]
   rw [if_pos hw]
  ·rw [if_neg hw] at h ⊢
   rcases IJ l (i + 1) _ l' h with ⟨k, hk, h1, h2⟩ | h1
   ·refine .inl ⟨k + 1, by simp; omega, by simpa using h1, ?_⟩
    simp only [List.take_succ_cons, List.cons_append, Bs.runGo]
    rw [if_neg hw]
    exact h2
   ·exact .inr h1
structure Cx.More (B : Bs) (c c' : Cx) : Prop where
 hyps : ∀ s : ByteArray, c.hyps.find? (fun h => decide (h.label = s)) = none → (AJ s B.ld.finds).isSome = true → c'.hyps.find? (fun h => decide (h.label = s)) = none
 keep : ∀ s h, c.hyps.find? (fun h => decide (h.label = s)) = some h → c'.hyps.find? (fun h => decide (h.label = s)) = some h
 pairs : ∀ p, Fy c.pairs p = true → Fy c'.pairs p = true
 before : c.before ≤ c'.before
 goal : c'.goal = c.goal
theorem Mg {vars : Int → Bool} {l l' : List Pr} (h : ∀ p, Fy l p = true → Fy l' p = true) {s : Bx} {p : Pr} (ha : C8 vars l s p = true) : C8 vars l' s p = true := by
 unfold C8 at ha ⊢
 simp only [List.all_eq_true, Bool.and_eq_true] at ha ⊢
 exact fun v hv w hw => ⟨(ha v hv w hw).1, h _ (ha v hv w hw).2⟩
theorem NY {vars : Int → Bool} {l l' : List Pr} (h : ∀ p, Fy l p = true → Fy l' p = true) {m : Stk} {f : List Hy} {ps : List Pr} {g : List Int} (ha : (m.apply vars l f ps g).1 = 0) : m.apply vars l' f ps g = m.apply vars l f ps g := by
 unfold Stk.apply at ha ⊢
 split
 ·rfl
 ·rename_i h1
  rw [if_neg h1] at ha
  cases hb : Bp f (m.entries.drop (m.entries.length - f.length)) with
  | none => rfl
  | some s =>
   rw [hb] at ha
   dsimp only at ha ⊢
   by_cases h2 : ¬ (s.map (·.1)).Nodup
   ·rw [if_pos h2, if_pos h2]
   ·rw [if_neg h2] at ha; rw [if_neg h2, if_neg h2]
    by_cases h3 : BO s f (m.entries.drop (m.entries.length - f.length)) = false
    ·rw [if_pos h3, if_pos h3]
    ·rw [if_neg h3] at ha; rw [if_neg h3, if_neg h3]
     by_cases h4 : ps.all (C8 vars l s) = false
     ·rw [if_pos h4] at ha; cases ha
     ·have h5 : ¬ ps.all (C8 vars l' s) = false := by
       rw [Bool.not_eq_false] at h4 ⊢
       rw [List.all_eq_true] at h4 ⊢
       exact fun p hp => Mg h (h4 p hp)
      rw [if_neg h4, if_neg h5]
theorem Pd {B : Bs} {vars : Int → Bool} {c c' : Cx} (h : c.More B c') {i : Nat} {t : Tk} {m : Stk} (ha : (B.word vars c i t m).1 = 0) (hx : ∀ e, B.step c t.text = .error e → e ≠ 0) : B.word vars c' i t m = B.word vars c i t m := by
 unfold Bs.word at ha ⊢
 split
 ·rfl
 ·rename_i h1; rw [if_neg h1] at ha
  split
  ·rfl
  ·rename_i h2; rw [if_neg h2] at ha
   cases hs : B.step c t.text with
   | error e => rw [hs] at ha; exact absurd ha (hx e hs)
   | ok x =>
    have hs' : B.step c' t.text = .ok x := by
     unfold Bs.step at hs ⊢
     cases hf : c.hyps.find? (fun h => decide (h.label = t.text)) with
     | some y => rw [hf] at hs; rw [h.keep _ _ hf]; exact hs
     | none =>
      rw [hf] at hs
      dsimp only at hs
      cases hg : AJ t.text B.ld.finds with
      | none => rw [hg] at hs; dsimp only at hs; split at hs <;> cases hs
      | some n =>
       rw [hg] at hs
       dsimp only at hs
       rw [h.hyps _ hf (by rw [hg]; rfl)]
       dsimp only
       split at hs
       ·cases hs
       ·rename_i h3
        have := h.before
        rw [if_neg (by omega)]; exact hs
    rw [hs']
    rw [hs] at ha
    cases x with
    | hyp y => rfl
    | asr a => exact NY h.pairs ha
theorem Jy {B : Bs} {vars : Int → Bool} {c c' : Cx} (h : c.More B c') {e : Tk} (hx : ∀ s e, B.step c s = .error e → e ≠ 0) : ∀ (l : List Tk) (i : Nat) (m : Stk), (B.runGo vars c e i l m).code = 0 → B.runGo vars c' e i l m = B.runGo vars c e i l m
 | [], i, m, ha => by simp only [Bs.runGo, h.goal]
 | t :: l, i, m, ha => by
  simp only [Bs.runGo] at ha ⊢
  by_cases hw : (B.word vars c i t m).1 ≠ 0
  ·rw [if_pos hw] at ha; exact absurd ha hw
  ·rw [if_neg hw] at ha
   have := Pd (vars := vars) (i := i) (m := m) h (Decidable.not_not.1 hw) (hx t.text)
   rw [this, if_neg hw, if_neg hw]
   exact Jy h hx l (i + 1) _ ha
end Go.Proofs.YtbfbgfpghkijdaaGreatDoor
