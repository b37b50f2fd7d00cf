/- lemmalaw texts, part 44. -/
import Derived.Test.YtbfbgfpghkijdaaGreatDoorYbq
set_option maxRecDepth 100000
set_option linter.unusedVariables false
set_option linter.unusedSimpArgs false
set_option maxHeartbeats 32000000
namespace Go.Proofs.YtbfbgfpghkijdaaGreatDoor
open Go.RowKit
def asZ : Value := .agg #[.int .i64 0, .string ⟨#[]⟩, .bool false, .slice none 0 0, .slice none 0 0, .slice none 0 0, .slice none 0 0, .slice none 0 0, .slice none 0 0, .string ⟨#[]⟩, .int .i64 0, .int .i64 0, .int .i64 0, .string ⟨#[]⟩, .int .i64 0, .int .i64 0, .int .i64 0]
def Ra (B : Bs) (c : Cx) (s : ByteArray) (w : World) (e : Ending) (w' : World) : Prop :=
 Ad [] w w' ∧ match B.step c s with
 | .error n => e = .returned (.tuple #[hy0, asZ, .bool false, .int .i64 n])
 | .ok (.hyp h) => ∃ ev, e = .returned (.tuple #[.agg #[.string h.label, .bool h.floating, .int .i64 h.var, ev], asZ, .bool false, .int .i64 0]) ∧ Row w' 3 1 ev h.expr.length (Ay h.expr) ∧ AH w ev
 | .ok (.asr a) => ∃ p, e = .returned (.tuple #[hy0, asV a p, .bool true, .int .i64 0]) ∧ ET w a p w'
theorem KP {α : Type} {f : α → Bool} : ∀ {l : List α} {k : Nat}, (∀ x ∈ l.take k, f x = false) → ∀ (h : k < l.length), f l[k] = true → l.find? f = some l[k]
 | [], _, _, h, _ => by simp at h
 | a :: l, 0, _, _, hf => by simp only [List.getElem_cons_zero] at hf ⊢; rw [List.find?_cons, hf]
 | a :: l, k + 1, hn, h, hf => by
  simp only [List.getElem_cons_succ] at hf ⊢
  rw [List.find?_cons, hn a (by simp)]
  exact KP (fun x hx => hn x (by simp [hx])) (by simpa using h) hf
theorem Bt {P : Program} {ops : Array Oper} {rest : List Oper} {o : Oper} {a : Act} {w : World} {Q : Exit → Act → World → Prop} (hg : o.guard = none) (t : TypeId) (cells : Array Value) (ho : o.op = .build t #[])
  (hb : P.built t [] = some cells) (h : wpList P ops Q rest (a.put o.dst (.agg cells)) w) : wpList P ops Q (o :: rest) a w :=
 wpList_build hg t #[] ho (by simp [hb]) (by simpa [hb] using h)
theorem Row.yz {w w9 : World} {Y Z : Nat} {c1 c2 : Array Value} {f1 f2 : Nat × Nat} (hs : Ad [Y, Z] w w9) (hY : w.heap[Y]? = some (.cells c1 49 f1)) (hZ : w.heap[Z]? = some (.cells c2 71 f2)) {e k n : Nat} {v : Value} {xs : List Value} (h : Row w e k v n xs) (h1 : e ≠ 49) (h2 : e ≠ 71) : Row w9 e k v n xs :=
 h.same hs fun b hb hm => by
  simp only [List.mem_cons, List.not_mem_nil, or_false] at hm
  rcases hm with rfl | rfl
  ·exact h.ne hY h1 hb
  ·exact h.ne hZ h2 hb
theorem Bi.yz {w w9 : World} {Y Z : Nat} {c1 c2 : Array Value} {f1 f2 : Nat × Nat} (hs : Ad [Y, Z] w w9) (hY : w.heap[Y]? = some (.cells c1 49 f1)) (hZ : w.heap[Z]? = some (.cells c2 71 f2)) {v : Value} {evs : List Value} {l : List Hy} (h : Bi w [] v evs l) (hv : ∀ b, v.ownBlock = some b → b ∉ [Y, Z]) : Bi w9 [] v evs l :=
 ⟨h.row.same hs hv, h.exprs.imp fun _ _ hi => ⟨hi.row.yz hs hY hZ (by decide) (by decide), by simp⟩, h.flo⟩
theorem ET.yz {w0 w w1 w2 w9 : World} {Y Z : Nat} {c1 c2 : Array Value} {f1 f2 : Nat × Nat} {a : Asr} {p : AsP} (h : ET w0 a p w1) (h12 : Ad [] w1 w2) (hs : Ad [Y, Z] w2 w9) (hY : w2.heap[Y]? = some (.cells c1 49 f1)) (hZ : w2.heap[Z]? = some (.cells c2 71 f2))
  (lY : Y < w0.heap.size) (lZ : Z < w0.heap.size) (hw : w.heap.size ≤ w0.heap.size) : ET w a p w9 := by
 have key : ∀ {v : Value}, AH w0 v → ∀ b, v.ownBlock = some b → b ∉ [Y, Z] := fun hf b hb hm => by
  have := hf b hb
  simp only [List.mem_cons, List.not_mem_nil, or_false] at hm
  omega
 have up : ∀ {v : Value}, AH w0 v → AH w v := fun hf b hb => Nat.le_trans hw (hf b hb)
 exact ⟨⟨(h.inn.fh.same h12).yz hs hY hZ (key h.fh), by simp, ⟨(h.inn.fp.row.same h12 (by simp)).yz hs hY hZ (by decide) (by decide), by simp⟩, ⟨(h.inn.fg.row.same h12 (by simp)).yz hs hY hZ (by decide) (by decide), by simp⟩,
  (h.inn.sh.same h12).yz hs hY hZ (key h.sh), by simp, ⟨(h.inn.sp.row.same h12 (by simp)).yz hs hY hZ (by decide) (by decide), by simp⟩, ⟨(h.inn.pr.row.same h12 (by simp)).yz hs hY hZ (by decide) (by decide), by simp⟩⟩,
  up h.fh, fun ev hev => up (h.fes ev hev), up h.fp, up h.fg, up h.sh, fun ev hev => up (h.ses ev hev), up h.sp, up h.pr⟩
theorem E5.six {w : World} {M : List Nat} {a : Asr} {p : AsP} (h : E5 w M a p) : ∃ A1 c1 A2 c2 A3 c3 A4 c4 A5 c5 A6 c6, p.fh = .slice A1 a.hyps.length c1 ∧ p.fp = .slice A2 a.pairs.length c2 ∧ p.fg = .slice A3 a.goal.length c3 ∧ p.sh = .slice A4 a.shyps.length c4 ∧ p.sp = .slice A5 a.spairs.length c5 ∧ p.pr = .slice A6 a.proof.length c6 := by
 obtain ⟨A1, c1, h1⟩ := h.fh.row.shape
 obtain ⟨A2, c2, h2⟩ := h.fp.row.shape
 obtain ⟨A3, c3, h3⟩ := h.fg.row.shape
 obtain ⟨A4, c4, h4⟩ := h.sh.row.shape
 obtain ⟨A5, c5, h5⟩ := h.sp.row.shape
 obtain ⟨A6, c6, h6⟩ := h.pr.row.shape
 exact ⟨A1, c1, A2, c2, A3, c3, A4, c4, A5, c5, A6, c6, h1, h2, h3, h4, h5, h6⟩
theorem JW {P : Program} {ops : Array Oper} {o : Oper} {a : Act} {w : World} {K : Value → Prop} {v : Value} (hg : o.guard = none) (hr : (execOp a.eval o).run P w = .ok (.value v) w) (h : K v) : B4 P ops o a w K := by
 have hw : Region.wanted o (yielded ops a.tmps) = true := by simp [Region.wanted, hg]
 unfold B4
 rw [if_pos hw, hr]
 exact ⟨rfl, h⟩
theorem KD {P : Program} {ops : Array Oper} {o : Oper} {a : Act} {w : World} {K : Value → Prop} (hg : o.guard = none) (t : TypeId) (cells : Array Value) (ho : o.op = .build t #[]) (hb : P.built t [] = some cells) (h : K (.agg cells)) : B4 P ops o a w K := by
 refine JW hg ?_ h
 unfold execOp
 simp only [ho, Sem.run_bind, Array.map_empty, run_build w t #[] cells hb, Result.andThen_ok, Sem.run_pure]
theorem IM {P : Program} {ops : Array Oper} {o : Oper} {a : Act} {w : World} {K : Value → Prop} (hgd : o.guard = none) (ty : TypeId) (x : Operand) (ho : o.op = .load ty x)
  (g : Nat) (hx : a.eval x = .pointer (some ⟨g, 0, none⟩)) (t : TypeId) (cs : Array Value) (fr : Nat × Nat) (d : TypeDesc) (hg : w.heap[g]? = some (.cells cs t fr))
  (hu : P.underlying ty = some d) (hd : (match d with | .struct _ | .array _ _ => true | _ => false) = true) (hi : (P.info? ty).map (·.size) = some cs.size)
  (h : K (.agg cs)) : B4 P ops o a w K := by
 refine JW hgd ?_ h
 unfold execOp
 simp only [ho, hx, Instr.loadAt, Instr.sureAddr, Sem.run_bind, Sem.run_pure, Result.andThen_ok, run_loadVar_row w g t ty cs fr d hg hu hd hi]
theorem DJ {P : Program} {fn : Func} {p q r s : Tmp} {t1 t2 : TypeId} (h : fn.results = #[.cell p t1, .cell q t2, .tmp r, .tmp s]) (tmps : Array Value) (w : World) (Y Z : Nat) (ys zs : Array Value) (d1 d2 : TypeDesc)
  (hp : tmps.getD p undef = .pointer (some ⟨Y, 0, none⟩)) (hq : tmps.getD q undef = .pointer (some ⟨Z, 0, none⟩)) (vr vs : Value) (hr : tmps.getD r undef = vr) (hs : tmps.getD s undef = vs)
  (hy : w.heap[Y]? = some (.cells ys t1 (0, 0))) (hz : w.heap[Z]? = some (.cells zs t2 (0, 0)))
  (hu1 : P.underlying t1 = some d1) (hd1 : (match d1 with | .struct _ | .array _ _ => true | _ => false) = true) (hi1 : (P.info? t1).map (·.size) = some ys.size)
  (hu2 : P.underlying t2 = some d2) (hd2 : (match d2 with | .struct _ | .array _ _ => true | _ => false) = true) (hi2 : (P.info? t2).map (·.size) = some zs.size) :
  (results fn tmps).run P w = .ok (.tuple #[.agg ys, .agg zs, vr, vs]) w := by
 have hp' : tmps[p]?.getD undef = .pointer (some ⟨Y, 0, none⟩) := by simpa using hp
 have hq' : tmps[q]?.getD undef = .pointer (some ⟨Z, 0, none⟩) := by simpa using hq
 have hr' : tmps[r]?.getD undef = vr := by simpa using hr
 have hs' : tmps[s]?.getD undef = vs := by simpa using hs
 simp [results, h, hp', hq', hr', hs', asAddr, run_loadVar_row w Y t1 t1 ys _ d1 hy hu1 hd1 hi1, run_loadVar_row w Z t2 t2 zs _ d2 hz hu2 hd2 hi2]
theorem O9 : Tryz.prog.built 71 [] = some #[.int .i64 0, .string ⟨#[]⟩, .bool false, .slice none 0 0, .slice none 0 0, .slice none 0 0, .slice none 0 0, .slice none 0 0, .slice none 0 0, .string ⟨#[]⟩, .int .i64 0, .int .i64 0, .int .i64 0, .string ⟨#[]⟩, .int .i64 0, .int .i64 0, .int .i64 0] := by kernel_rfl
theorem bz4 : Tryz.prog.built 49 [] = some #[.string ⟨#[]⟩, .bool false, .int .i64 0, .slice none 0 0] := by kernel_rfl
theorem EO : (Tryz.prog.info? 71).map (·.size) = some 17 := by kernel_rfl
theorem Ee {w : World} {b : Nat} {x0 x1 x2 x3 x4 : Value} {t : TypeId} (h : w.heap[b]? = some (.cells #[x0, x1, x2, x3, x4] t (0, 0))) : w.cell? ⟨b, 0, none⟩ = some x0 ∧ w.cell? ⟨b, 1, none⟩ = some x1 ∧ w.cell? ⟨b, 2, none⟩ = some x2 ∧ w.cell? ⟨b, 3, none⟩ = some x3 ∧ w.cell? ⟨b, 4, none⟩ = some x4 ∧ ∀ i, w.frozen? ⟨b, i, none⟩ = false :=
 ⟨Ai h, Ai h, Ai h, Ai h, Ai h, AE h⟩
theorem Gw {w : World} {b : Nat} {t : TypeId} {v0 v1 v2 v3 v4 v5 v6 v7 v8 v9 v10 v11 v12 v13 v14 v15 v16 : Value} (h : w.heap[b]? = some (.cells #[v0, v1, v2, v3, v4, v5, v6, v7, v8, v9, v10, v11, v12, v13, v14, v15, v16] t (0, 0))) : w.cell? ⟨b, 0, none⟩ = some v0 ∧ w.cell? ⟨b, 1, none⟩ = some v1 ∧ w.cell? ⟨b, 2, none⟩ = some v2 ∧ w.cell? ⟨b, 3, none⟩ = some v3 ∧ w.cell? ⟨b, 4, none⟩ = some v4 ∧ w.cell? ⟨b, 5, none⟩ = some v5 ∧ w.cell? ⟨b, 6, none⟩ = some v6 ∧ w.cell? ⟨b, 7, none⟩ = some v7 ∧ w.cell? ⟨b, 8, none⟩ = some v8 ∧
  w.cell? ⟨b, 9, none⟩ = some v9 ∧ w.cell? ⟨b, 10, none⟩ = some v10 ∧ w.cell? ⟨b, 11, none⟩ = some v11 ∧ w.cell? ⟨b, 12, none⟩ = some v12 ∧ w.cell? ⟨b, 13, none⟩ = some v13 ∧ w.cell? ⟨b, 14, none⟩ = some v14 ∧ w.cell? ⟨b, 15, none⟩ = some v15 ∧ w.cell? ⟨b, 16, none⟩ = some v16 ∧ ∀ i, w.frozen? ⟨b, i, none⟩ = false :=
 ⟨Ai h, Ai h, Ai h, Ai h, Ai h, Ai h, Ai h, Ai h, Ai h, Ai h, Ai h, Ai h, Ai h, Ai h, Ai h, Ai h, Ai h, AE h⟩
theorem zq24 {P : Prop} (h : P := by
 have hsf : Ad [] w W3 := (((((Hw2.out.setNew ⟨w.heap.size + 1, 0, none⟩ (.string ⟨#[]⟩) (by simp)).setNew ⟨w.heap.size + 1, 1, none⟩ (.bool false) (by simp)).setNew ⟨w.heap.size + 1, 2, none⟩ (.int .i64 0) (by simp)).setNew ⟨w.heap.size + 1, 3, none⟩ (.slice none 0 0) (by simp))).then Hs3.out fun x hx => .inr (by simp at hx; omega)
 have hs23 : Ad [w.heap.size + 1, w.heap.size + 1 + 1] W2 W3 := (((((Ad.refl [w.heap.size + 1, w.heap.size + 1 + 1] W2).set ⟨w.heap.size + 1, 0, none⟩ (.string ⟨#[]⟩) (by simp)).set ⟨w.heap.size + 1, 1, none⟩ (.bool false) (by simp)).set ⟨w.heap.size + 1, 2, none⟩ (.int .i64 0) (by simp)).set ⟨w.heap.size + 1, 3, none⟩ (.slice none 0 0) (by simp)).trans (Hs3.out.mono fun x hx => .inl (by simp at hx; simp [hx]))
 refine ⟨hsf, ?_⟩
 rw [Hst.out]
 rfl) : P := h
theorem NS (w : World) (nb : Nat) (P : BP) (B : Bs) (h : FG w nb P B) (hN : B.Nice) (hb : ∀ p ∈ B.ld.hyps, p.2.expr.length ≤ 1000000) (c : Cx) (hv pv mv gv : Value) (evs : List Value) (hh : Bi w [] hv evs c.hyps) (hln : c.hyps.length ≤ 1000000) (hle : ∀ x ∈ c.hyps, x.expr.length ≤ 1000000) (s : ByteArray) (hfi : ∀ n, AJ s B.ld.finds = some n → n < B.ld.asserts.length) :
  Calls Tryz.prog 98 #[.pointer (some ⟨nb, 0, none⟩), cxV hv pv mv c.before gv, .string s] w (Ra B c s w) := by
 unfold cxV
 obtain ⟨Ah, ch, rfl⟩ := hh.row.shape
 have hfd := fun (W : World) (hW : Ad [] w W) => Mu W nb P B (h.same hW) s
 have hhy := fun (W : World) (hW : Ad [] w W) => N0 W nb P B (h.same hW) hb s
 have hat := fun (W : World) (hW : Ad [] w W) (k : Nat) (hk : k < B.ld.asserts.length) => Ja W nb P B (h.same hW) k hk (hN.small _ (List.getElem_mem hk)) hN.n
 have Hh := Kd hh
 have Hle := Kd hle
 have Hat := Kd hat
 have Hfd := Kd hfd
 have Hhy := Kd hhy
 clear h hN hb hh hle hat hfd hhy
 go_enter Tryz.func98, Tryz.ntmps98
 go_wp2
 have hw0 := ((Ad.alloc [] w (.cells #[.slice Ah c.hyps.length ch, pv, mv, .int .i64 c.before, gv] 35)).trans (Ad.alloc [] _ (.cells #[.string ⟨#[]⟩, .bool false, .int .i64 0, .slice none 0 0] 49))).trans (Ad.alloc [] _ (.cells #[.int .i64 0, .string ⟨#[]⟩, .bool false, .slice none 0 0, .slice none 0 0, .slice none 0 0, .slice none 0 0, .slice none 0 0, .slice none 0 0, .string ⟨#[]⟩, .int .i64 0, .int .i64 0, .int .i64 0, .string ⟨#[]⟩, .int .i64 0, .int .i64 0, .int .i64 0] 71))
 have hX : (((w.alloc (.cells #[.slice Ah c.hyps.length ch, pv, mv, .int .i64 c.before, gv] 35)).alloc (.cells #[.string ⟨#[]⟩, .bool false, .int .i64 0, .slice none 0 0] 49)).alloc (.cells #[.int .i64 0, .string ⟨#[]⟩, .bool false, .slice none 0 0, .slice none 0 0, .slice none 0 0, .slice none 0 0, .slice none 0 0, .slice none 0 0, .string ⟨#[]⟩, .int .i64 0, .int .i64 0, .int .i64 0, .string ⟨#[]⟩, .int .i64 0, .int .i64 0, .int .i64 0] 71)).heap[w.heap.size]? = some (.cells #[.slice Ah c.hyps.length ch, pv, mv, .int .i64 c.before, gv] 35 (0, 0)) := AR (AR (Aj _ _) _) _
 have hY : (((w.alloc (.cells #[.slice Ah c.hyps.length ch, pv, mv, .int .i64 c.before, gv] 35)).alloc (.cells #[.string ⟨#[]⟩, .bool false, .int .i64 0, .slice none 0 0] 49)).alloc (.cells #[.int .i64 0, .string ⟨#[]⟩, .bool false, .slice none 0 0, .slice none 0 0, .slice none 0 0, .slice none 0 0, .slice none 0 0, .slice none 0 0, .string ⟨#[]⟩, .int .i64 0, .int .i64 0, .int .i64 0, .string ⟨#[]⟩, .int .i64 0, .int .i64 0, .int .i64 0] 71)).heap[w.heap.size + 1]? = some (.cells #[.string ⟨#[]⟩, .bool false, .int .i64 0, .slice none 0 0] 49 (0, 0)) := AR (by rw [← AA w (.cells #[.slice Ah c.hyps.length ch, pv, mv, .int .i64 c.before, gv] 35)]; exact Aj _ _) _
 have hZ : (((w.alloc (.cells #[.slice Ah c.hyps.length ch, pv, mv, .int .i64 c.before, gv] 35)).alloc (.cells #[.string ⟨#[]⟩, .bool false, .int .i64 0, .slice none 0 0] 49)).alloc (.cells #[.int .i64 0, .string ⟨#[]⟩, .bool false, .slice none 0 0, .slice none 0 0, .slice none 0 0, .slice none 0 0, .slice none 0 0, .slice none 0 0, .string ⟨#[]⟩, .int .i64 0, .int .i64 0, .int .i64 0, .string ⟨#[]⟩, .int .i64 0, .int .i64 0, .int .i64 0] 71)).heap[w.heap.size + 1 + 1]? = some (.cells #[.int .i64 0, .string ⟨#[]⟩, .bool false, .slice none 0 0, .slice none 0 0, .slice none 0 0, .slice none 0 0, .slice none 0 0, .slice none 0 0, .string ⟨#[]⟩, .int .i64 0, .int .i64 0, .int .i64 0, .string ⟨#[]⟩, .int .i64 0, .int .i64 0, .int .i64 0] 71 (0, 0)) := by rw [← AA w (.cells #[.slice Ah c.hyps.length ch, pv, mv, .int .i64 c.before, gv] 35), ← AA (w.alloc (.cells #[.slice Ah c.hyps.length ch, pv, mv, .int .i64 c.before, gv] 35)) (.cells #[.string ⟨#[]⟩, .bool false, .int .i64 0, .slice none 0 0] 49)]; exact Aj _ _
 generalize ((w.alloc (.cells #[.slice Ah c.hyps.length ch, pv, mv, .int .i64 c.before, gv] 35)).alloc (.cells #[.string ⟨#[]⟩, .bool false, .int .i64 0, .slice none 0 0] 49)).alloc (.cells #[.int .i64 0, .string ⟨#[]⟩, .bool false, .slice none 0 0, .slice none 0 0, .slice none 0 0, .slice none 0 0, .slice none 0 0, .slice none 0 0, .string ⟨#[]⟩, .int .i64 0, .int .i64 0, .int .i64 0, .string ⟨#[]⟩, .int .i64 0, .int .i64 0, .int .i64 0] 71) = W0 at hw0 hX hY hZ ⊢
 have Hw0 := Kd hw0
 have HX := Kd hX
 have HY := Kd hY
 have HZ := Kd hZ
 clear hw0 hX hY hZ
 go_loopw [21] (fun u wr => ∃ k : Nat, k ≤ c.hyps.length ∧ u = .int .i64 k ∧ (∀ x ∈ c.hyps.take k, decide (x.label = s) = false) ∧ Ad [] W0 wr) (fun u _ => c.hyps.length - (intOf u).toNat)
 case atStart => exact ⟨0, Nat.zero_le _, rfl, by simp, Ad.refl _ _⟩
 case round =>
  obtain ⟨k, hk, rfl, hno, hs⟩ := hrel
  by_cases hlt : k < c.hyps.length
  ·have hsw := Hw0.out.trans hs
   obtain ⟨g, ch', ev, hv1, hev, hin, t0, t1, t2, t3, hgl⟩ := (Hh.out.same hsw).at hlt
   cases hv1
   have hel := Hle.out _ (List.getElem_mem hlt)
   have hft := KP (f := fun x : Hy => decide (x.label = s)) hno hlt
   have htk := List.take_succ_eq_append_getElem hlt
   have Hft := Kd hft
   have Htk := Kd htk
   have Hno := Kd hno
   have Hs := Kd hs
   have Hin := Kd hin
   obtain ⟨Ae, ce, rfl⟩ := hin.row.shape
   clear hft htk hno hs hin hev hsw
   by_cases hse : c.hyps[k].label = s
   ·have hse' : (c.hyps[k].label.toList == s.toList) = true := by rw [Px]; exact decide_eq_true hse
    have Hse := Kd hse
    clear hse
    have hcl := fun (W : World) (hW : Ad [] wr W) => Cb (.slice Ae c.hyps[k].expr.length ce) c.hyps[k].expr W ((Seg.of_row Hin.out.row).same hW) hel
    obtain ⟨Wb, hWb⟩ : ∃ Wb, wr.alloc (.cells #[.string c.hyps[k].label, .bool c.hyps[k].floating, .int .i64 c.hyps[k].var, .slice Ae c.hyps[k].expr.length ce] 49) = Wb := ⟨_, rfl⟩
    have hsb : Ad [] wr Wb := by rw [← hWb]; exact Ad.alloc [] _ _
    have hbb := Aj wr (.cells #[.string c.hyps[k].label, .bool c.hyps[k].floating, .int .i64 c.hyps[k].var, .slice Ae c.hyps[k].expr.length ce] 49)
    rw [hWb] at hbb
    have Hbb := Kd hbb
    have Hsb := Kd hsb
    have HWb := Kd hWb
    clear hbb hsb hWb
    go_upto_region 5 with fail
    rw [HWb.out]
    obtain ⟨e0, e1, e2, e3, ef⟩ := BV Hbb.out
    have el := Af Hbb.out
    go_upto_region 6 with (go_at_call 51; go_must (refine (hcl _ Hsb.out).mono ?_; rintro e1 W1 ⟨v1, rfl, hr1, hs1, hf1⟩; obtain ⟨A1, c1, rfl⟩ := hr1.shape; clear e0 e1 e2 e3 ef el; obtain ⟨e0, e1, e2, e3, ef⟩ := BV (hs1.get Hbb.out (by simp)); have el := Af (hs1.get Hbb.out (by simp)); have Hs1 := Kd hs1; have Hr1 := Kd hr1; have Hf1 := Kd hf1; clear hr1 hs1 hf1))
    have hsw := (Hw0.out.trans Hs.out).trans (Hsb.out.trans Hs1.out)
    have l0 := (Hw0.out.trans Hs.out).size
    have lY := Af (Hs.out.get HY.out (by simp))
    have lZ := Af (Hs.out.get HZ.out (by simp))
    have lb := Af Hbb.out
    have hw2 := hsw.setNew ⟨wr.heap.size, 3, none⟩ (.slice A1 c.hyps[k].expr.length c1) l0
    have hB2 := AI (Hs1.out.get Hbb.out (by simp)) 3 (.slice A1 c.hyps[k].expr.length c1)
    simp only [List.setIfInBounds_toArray, List.set_cons_succ, List.set_cons_zero] at hB2
    have hY2 := (AG (w := W1) ⟨wr.heap.size, 3, none⟩ (.slice A1 c.hyps[k].expr.length c1) (b := w.heap.size + 1) (by simp; omega)).trans (((Hs.out.trans Hsb.out).trans Hs1.out).get HY.out (by simp))
    have hZ2 := (AG (w := W1) ⟨wr.heap.size, 3, none⟩ (.slice A1 c.hyps[k].expr.length c1) (b := w.heap.size + 1 + 1) (by simp; omega)).trans (((Hs.out.trans Hsb.out).trans Hs1.out).get HZ.out (by simp))
    have hr2 := Hr1.out.same (Ad.setCell (S := [wr.heap.size]) W1 ⟨wr.heap.size, 3, none⟩ (.slice A1 c.hyps[k].expr.length c1) (by simp)) (fun b hb hm => by have := Hf1.out b hb; simp at hm; omega)
    generalize W1.setCell ⟨wr.heap.size, 3, none⟩ (.slice A1 c.hyps[k].expr.length c1) = W2 at hw2 hB2 hY2 hZ2 hr2 ⊢
    have Hw2 := Kd hw2
    have HY2 := Kd hY2
    have HZ2 := Kd hZ2
    have HZ4 : Hid (∀ q0 q1 q2 q3 : Value, ((((W2.setCell ⟨w.heap.size + 1, 0, none⟩ q0).setCell ⟨w.heap.size + 1, 1, none⟩ q1).setCell ⟨w.heap.size + 1, 2, none⟩ q2).setCell ⟨w.heap.size + 1, 3, none⟩ q3).heap[w.heap.size + 1 + 1]? = W2.heap[w.heap.size + 1 + 1]?) := Kd fun q0 q1 q2 q3 => by rw [AG _ _ (by simp), AG _ _ (by simp), AG _ _ (by simp), AG _ _ (by simp)]
    have Hr2 := Kd hr2
    clear e0 e1 e2 e3 ef el
    obtain ⟨e0, e1, e2, e3, ef⟩ := BV hB2
    have el := Af hB2
    obtain ⟨x0, x1, x2, x3, xf⟩ := BV hY2
    have xl := Af hY2
    clear hw2 hB2 hY2 hZ2 hr2 hsw t0 t1 t2 t3
    go_wp2_with (first
     | (with_reducible refine Bt rfl 71 _ rfl O9 ?_)
     | (with_reducible refine Bt rfl 49 _ rfl bz4 ?_)
     | (refine AU rfl 71 _ _ rfl (w.heap.size + 1 + 1) #[.int .i64 0, .string ⟨#[]⟩, .bool false, .slice none 0 0, .slice none 0 0, .slice none 0 0, .slice none 0 0, .slice none 0 0, .slice none 0 0, .string ⟨#[]⟩, .int .i64 0, .int .i64 0, .int .i64 0, .string ⟨#[]⟩, .int .i64 0, .int .i64 0, .int .i64 0] (by go_simp) (by go_simp) 71 #[.int .i64 0, .string ⟨#[]⟩, .bool false, .slice none 0 0, .slice none 0 0, .slice none 0 0, .slice none 0 0, .slice none 0 0, .slice none 0 0, .string ⟨#[]⟩, .int .i64 0, .int .i64 0, .int .i64 0, .string ⟨#[]⟩, .int .i64 0, .int .i64 0, .int .i64 0] ?_ EO rfl (by simp [Value.oneCell']) ?_; (rw [HZ4.out]; with_reducible exact HZ2.out); intro W3 hR3 hs3; have HR3 := Kd hR3; have Hs3 := Kd hs3; clear hR3 hs3)
     )
    have hy := AI (AI (AI (AI HY2.out 0 (.string c.hyps[k].label)) 1 (.bool c.hyps[k].floating)) 2 (.int .i64 c.hyps[k].var)) 3 (.slice A1 c.hyps[k].expr.length c1)
    simp only [List.setIfInBounds_toArray, List.set_cons_succ, List.set_cons_zero] at hy
    have hy3 := Hs3.out.get hy (by simp)
    refine bodyPost_ret_by (v := .tuple #[.agg #[(.string c.hyps[k].label), (.bool c.hyps[k].floating), (.int .i64 c.hyps[k].var), (.slice A1 c.hyps[k].expr.length c1)], .agg #[.int .i64 0, .string ⟨#[]⟩, .bool false, .slice none 0 0, .slice none 0 0, .slice none 0 0, .slice none 0 0, .slice none 0 0, .slice none 0 0, .string ⟨#[]⟩, .int .i64 0, .int .i64 0, .int .i64 0, .string ⟨#[]⟩, .int .i64 0, .int .i64 0, .int .i64 0], .bool false, .int .i64 0]) (DJ (p := 6) (q := 7) (r := 8) (s := 9) rfl _ W3 (w.heap.size + 1) (w.heap.size + 1 + 1) _ _ _ _ rfl rfl _ _ rfl rfl hy3 HR3.out Tryz.underlying49 rfl (by kernel_rfl) Tryz.underlying71 rfl (by kernel_rfl)) rfl ?_
    have hsf : Ad [] w W3 := (((((Hw2.out.setNew ⟨w.heap.size + 1, 0, none⟩ (.string c.hyps[k].label) (by simp)).setNew ⟨w.heap.size + 1, 1, none⟩ (.bool c.hyps[k].floating) (by simp)).setNew ⟨w.heap.size + 1, 2, none⟩ (.int .i64 c.hyps[k].var) (by simp)).setNew ⟨w.heap.size + 1, 3, none⟩ (.slice A1 c.hyps[k].expr.length c1) (by simp))).then Hs3.out fun x hx => .inr (by simp at hx; omega)
    have hs23 : Ad [w.heap.size + 1, w.heap.size + 1 + 1] W2 W3 := (((((Ad.refl [w.heap.size + 1, w.heap.size + 1 + 1] W2).set ⟨w.heap.size + 1, 0, none⟩ (.string c.hyps[k].label) (by simp)).set ⟨w.heap.size + 1, 1, none⟩ (.bool c.hyps[k].floating) (by simp)).set ⟨w.heap.size + 1, 2, none⟩ (.int .i64 c.hyps[k].var) (by simp)).set ⟨w.heap.size + 1, 3, none⟩ (.slice A1 c.hyps[k].expr.length c1) (by simp)).trans (Hs3.out.mono fun x hx => .inl (by simp at hx; simp [hx]))
    refine ⟨hsf, ?_⟩
    have hbs : B.step c s = .ok (.hyp c.hyps[k]) := by unfold Bs.step; rw [Hft.out (decide_eq_true Hse.out)]
    rw [hbs]
    refine ⟨_, rfl, Hr2.out.same hs23 fun b hb hm => ?_, fun b hb => ?_⟩
    ·have := Hf1.out b hb
     simp at hm
     omega
    ·have := Hf1.out b hb
     omega
   ·have hse' : (c.hyps[k].label.toList == s.toList) = false := by rw [Px]; exact decide_eq_false hse
    have Hse := Kd hse
    clear hse
    go_wp2
    go_roundw
    case rel =>
     refine ⟨k + 1, hlt, by go_num, ?_, Hs.out.trans (Ad.alloc [] _ _)⟩
     intro x hx
     rw [Htk.out, List.mem_append] at hx
     rcases hx with hx | hx
     ·exact Hno.out x hx
     ·rw [List.mem_singleton] at hx
      subst hx
      simp [Hse.out]
    case measure => simp [intOf]; omega
  ·have hkn : k = c.hyps.length := by omega
   have hnf : c.hyps.find? (fun x => decide (x.label = s)) = none := by
    rw [List.find?_eq_none]
    intro x hx
    rw [hkn, List.take_length] at hno
    rw [hno x hx]
    decide
   have hst : B.step c s = match AJ s B.ld.finds with
     | some n => if c.before ≤ n then .error 111 else match B.ld.asserts[n]? with | some a => .ok (.asr a) | none => .error 0
     | none => if (AJ s B.ld.hyps).isSome then .error 112 else .error 110 := by unfold Bs.step; rw [hnf]; rfl
   have hsw := Hw0.out.trans hs
   have hfd1 := Hfd.out wr hsw
   have hhy1 := Hhy.out wr hsw
   have Hsw := Kd hsw
   have Hs := Kd hs
   obtain ⟨q0, q1, q2, q3, q4, qf⟩ := Ee (Hs.out.get HX.out (by simp))
   have ql := Af (Hs.out.get HX.out (by simp))
   have lY := Af (Hs.out.get HY.out (by simp))
   have lZ := Af (Hs.out.get HZ.out (by simp))
   clear hno hs hsw hnf
   cases haf : AJ s B.ld.finds with
   | none =>
    rw [haf] at hfd1 hst
    dsimp only [Option.getD, Option.isSome] at hfd1
    dsimp only at hst
    unfold Q8 at hhy1
    cases hah : (AJ s B.ld.hyps).isSome with
    | false =>
     rw [hah] at hhy1
     simp only [hah, Bool.false_eq_true, if_false] at hst
     have Hst := Kd hst
     clear hst haf hah
     go_upto_region 15 with (first
      | (go_at_call 23; go_must (refine hfd1.mono ?_; rintro e1 W1 ⟨rfl, hw4⟩; have hw5 := hw4.symm; subst hw5; clear hw4))
      | (go_at_call 142; go_must (refine hhy1.mono ?_; rintro e2 Wh ⟨ya, yb, yc, yA, yn, yk, rfl, hs2⟩; have Hs2 := Kd hs2; clear hs2)))
     have hw2 := (Hsw.out.trans Hs2.out).trans (Ad.alloc [] _ (.cells #[.string ya, .bool yb, .int .i64 yc, .slice yA yn yk] 49))
     have hY2 := AR ((Hs.out.trans Hs2.out).get HY.out (by simp)) (.cells #[.string ya, .bool yb, .int .i64 yc, .slice yA yn yk] 49)
     have hZ2 := AR ((Hs.out.trans Hs2.out).get HZ.out (by simp)) (.cells #[.string ya, .bool yb, .int .i64 yc, .slice yA yn yk] 49)
     generalize Wh.alloc (.cells #[.string ya, .bool yb, .int .i64 yc, .slice yA yn yk] 49) = W2 at hw2 hY2 hZ2 ⊢
     have HY2 := Kd hY2
     have HZ2 := Kd hZ2
     have HZ4 : Hid (∀ q0 q1 q2 q3 : Value, ((((W2.setCell ⟨w.heap.size + 1, 0, none⟩ q0).setCell ⟨w.heap.size + 1, 1, none⟩ q1).setCell ⟨w.heap.size + 1, 2, none⟩ q2).setCell ⟨w.heap.size + 1, 3, none⟩ q3).heap[w.heap.size + 1 + 1]? = W2.heap[w.heap.size + 1 + 1]?) := Kd fun q0 q1 q2 q3 => by rw [AG _ _ (by simp), AG _ _ (by simp), AG _ _ (by simp), AG _ _ (by simp)]
     have Hw2 := Kd hw2
     obtain ⟨x0, x1, x2, x3, xf⟩ := BV hY2
     have xl := Af hY2
     clear hw2 hY2 hZ2
     go_wp2_with (first
      | (with_reducible refine Bt rfl 71 _ rfl O9 ?_)
      | (with_reducible refine Bt rfl 49 _ rfl bz4 ?_)
      | (refine AU rfl 71 _ _ rfl (w.heap.size + 1 + 1) #[.int .i64 0, .string ⟨#[]⟩, .bool false, .slice none 0 0, .slice none 0 0, .slice none 0 0, .slice none 0 0, .slice none 0 0, .slice none 0 0, .string ⟨#[]⟩, .int .i64 0, .int .i64 0, .int .i64 0, .string ⟨#[]⟩, .int .i64 0, .int .i64 0, .int .i64 0] (by go_simp) (by go_simp) 71 #[.int .i64 0, .string ⟨#[]⟩, .bool false, .slice none 0 0, .slice none 0 0, .slice none 0 0, .slice none 0 0, .slice none 0 0, .slice none 0 0, .string ⟨#[]⟩, .int .i64 0, .int .i64 0, .int .i64 0, .string ⟨#[]⟩, .int .i64 0, .int .i64 0, .int .i64 0] ?_ EO rfl (by simp [Value.oneCell']) ?_; (rw [HZ4.out]; with_reducible exact HZ2.out); intro W3 hR3 hs3; have HR3 := Kd hR3; have Hs3 := Kd hs3; clear hR3 hs3)
      )
     have hy := AI (AI (AI (AI HY2.out 0 (.string ⟨#[]⟩)) 1 (.bool false)) 2 (.int .i64 0)) 3 (.slice none 0 0)
     simp only [List.setIfInBounds_toArray, List.set_cons_succ, List.set_cons_zero] at hy
     have hy3 := Hs3.out.get hy (by simp)
     refine bodyPost_ret_by (v := .tuple #[.agg #[(.string ⟨#[]⟩), (.bool false), (.int .i64 0), (.slice none 0 0)], .agg #[.int .i64 0, .string ⟨#[]⟩, .bool false, .slice none 0 0, .slice none 0 0, .slice none 0 0, .slice none 0 0, .slice none 0 0, .slice none 0 0, .string ⟨#[]⟩, .int .i64 0, .int .i64 0, .int .i64 0, .string ⟨#[]⟩, .int .i64 0, .int .i64 0, .int .i64 0], .bool false, .int .i64 110]) (DJ (p := 6) (q := 7) (r := 8) (s := 9) rfl _ W3 (w.heap.size + 1) (w.heap.size + 1 + 1) _ _ _ _ rfl rfl _ _ rfl rfl hy3 HR3.out Tryz.underlying49 rfl (by kernel_rfl) Tryz.underlying71 rfl (by kernel_rfl)) rfl ?_
     exact zq24
    | true =>
     rw [hah] at hhy1
     simp only [hah, if_true] at hst
     have Hst := Kd hst
     clear hst haf hah
     go_upto_region 15 with (first
      | (go_at_call 23; go_must (refine hfd1.mono ?_; rintro e1 W1 ⟨rfl, hw4⟩; have hw5 := hw4.symm; subst hw5; clear hw4))
      | (go_at_call 142; go_must (refine hhy1.mono ?_; rintro e2 Wh ⟨ya, yb, yc, yA, yn, yk, rfl, hs2⟩; have Hs2 := Kd hs2; clear hs2)))
     have hw2 := (Hsw.out.trans Hs2.out).trans (Ad.alloc [] _ (.cells #[.string ya, .bool yb, .int .i64 yc, .slice yA yn yk] 49))
     have hY2 := AR ((Hs.out.trans Hs2.out).get HY.out (by simp)) (.cells #[.string ya, .bool yb, .int .i64 yc, .slice yA yn yk] 49)
     have hZ2 := AR ((Hs.out.trans Hs2.out).get HZ.out (by simp)) (.cells #[.string ya, .bool yb, .int .i64 yc, .slice yA yn yk] 49)
     generalize Wh.alloc (.cells #[.string ya, .bool yb, .int .i64 yc, .slice yA yn yk] 49) = W2 at hw2 hY2 hZ2 ⊢
     have HY2 := Kd hY2
     have HZ2 := Kd hZ2
     have HZ4 : Hid (∀ q0 q1 q2 q3 : Value, ((((W2.setCell ⟨w.heap.size + 1, 0, none⟩ q0).setCell ⟨w.heap.size + 1, 1, none⟩ q1).setCell ⟨w.heap.size + 1, 2, none⟩ q2).setCell ⟨w.heap.size + 1, 3, none⟩ q3).heap[w.heap.size + 1 + 1]? = W2.heap[w.heap.size + 1 + 1]?) := Kd fun q0 q1 q2 q3 => by rw [AG _ _ (by simp), AG _ _ (by simp), AG _ _ (by simp), AG _ _ (by simp)]
     have Hw2 := Kd hw2
     obtain ⟨x0, x1, x2, x3, xf⟩ := BV hY2
     have xl := Af hY2
     clear hw2 hY2 hZ2
     go_wp2_with (first
      | (with_reducible refine Bt rfl 71 _ rfl O9 ?_)
      | (with_reducible refine Bt rfl 49 _ rfl bz4 ?_)
      | (refine AU rfl 71 _ _ rfl (w.heap.size + 1 + 1) #[.int .i64 0, .string ⟨#[]⟩, .bool false, .slice none 0 0, .slice none 0 0, .slice none 0 0, .slice none 0 0, .slice none 0 0, .slice none 0 0, .string ⟨#[]⟩, .int .i64 0, .int .i64 0, .int .i64 0, .string ⟨#[]⟩, .int .i64 0, .int .i64 0, .int .i64 0] (by go_simp) (by go_simp) 71 #[.int .i64 0, .string ⟨#[]⟩, .bool false, .slice none 0 0, .slice none 0 0, .slice none 0 0, .slice none 0 0, .slice none 0 0, .slice none 0 0, .string ⟨#[]⟩, .int .i64 0, .int .i64 0, .int .i64 0, .string ⟨#[]⟩, .int .i64 0, .int .i64 0, .int .i64 0] ?_ EO rfl (by simp [Value.oneCell']) ?_; (rw [HZ4.out]; with_reducible exact HZ2.out); intro W3 hR3 hs3; have HR3 := Kd hR3; have Hs3 := Kd hs3; clear hR3 hs3)
      )
     have hy := AI (AI (AI (AI HY2.out 0 (.string ⟨#[]⟩)) 1 (.bool false)) 2 (.int .i64 0)) 3 (.slice none 0 0)
     simp only [List.setIfInBounds_toArray, List.set_cons_succ, List.set_cons_zero] at hy
     have hy3 := Hs3.out.get hy (by simp)
     refine bodyPost_ret_by (v := .tuple #[.agg #[(.string ⟨#[]⟩), (.bool false), (.int .i64 0), (.slice none 0 0)], .agg #[.int .i64 0, .string ⟨#[]⟩, .bool false, .slice none 0 0, .slice none 0 0, .slice none 0 0, .slice none 0 0, .slice none 0 0, .slice none 0 0, .string ⟨#[]⟩, .int .i64 0, .int .i64 0, .int .i64 0, .string ⟨#[]⟩, .int .i64 0, .int .i64 0, .int .i64 0], .bool false, .int .i64 112]) (DJ (p := 6) (q := 7) (r := 8) (s := 9) rfl _ W3 (w.heap.size + 1) (w.heap.size + 1 + 1) _ _ _ _ rfl rfl _ _ rfl rfl hy3 HR3.out Tryz.underlying49 rfl (by kernel_rfl) Tryz.underlying71 rfl (by kernel_rfl)) rfl ?_
     exact zq24
   | some n =>
    rw [haf] at hfd1 hst
    dsimp only [Option.getD, Option.isSome] at hfd1
    dsimp only at hst
    by_cases hge : c.before ≤ n
    ·rw [if_pos hge] at hst
     have Hst := Kd hst
     clear hst haf hhy1
     obtain ⟨W2, rfl⟩ : ∃ W, W = wr := ⟨_, rfl⟩
     have hw2 := Hsw.out
     have hY2 := Hs.out.get HY.out (by simp)
     have hZ2 := Hs.out.get HZ.out (by simp)
     go_upto_region 11 with (go_at_call 23; go_must (refine hfd1.mono ?_; rintro e1 W1 ⟨rfl, hw4⟩; have hw5 := hw4.symm; subst hw5; clear hw4))
     have HY2 := Kd hY2
     have HZ2 := Kd hZ2
     have HZ4 : Hid (∀ q0 q1 q2 q3 : Value, ((((W2.setCell ⟨w.heap.size + 1, 0, none⟩ q0).setCell ⟨w.heap.size + 1, 1, none⟩ q1).setCell ⟨w.heap.size + 1, 2, none⟩ q2).setCell ⟨w.heap.size + 1, 3, none⟩ q3).heap[w.heap.size + 1 + 1]? = W2.heap[w.heap.size + 1 + 1]?) := Kd fun q0 q1 q2 q3 => by rw [AG _ _ (by simp), AG _ _ (by simp), AG _ _ (by simp), AG _ _ (by simp)]
     have Hw2 := Kd hw2
     obtain ⟨x0, x1, x2, x3, xf⟩ := BV hY2
     have xl := Af hY2
     clear hw2 hY2 hZ2
     go_wp2_with (first
      | (with_reducible refine Bt rfl 71 _ rfl O9 ?_)
      | (with_reducible refine Bt rfl 49 _ rfl bz4 ?_)
      | (refine AU rfl 71 _ _ rfl (w.heap.size + 1 + 1) #[.int .i64 0, .string ⟨#[]⟩, .bool false, .slice none 0 0, .slice none 0 0, .slice none 0 0, .slice none 0 0, .slice none 0 0, .slice none 0 0, .string ⟨#[]⟩, .int .i64 0, .int .i64 0, .int .i64 0, .string ⟨#[]⟩, .int .i64 0, .int .i64 0, .int .i64 0] (by go_simp) (by go_simp) 71 #[.int .i64 0, .string ⟨#[]⟩, .bool false, .slice none 0 0, .slice none 0 0, .slice none 0 0, .slice none 0 0, .slice none 0 0, .slice none 0 0, .string ⟨#[]⟩, .int .i64 0, .int .i64 0, .int .i64 0, .string ⟨#[]⟩, .int .i64 0, .int .i64 0, .int .i64 0] ?_ EO rfl (by simp [Value.oneCell']) ?_; (rw [HZ4.out]; with_reducible exact HZ2.out); intro W3 hR3 hs3; have HR3 := Kd hR3; have Hs3 := Kd hs3; clear hR3 hs3)
      )
     have hy := AI (AI (AI (AI HY2.out 0 (.string ⟨#[]⟩)) 1 (.bool false)) 2 (.int .i64 0)) 3 (.slice none 0 0)
     simp only [List.setIfInBounds_toArray, List.set_cons_succ, List.set_cons_zero] at hy
     have hy3 := Hs3.out.get hy (by simp)
     refine bodyPost_ret_by (v := .tuple #[.agg #[(.string ⟨#[]⟩), (.bool false), (.int .i64 0), (.slice none 0 0)], .agg #[.int .i64 0, .string ⟨#[]⟩, .bool false, .slice none 0 0, .slice none 0 0, .slice none 0 0, .slice none 0 0, .slice none 0 0, .slice none 0 0, .string ⟨#[]⟩, .int .i64 0, .int .i64 0, .int .i64 0, .string ⟨#[]⟩, .int .i64 0, .int .i64 0, .int .i64 0], .bool false, .int .i64 111]) (DJ (p := 6) (q := 7) (r := 8) (s := 9) rfl _ W3 (w.heap.size + 1) (w.heap.size + 1 + 1) _ _ _ _ rfl rfl _ _ rfl rfl hy3 HR3.out Tryz.underlying49 rfl (by kernel_rfl) Tryz.underlying71 rfl (by kernel_rfl)) rfl ?_
     exact zq24
    ·have hn := hfi n haf
     rw [if_neg hge, List.getElem?_eq_getElem hn] at hst
     have hat1 := Hat.out wr Hsw.out n hn
     obtain ⟨a, ha⟩ : ∃ a, B.ld.asserts[n] = a := ⟨_, rfl⟩
     rw [ha] at hat1 hst
     dsimp only at hst
     have Hst := Kd hst
     clear hst haf hhy1 hfi ha
     go_upto_region 13 with (first
      | (go_at_call 23; go_must (refine hfd1.mono ?_; rintro e1 W1 ⟨rfl, hw4⟩; have hw5 := hw4.symm; subst hw5; clear hw4))
      | (go_at_call 22; go_must (refine hat1.mono ?_; rintro e1 W1 ⟨⟨fh, fp, fg, sh, sp, pr, fes, ses⟩, rfl, hnw, hs1⟩; obtain ⟨A1, c1, A2, c2, A3, c3, A4, c4, A5, c5, A6, c6, q1, q2, q3, q4, q5, q6⟩ := hnw.inn.six; dsimp only at q1 q2 q3 q4 q5 q6; subst q1 q2 q3 q4 q5 q6; have Hs1 := Kd hs1; have Hnw := Kd hnw; unfold asV; clear hs1 hnw))
      | (refine AU rfl 71 _ _ rfl W1.heap.size #[.int .i64 a.number, .string a.label, .bool a.isThm, .slice A1 a.hyps.length c1, .slice A2 a.pairs.length c2, .slice A3 a.goal.length c3, .slice A4 a.shyps.length c4, .slice A5 a.spairs.length c5, .slice A6 a.proof.length c6, .string a.at_.text, .int .i64 a.at_.at_.off, .int .i64 a.at_.at_.line, .int .i64 a.at_.at_.col, .string a.end_.text, .int .i64 a.end_.at_.off, .int .i64 a.end_.at_.line, .int .i64 a.end_.at_.col] (by go_simp) (by go_simp) 71 #[.int .i64 0, .string ⟨#[]⟩, .bool false, .slice none 0 0, .slice none 0 0, .slice none 0 0, .slice none 0 0, .slice none 0 0, .slice none 0 0, .string ⟨#[]⟩, .int .i64 0, .int .i64 0, .int .i64 0, .string ⟨#[]⟩, .int .i64 0, .int .i64 0, .int .i64 0] (Aj W1 (.cells #[.int .i64 0, .string ⟨#[]⟩, .bool false, .slice none 0 0, .slice none 0 0, .slice none 0 0, .slice none 0 0, .slice none 0 0, .slice none 0 0, .string ⟨#[]⟩, .int .i64 0, .int .i64 0, .int .i64 0, .string ⟨#[]⟩, .int .i64 0, .int .i64 0, .int .i64 0] 71)) EO rfl (by simp [Value.oneCell']) ?_; intro W2 hB2 hs2; have Hs12 : Hid (Ad [] W1 W2) := Kd ((Ad.alloc [] W1 _).then hs2 fun x hx => .inr (by simp at hx; omega)); have HB2 := Kd hB2; clear hB2 hs2))
     have hw2 := ((Hsw.out.trans Hs1.out).trans Hs12.out).trans (Ad.drew [] W2)
     have hY2 := (((Hs.out.trans Hs1.out).trans Hs12.out).trans (Ad.drew [] W2)).get HY.out (by simp)
     have hZ2 := (((Hs.out.trans Hs1.out).trans Hs12.out).trans (Ad.drew [] W2)).get HZ.out (by simp)
     have hB2 := (Ad.drew [] W2).get HB2.out (by simp)
     have lw := (Hsw.out.trans Hs1.out).size
     have lY1 := Af ((Hs.out.trans Hs1.out).get HY.out (by simp))
     have lZ1 := Af ((Hs.out.trans Hs1.out).get HZ.out (by simp))
     have hn2 := Hs12.out.trans (Ad.drew [] W2)
     refine AD (.read 0 (.read 1 (.one 2 [1] (.one 3 [] (.read 4 (.read 5 (.done))))))) (by kernel_rfl) (by kernel_rfl) ?_
     clear HB2 Hs12
     generalize W2.drew = W2 at hw2 hY2 hZ2 hB2 hn2 ⊢
     have HY2 := Kd hY2
     have HZ2 := Kd hZ2
     have Hw2 := Kd hw2
     have Hn2 := Kd hn2
     have HZ4 : Hid (∀ q0 q1 q2 q3 : Value, ((((W2.setCell ⟨w.heap.size + 1, 0, none⟩ q0).setCell ⟨w.heap.size + 1, 1, none⟩ q1).setCell ⟨w.heap.size + 1, 2, none⟩ q2).setCell ⟨w.heap.size + 1, 3, none⟩ q3).heap[w.heap.size + 1 + 1]? = W2.heap[w.heap.size + 1 + 1]?) := Kd fun q0 q1 q2 q3 => by rw [AG _ _ (by simp), AG _ _ (by simp), AG _ _ (by simp), AG _ _ (by simp)]
     have HB4 : Hid (∀ q0 q1 q2 q3 : Value, ((((W2.setCell ⟨w.heap.size + 1, 0, none⟩ q0).setCell ⟨w.heap.size + 1, 1, none⟩ q1).setCell ⟨w.heap.size + 1, 2, none⟩ q2).setCell ⟨w.heap.size + 1, 3, none⟩ q3).heap[W1.heap.size]? = W2.heap[W1.heap.size]?) := Kd fun q0 q1 q2 q3 => by rw [AG _ _ (by simp; omega), AG _ _ (by simp; omega), AG _ _ (by simp; omega), AG _ _ (by simp; omega)]
     have HB2 := Kd hB2
     obtain ⟨x0, x1, x2, x3, xf⟩ := BV hY2
     have xl := Af hY2
     clear hw2 hY2 hZ2 hB2 hn2
     refine An rfl (fun K hK => ?_)
     refine KD rfl 49 _ rfl bz4 ?_
     refine hK _ ?_
     clear hK K
     refine An rfl (fun K hK => ?_)
     refine IM rfl 71 _ rfl W1.heap.size rfl 71 #[.int .i64 a.number, .string a.label, .bool a.isThm, .slice A1 a.hyps.length c1, .slice A2 a.pairs.length c2, .slice A3 a.goal.length c3, .slice A4 a.shyps.length c4, .slice A5 a.spairs.length c5, .slice A6 a.proof.length c6, .string a.at_.text, .int .i64 a.at_.at_.off, .int .i64 a.at_.at_.line, .int .i64 a.at_.at_.col, .string a.end_.text, .int .i64 a.end_.at_.off, .int .i64 a.end_.at_.line, .int .i64 a.end_.at_.col] _ _ (HB2.out) Tryz.underlying71 rfl EO ?_
     refine hK _ ?_
     clear hK K
     refine Ak rfl ?_
     go_wp2
     refine EQ.mk rfl (DG rfl (IM rfl 71 _ rfl W1.heap.size rfl 71 #[.int .i64 a.number, .string a.label, .bool a.isThm, .slice A1 a.hyps.length c1, .slice A2 a.pairs.length c2, .slice A3 a.goal.length c3, .slice A4 a.shyps.length c4, .slice A5 a.spairs.length c5, .slice A6 a.proof.length c6, .string a.at_.text, .int .i64 a.at_.at_.off, .int .i64 a.at_.at_.line, .int .i64 a.at_.at_.col, .string a.end_.text, .int .i64 a.end_.at_.off, .int .i64 a.end_.at_.line, .int .i64 a.end_.at_.col] _ _ ((HB4.out _ _ _ _).trans HB2.out) Tryz.underlying71 rfl EO rfl) (Br rfl BJ)) ?_
     refine Ak rfl ?_
     refine AU rfl 71 _ _ rfl (w.heap.size + 1 + 1) #[.int .i64 a.number, .string a.label, .bool a.isThm, .slice A1 a.hyps.length c1, .slice A2 a.pairs.length c2, .slice A3 a.goal.length c3, .slice A4 a.shyps.length c4, .slice A5 a.spairs.length c5, .slice A6 a.proof.length c6, .string a.at_.text, .int .i64 a.at_.at_.off, .int .i64 a.at_.at_.line, .int .i64 a.at_.at_.col, .string a.end_.text, .int .i64 a.end_.at_.off, .int .i64 a.end_.at_.line, .int .i64 a.end_.at_.col] rfl rfl 71 #[.int .i64 0, .string ⟨#[]⟩, .bool false, .slice none 0 0, .slice none 0 0, .slice none 0 0, .slice none 0 0, .slice none 0 0, .slice none 0 0, .string ⟨#[]⟩, .int .i64 0, .int .i64 0, .int .i64 0, .string ⟨#[]⟩, .int .i64 0, .int .i64 0, .int .i64 0] ?_ EO rfl (by simp [Value.oneCell']) ?_
     ·rw [HZ4.out]
      with_reducible exact HZ2.out
     intro W3 hR3 hs3
     have HR3 := Kd hR3
     have Hs3 := Kd hs3
     clear hR3 hs3
     go_wp2
     refine EQ.mk rfl (Br rfl (Br rfl BJ)) ?_
     iterate 2 (refine An rfl (fun K hK => ?_); go_simp; (try go_bits); (try (rw [if_pos (by omega)]; go_simp)); refine hK _ ?_; clear hK K)
     refine AB ?_
     go_wp2
     have hy := AI (AI (AI (AI HY2.out 0 (.string ⟨#[]⟩)) 1 (.bool false)) 2 (.int .i64 0)) 3 (.slice none 0 0)
     simp only [List.setIfInBounds_toArray, List.set_cons_succ, List.set_cons_zero] at hy
     have hy3 := Hs3.out.get hy (by simp)
     refine bodyPost_ret_by (v := .tuple #[.agg #[(.string ⟨#[]⟩), (.bool false), (.int .i64 0), (.slice none 0 0)], .agg #[.int .i64 a.number, .string a.label, .bool a.isThm, .slice A1 a.hyps.length c1, .slice A2 a.pairs.length c2, .slice A3 a.goal.length c3, .slice A4 a.shyps.length c4, .slice A5 a.spairs.length c5, .slice A6 a.proof.length c6, .string a.at_.text, .int .i64 a.at_.at_.off, .int .i64 a.at_.at_.line, .int .i64 a.at_.at_.col, .string a.end_.text, .int .i64 a.end_.at_.off, .int .i64 a.end_.at_.line, .int .i64 a.end_.at_.col], .bool true, .int .i64 0]) (DJ (p := 6) (q := 7) (r := 8) (s := 9) rfl _ W3 (w.heap.size + 1) (w.heap.size + 1 + 1) _ _ _ _ rfl rfl _ _ rfl rfl hy3 HR3.out Tryz.underlying49 rfl (by kernel_rfl) Tryz.underlying71 rfl (by kernel_rfl)) rfl ?_
     have hsf : Ad [] w W3 := (((((Hw2.out.setNew ⟨w.heap.size + 1, 0, none⟩ (.string ⟨#[]⟩) (by simp)).setNew ⟨w.heap.size + 1, 1, none⟩ (.bool false) (by simp)).setNew ⟨w.heap.size + 1, 2, none⟩ (.int .i64 0) (by simp)).setNew ⟨w.heap.size + 1, 3, none⟩ (.slice none 0 0) (by simp))).then Hs3.out fun x hx => .inr (by simp at hx; omega)
     have hs23 : Ad [w.heap.size + 1, w.heap.size + 1 + 1] W2 W3 := (((((Ad.refl [w.heap.size + 1, w.heap.size + 1 + 1] W2).set ⟨w.heap.size + 1, 0, none⟩ (.string ⟨#[]⟩) (by simp)).set ⟨w.heap.size + 1, 1, none⟩ (.bool false) (by simp)).set ⟨w.heap.size + 1, 2, none⟩ (.int .i64 0) (by simp)).set ⟨w.heap.size + 1, 3, none⟩ (.slice none 0 0) (by simp)).trans (Hs3.out.mono fun x hx => .inl (by simp at hx; simp [hx]))
     refine ⟨hsf, ?_⟩
     rw [Hst.out]
     exact ⟨_, rfl, Hnw.out.yz Hn2.out hs23 HY2.out HZ2.out lY lZ Hsw.out.size⟩
end Go.Proofs.YtbfbgfpghkijdaaGreatDoor
