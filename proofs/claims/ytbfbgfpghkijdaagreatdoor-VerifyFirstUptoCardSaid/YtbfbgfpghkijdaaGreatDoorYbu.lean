/- lemmalaw texts, part 47. -/
import Derived.Test.YtbfbgfpghkijdaaGreatDoorYaz
import Derived.Test.YtbfbgfpghkijdaaGreatDoorYbs
import Derived.Test.YtbfbgfpghkijdaaGreatDoorYbt
set_option maxRecDepth 100000
set_option linter.unusedVariables false
set_option linter.unusedSimpArgs false
set_option maxHeartbeats 32000000
namespace Go.Proofs.YtbfbgfpghkijdaaGreatDoor
open Go.RowKit
def FD (w : World) (v : Value) (l : List ByteArray) : Prop := ((∃ A c, v = .slice A 0 c) ∧ l = []) ∨ Sub w 1 v l.length (DP l)
theorem FD.same {w w' : World} {v : Value} {l : List ByteArray} (h : FD w v l) (hs : Ad [] w w') : FD w' v l := h.imp_right fun h => h.same hs
theorem FD.shape {w : World} {v : Value} {l : List ByteArray} (h : FD w v l) : ∃ A c, v = .slice A l.length c := by
 rcases h with ⟨⟨A, c, rfl⟩, rfl⟩ | h
 ·exact ⟨A, c, rfl⟩
 ·exact zq96
theorem FD.cell {w : World} {A : Option Addr} {n c : Nat} {l : List ByteArray} (h : FD w (.slice A n c) l) {k : Nat} (hk : k < l.length) : ∃ g off, A = some ⟨g, off, none⟩ ∧ w.cell? ⟨g, off + k, none⟩ = some (.string l[k]) ∧ g < w.heap.size := by
 rcases h with ⟨h1, rfl⟩ | h
 ·simp at hk
 ·obtain ⟨g, off, c', h1, h2, h3, h4⟩ := h.ex
  cases h1
  exact ⟨g, off, rfl, h4 k _ (by simp [DP, hk]), h3⟩
def CQ (s : ByteArray) : Tk := ⟨s, ⟨0, 0, 0⟩⟩
def Lt (l : List ByteArray) (w : World) (e : Ending) (w' : World) : Prop := ∃ v, e = .returned v ∧ Row w' 59 4 v l.length (AC (l.map CQ)) ∧ AH w v ∧ Ad [] w w' ∧ (l = [] → v = .slice none 0 0)
def Fp (w : World) (l : List ByteArray) (k : Nat) (v : Value) (W : World) : Prop := Row W 59 4 v k (AC ((l.take k).map CQ)) ∧ AH w v ∧ Ad [] w W ∧ (k = 0 → v = .slice none 0 0)
theorem Ro (l : List ByteArray) (k : Nat) (h : k < l.length) : AC ((l.take (k + 1)).map CQ) = AC ((l.take k).map CQ) ++ [.string l[k], .int .i64 0, .int .i64 0, .int .i64 0] := by
 rw [List.take_succ_eq_append_getElem h, List.map_append]
 unfold AC
 rw [List.flatMap_append]
 rfl
theorem Fp.next {w W W' : World} {l : List ByteArray} {k : Nat} {v v' : Value} (h : Fp w l k v W) (hk : k < l.length) (hr : Row W' 59 4 v' (k + 1) (AC ((l.take k).map CQ) ++ [.string l[k], .int .i64 0, .int .i64 0, .int .i64 0]))
  (hs : Ad v.ownBlock.toList W W') (ho : v'.ownBlock = v.ownBlock ∨ ∃ b, v'.ownBlock = some b ∧ W.heap.size ≤ b) : Fp w l (k + 1) v' W' :=
 ⟨by rw [Ro l k hk]; exact hr, h.2.1.next h.2.2.1.size ho, h.2.2.1.then hs fun x hx => .inr (h.2.1 x (Option.mem_toList.1 hx)), fun h => absurd h (Nat.succ_ne_zero k)⟩
theorem zq30 {P : Prop} (h : P := by
 obtain ⟨k, hk, rfl, hI⟩ := hrel
 by_cases hlt : k < l.length
 ·obtain ⟨g, off, hA, t0, hgl⟩ := (H.out.same hI.2.2.1).cell hlt
  cases hA
  obtain ⟨Av, cv, rfl⟩ := hI.1.shape
  have HI := Kd hI
  clear hI H0
  go_wp2_with (at_builtin; refine Bh (W := wr) rfl _ _ 54 rfl 59 4 40 _ Tryz.underlying54 Tryz.infoToken' rfl (by decide) (.slice Av k cv) _ _ rfl HI.out.1 [.string l[k], .int .i64 0, .int .i64 0, .int .i64 0] rfl rfl (by simp [Value.oneCell']) (by omega) (by decide) ?_; go_must (intro v6 W6 hr6 hs6 ho6; obtain ⟨A6, c6, rfl⟩ := hr6.shape; have Hr6 := Kd hr6; have Hs6 := Kd hs6; have Ho6 := Kd ho6; clear hr6 hs6 ho6))
  go_roundw
  case rel => exact ⟨k + 1, hlt, by go_num, HI.out.next hlt Hr6.out Hs6.out Ho6.out⟩
  case measure => simp [intOf]; omega
 ·have hkk : k = l.length := by omega
  subst hkk
  have HI := Kd hI
  clear hI H0
  go_wp2
  go_ret
  refine ⟨_, rfl, ?_, HI.out.2.1, HI.out.2.2.1, fun h => HI.out.2.2.2 (by rw [h]; rfl)⟩
  have := HI.out.1
  rw [List.take_length] at this
  exact this) : P := h
theorem Lf (w : World) (va : Value) (l : List ByteArray) (h : FD w va l) (hn : l.length ≤ 10000000) : Calls Tryz.prog 45 #[va] w (Lt l w) := by
 obtain ⟨A, c, rfl⟩ := h.shape
 have H := Kd h
 clear h
 go_enter Tryz.func45, Tryz.ntmps45
 go_wp2
 have h0 : Fp w l 0 (.slice none 0 0) w := ⟨World.ownsRow_nil _ _ _ _, by simp [AH, Value.ownBlock], Ad.refl _ _, fun _ => rfl⟩
 have H0 := Kd h0
 clear h0
 go_loopw [3, 8] (fun v u wr => ∃ k : Nat, k ≤ l.length ∧ u = .int .i64 k ∧ Fp w l k v wr) (fun _ u _ => l.length - (intOf u).toNat)
 case atStart => exact ⟨0, Nat.zero_le _, rfl, H0.out⟩
 case round =>
  exact zq30
theorem Ia (w : World) (va : Value) (l : List ByteArray) (h : FD w va l) (hn : l.length ≤ 10000000) : Calls Tryz.prog 19 #[va] w (Lt l w) := by
 obtain ⟨A, c, rfl⟩ := h.shape
 have H := Kd h
 clear h
 go_enter Tryz.func19, Tryz.ntmps19
 go_wp2
 have h0 : Fp w l 0 (.slice none 0 0) w := ⟨World.ownsRow_nil _ _ _ _, by simp [AH, Value.ownBlock], Ad.refl _ _, fun _ => rfl⟩
 have H0 := Kd h0
 clear h0
 go_loopw [3, 4] (fun v u wr => ∃ k : Nat, k ≤ l.length ∧ u = .int .i64 k ∧ Fp w l k v wr) (fun _ u _ => l.length - (intOf u).toNat)
 case atStart => exact ⟨0, Nat.zero_le _, rfl, H0.out⟩
 case round =>
  exact zq30
theorem Sd : Tryz.prog.built 61 [] = some #[.string ⟨#[]⟩, .int .i64 0, .string ⟨#[]⟩, .int .i64 0, .int .i64 0, .int .i64 0, .int .i64 0, .int .i64 0] := by kernel_rfl
theorem Nv {w : World} {b : Nat} {x0 x1 x2 x3 x4 x5 x6 x7 : Value} {t : TypeId} (h : w.heap[b]? = some (.cells #[x0, x1, x2, x3, x4, x5, x6, x7] t (0, 0))) : w.cell? ⟨b, 0, none⟩ = some x0 ∧ w.cell? ⟨b, 1, none⟩ = some x1 ∧ w.cell? ⟨b, 2, none⟩ = some x2 ∧ w.cell? ⟨b, 3, none⟩ = some x3 ∧ w.cell? ⟨b, 4, none⟩ = some x4 ∧ w.cell? ⟨b, 5, none⟩ = some x5 ∧ w.cell? ⟨b, 6, none⟩ = some x6 ∧ w.cell? ⟨b, 7, none⟩ = some x7 ∧ ∀ i, w.frozen? ⟨b, i, none⟩ = false :=
 ⟨Ai h, Ai h, Ai h, Ai h, Ai h, Ai h, Ai h, Ai h, AE h⟩
theorem Fi (w : World) (nb : Nat) (P : BP) (B : Bs) (h : CF w nb P B) (c : Cx) (hv pv mv gv : Value) (hc : Kr w c hv pv gv) (va : Value) (ws : List Tk) (hw : Row w 59 4 va ws.length (AC ws)) (hn : ws.length ≤ 10000000) (en : Tk) (hp : ws = [] ∨ ∃ x r, ws = x :: r ∧ (x.text.toList == [40]) = false) :
  Calls Tryz.prog 20 #[.pointer (some ⟨nb, 0, none⟩), cxV hv pv mv c.before gv, va, tkV en] w (OS (B.run B.ld.tbl.isVar c ws en) w) := by
 have hres : Ig ws en = ⟨1, ws, [], false, false, en⟩ := by
  exact zq126
 have hpa := fun (W : World) (hW : Ad [] w W) => M1 W va ws (hw.same hW (by simp)) hn en hp
 unfold Qm pfV tkV at hpa
 simp only [hres] at hpa
 have hru := fun (W : World) (hW : Ad [] w W) (lv rv : Value) (hl : Row W 59 4 lv ws.length (AC ws)) => O7 W nb P B (h.same hW) c hv pv mv gv (hc.same hW) 1 lv rv false false ws en hl hn
 obtain ⟨d, hd⟩ : ∃ d, B.run B.ld.tbl.isVar c ws en = d := ⟨_, rfl⟩
 rw [hd]
 unfold OS cxV Rx at hru
 simp only [hd] at hru
 unfold cxV tkV
 obtain ⟨Av, cv, rfl⟩ := hw.shape
 have Hpa := Kd hpa
 have Hru := Kd hru
 clear hd hpa hru h hc hw hp hres
 go_enter Tryz.func20, Tryz.ntmps20
 go_upto_region 1 with fail
 have hw0 := ((Ad.alloc [] w (.cells #[hv, pv, mv, .int .i64 c.before, gv] 35)).trans (Ad.alloc [] _ (.cells #[.string en.text, .int .i64 en.at_.off, .int .i64 en.at_.line, .int .i64 en.at_.col] 59))).trans (Ad.alloc [] _ (.cells #[.string ⟨#[]⟩, .int .i64 0, .string ⟨#[]⟩, .int .i64 0, .int .i64 0, .int .i64 0, .int .i64 0, .int .i64 0] 61))
 have hX := AR (AR (Aj w (.cells #[hv, pv, mv, .int .i64 c.before, gv] 35)) (.cells #[.string en.text, .int .i64 en.at_.off, .int .i64 en.at_.line, .int .i64 en.at_.col] 59)) (.cells #[.string ⟨#[]⟩, .int .i64 0, .string ⟨#[]⟩, .int .i64 0, .int .i64 0, .int .i64 0, .int .i64 0, .int .i64 0] 61)
 have hY := AR (Eb w (.cells #[hv, pv, mv, .int .i64 c.before, gv] 35) (.cells #[.string en.text, .int .i64 en.at_.off, .int .i64 en.at_.line, .int .i64 en.at_.col] 59)) (.cells #[.string ⟨#[]⟩, .int .i64 0, .string ⟨#[]⟩, .int .i64 0, .int .i64 0, .int .i64 0, .int .i64 0, .int .i64 0] 61)
 have hZ := Eb (w.alloc (.cells #[hv, pv, mv, .int .i64 c.before, gv] 35)) (.cells #[.string en.text, .int .i64 en.at_.off, .int .i64 en.at_.line, .int .i64 en.at_.col] 59) (.cells #[.string ⟨#[]⟩, .int .i64 0, .string ⟨#[]⟩, .int .i64 0, .int .i64 0, .int .i64 0, .int .i64 0, .int .i64 0] 61)
 rw [AA] at hZ
 generalize ((w.alloc (.cells #[hv, pv, mv, .int .i64 c.before, gv] 35)).alloc (.cells #[.string en.text, .int .i64 en.at_.off, .int .i64 en.at_.line, .int .i64 en.at_.col] 59)).alloc (.cells #[.string ⟨#[]⟩, .int .i64 0, .string ⟨#[]⟩, .int .i64 0, .int .i64 0, .int .i64 0, .int .i64 0, .int .i64 0] 61) = W0 at hw0 hX hY hZ ⊢
 have Hw0 := Kd hw0
 have HX := Kd hX
 have HZ := Kd hZ
 obtain ⟨y0, y1, y2, y3, yf⟩ := BV hY
 have yl := Af hY
 clear hw0 hX hY hZ
 go_wp2_with (first
  | (go_at_call 46; go_must (refine (Hpa.out _ Hw0.out).mono ?_; rintro e1 W1 ⟨lv, rv, rfl, hl1, hf1, hc1, hcf1, hs1⟩; obtain ⟨A1, c1, rfl⟩ := hl1.shape; obtain ⟨A2, c2, rfl⟩ := hc1.shape; have hX1 := hs1.get HX.out (by simp); obtain ⟨x0, x1, x2, x3, x4, xf⟩ := Ee hX1; have xl := Af hX1; have Hl1 := Kd hl1; have Hs1 := Kd hs1; clear hl1 hf1 hc1 hcf1 hs1 hX1))
  | (go_at_call 48; go_must (refine (Hru.out _ ((Hw0.out.trans Hs1.out).trans (Ad.alloc [] _ _)) _ _ (Hl1.out.same (Ad.alloc [] _ _) (by simp))).mono ?_; rintro e2 W2 ⟨rfl, hs2⟩; have Hs9 : Hid (Ad [] W0 W2) := Kd ((Hs1.out.trans (Ad.alloc [] _ _)).trans hs2); clear hs2))
  | (refine AU rfl 61 _ _ rfl (w.heap.size + 1 + 1) (vdC d.code d.at_ d.count d.peak) (by go_simp) (by go_simp) 61 #[.string ⟨#[]⟩, .int .i64 0, .string ⟨#[]⟩, .int .i64 0, .int .i64 0, .int .i64 0, .int .i64 0, .int .i64 0] (Hs9.out.get HZ.out (by simp)) (by kernel_rfl) rfl (by simp [vdC, Value.oneCell']) ?_; intro W3 hR3 hs3; have HR3 := Kd hR3; have Hs3 := Kd hs3; clear hR3 hs3))
 refine bodyPost_ret_by (v := .agg (vdC d.code d.at_ d.count d.peak)) (results_cell_row rfl _ W3 (w.heap.size + 1 + 1) 61 _ _ _ rfl HR3.out Tryz.underlying61 rfl (by kernel_rfl)) rfl ?_
 exact ⟨rfl, (Hw0.out.trans Hs9.out).then Hs3.out fun x hx => .inr (by simp at hx; omega)⟩
def Asr.cx (a : Asr) (k : Nat) : Cx := ⟨a.shyps, a.spairs, k, a.goal⟩
def Qx (R : Vd → Prop) (w : World) (e : Ending) (w' : World) : Prop := ∃ d : Vd, e = .returned (.agg (vdC d.code d.at_ d.count d.peak)) ∧ R d ∧ Ad [] w w'
def vdL (s : ByteArray) (d : Vd) : Array Value := #[.string s, .int .i64 d.code, .string d.at_.text, .int .i64 d.at_.at_.off, .int .i64 d.at_.at_.line, .int .i64 d.at_.at_.col, .int .i64 d.count, .int .i64 d.peak]
theorem ET.cxIn {w w' : World} {a : Asr} {p : AsP} (h : ET w a p w') (hs : GT a) (k : Nat) : Kr w' (a.cx k) p.sh p.sp p.fg :=
 ⟨⟨_, h.inn.sh⟩, Nat.le_trans hs.shyps (by decide), hs.she, h.inn.sp.row, Nat.le_trans hs.spairs (by decide), Seg.of_row h.inn.fg.row, hs.goal⟩
theorem Qg (w : World) (nb : Nat) (P : BP) (B : Bs) (h : CF w nb P B) (k : Nat) (hk : k < B.ld.asserts.length) (ht : B.ld.asserts[k].isThm = false) :
  Calls Tryz.prog 21 #[.pointer (some ⟨nb, 0, none⟩), .int .i64 k] w fun e w' => e = .returned (.tuple #[.agg #[.string ⟨#[]⟩, .int .i64 0, .string ⟨#[]⟩, .int .i64 0, .int .i64 0, .int .i64 0, .int .i64 0, .int .i64 0], .int .i64 140]) ∧ Ad [] w w' := by
 have hat := fun (W : World) (hW : Ad [] w W) => Ja W nb P B (h.at_.same hW) k hk (h.nice.small _ (List.getElem_mem hk)) h.nice.n
 obtain ⟨a, ha⟩ : ∃ a, B.ld.asserts[k] = a := ⟨_, rfl⟩
 rw [ha] at hat ht
 have Hat := Kd hat
 have Hw0 : Hid (Ad [] w (w.alloc (.cells #[.string ⟨#[]⟩, .int .i64 0, .string ⟨#[]⟩, .int .i64 0, .int .i64 0, .int .i64 0, .int .i64 0, .int .i64 0] 61))) := Kd (Ad.alloc [] w _)
 have HZ := Kd (Aj w (.cells #[.string ⟨#[]⟩, .int .i64 0, .string ⟨#[]⟩, .int .i64 0, .int .i64 0, .int .i64 0, .int .i64 0, .int .i64 0] 61))
 clear h ha hat
 go_enter Tryz.func21, Tryz.ntmps21
 go_wp2_with (first
  | (go_at_call 22; go_must (refine (Hat.out _ Hw0.out).mono ?_; rintro e1 W1 ⟨⟨fh, fp, fg, sh, sp, pr, fes, ses⟩, rfl, hnw, hs1⟩; obtain ⟨A1, c1, A2, c2, A3, c3, A4, c4, A5, c5, A6, c6, q1, q2, q3, q4, q5, q6⟩ := hnw.inn.six; dsimp only at q1 q2 q3 q4 q5 q6; subst q1 q2 q3 q4 q5 q6; have Hs1 := Kd hs1; have Hnw := Kd hnw; unfold asV; clear hs1 hnw))
  | (refine AU rfl 71 _ _ rfl W1.heap.size #[.int .i64 a.number, .string a.label, .bool a.isThm, .slice A1 a.hyps.length c1, .slice A2 a.pairs.length c2, .slice A3 a.goal.length c3, .slice A4 a.shyps.length c4, .slice A5 a.spairs.length c5, .slice A6 a.proof.length c6, .string a.at_.text, .int .i64 a.at_.at_.off, .int .i64 a.at_.at_.line, .int .i64 a.at_.at_.col, .string a.end_.text, .int .i64 a.end_.at_.off, .int .i64 a.end_.at_.line, .int .i64 a.end_.at_.col] (by go_simp) (by go_simp) 71 #[.int .i64 0, .string ⟨#[]⟩, .bool false, .slice none 0 0, .slice none 0 0, .slice none 0 0, .slice none 0 0, .slice none 0 0, .slice none 0 0, .string ⟨#[]⟩, .int .i64 0, .int .i64 0, .int .i64 0, .string ⟨#[]⟩, .int .i64 0, .int .i64 0, .int .i64 0] (Aj W1 (.cells #[.int .i64 0, .string ⟨#[]⟩, .bool false, .slice none 0 0, .slice none 0 0, .slice none 0 0, .slice none 0 0, .slice none 0 0, .slice none 0 0, .string ⟨#[]⟩, .int .i64 0, .int .i64 0, .int .i64 0, .string ⟨#[]⟩, .int .i64 0, .int .i64 0, .int .i64 0] 71)) EO rfl (by simp [Value.oneCell']) ?_; intro W2 hB2 hs2; have Hs12 : Hid (Ad [] W1 W2) := Kd ((Ad.alloc [] W1 _).then hs2 fun x hx => .inr (by simp at hx; omega)); have HB2 := Kd hB2; obtain ⟨b0, b1, b2, b3, b4, b5, b6, b7, b8, b9, b10, b11, b12, b13, b14, b15, b16, bf⟩ := Gw hB2; have bl := Af hB2; clear hB2 hs2)
  | (with_reducible refine Bt rfl 61 _ rfl Sd ?_)
  | (refine AU rfl 61 _ _ rfl w.heap.size #[.string ⟨#[]⟩, .int .i64 0, .string ⟨#[]⟩, .int .i64 0, .int .i64 0, .int .i64 0, .int .i64 0, .int .i64 0] (by go_simp) (by go_simp) 61 #[.string ⟨#[]⟩, .int .i64 0, .string ⟨#[]⟩, .int .i64 0, .int .i64 0, .int .i64 0, .int .i64 0, .int .i64 0] ((Hs1.out.trans Hs12.out).get HZ.out (by simp)) (by kernel_rfl) rfl (by simp [Value.oneCell']) ?_; intro W3 hR3 hs3; have HR3 := Kd hR3; have Hs3 := Kd hs3; clear hR3 hs3))
 refine bodyPost_ret_by (v := .tuple #[.agg #[.string ⟨#[]⟩, .int .i64 0, .string ⟨#[]⟩, .int .i64 0, .int .i64 0, .int .i64 0, .int .i64 0, .int .i64 0], .int .i64 140]) (Dd (p := 4) (r := 5) rfl _ W3 w.heap.size _ _ rfl _ rfl HR3.out Tryz.underlying61 rfl (by kernel_rfl)) rfl ?_
 exact ⟨rfl, ((Hw0.out.trans Hs1.out).trans Hs12.out).then Hs3.out fun x hx => .inr (by simp at hx; omega)⟩
theorem NI (w : World) (nb : Nat) (P : BP) (B : Bs) (h : CF w nb P B) (k : Nat) (hk : k < B.ld.asserts.length) (ht : B.ld.asserts[k].isThm = true) (R : Vd → Prop)
  (htx : ∀ W, Ad [] w W → ∀ hv pv mv gv va, Kr W (B.ld.asserts[k].cx k) hv pv gv → Row W 59 4 va B.ld.asserts[k].proof.length (AC B.ld.asserts[k].proof) → Calls Tryz.prog 20 #[.pointer (some ⟨nb, 0, none⟩), cxV hv pv mv k gv, va, tkV B.ld.asserts[k].end_] W (Qx R W)) :
  Calls Tryz.prog 21 #[.pointer (some ⟨nb, 0, none⟩), .int .i64 k] w fun e w' => ∃ d, e = .returned (.tuple #[.agg (vdL B.ld.asserts[k].label d), .int .i64 0]) ∧ R d ∧ Ad [] w w' := by
 have hsm := h.nice.small _ (List.getElem_mem hk)
 have hat := fun (W : World) (hW : Ad [] w W) => Ja W nb P B (h.at_.same hW) k hk hsm h.nice.n
 have hcx := fun (W : World) (hW : Ad [] w W) => EM W nb P B (h.at_.same hW) h.nice k hk
 obtain ⟨a, ha⟩ : ∃ a, B.ld.asserts[k] = a := ⟨_, rfl⟩
 rw [ha] at hat ht hcx htx hsm ⊢
 unfold JR cxV at hcx
 unfold cxV tkV Qx at htx
 have Hat := Kd hat
 have Hcx := Kd hcx
 have Htx := Kd htx
 have Hsm := Kd hsm
 have Hw0 : Hid (Ad [] w (w.alloc (.cells #[.string ⟨#[]⟩, .int .i64 0, .string ⟨#[]⟩, .int .i64 0, .int .i64 0, .int .i64 0, .int .i64 0, .int .i64 0] 61))) := Kd (Ad.alloc [] w _)
 have HZ := Kd (Aj w (.cells #[.string ⟨#[]⟩, .int .i64 0, .string ⟨#[]⟩, .int .i64 0, .int .i64 0, .int .i64 0, .int .i64 0, .int .i64 0] 61))
 clear h ha hat hcx htx hsm
 go_enter Tryz.func21, Tryz.ntmps21
 go_upto_region 9 with (first
  | (go_at_call 22; go_must (refine (Hat.out _ Hw0.out).mono ?_; rintro e1 W1 ⟨⟨fh, fp, fg, sh, sp, pr, fes, ses⟩, rfl, hnw, hs1⟩; obtain ⟨A1, c1, A2, c2, A3, c3, A4, c4, A5, c5, A6, c6, q1, q2, q3, q4, q5, q6⟩ := hnw.inn.six; dsimp only at q1 q2 q3 q4 q5 q6; subst q1 q2 q3 q4 q5 q6; have Hs1 := Kd hs1; have Hnw := Kd hnw; unfold asV; clear hs1 hnw))
  | (refine AU rfl 71 _ _ rfl W1.heap.size #[.int .i64 a.number, .string a.label, .bool a.isThm, .slice A1 a.hyps.length c1, .slice A2 a.pairs.length c2, .slice A3 a.goal.length c3, .slice A4 a.shyps.length c4, .slice A5 a.spairs.length c5, .slice A6 a.proof.length c6, .string a.at_.text, .int .i64 a.at_.at_.off, .int .i64 a.at_.at_.line, .int .i64 a.at_.at_.col, .string a.end_.text, .int .i64 a.end_.at_.off, .int .i64 a.end_.at_.line, .int .i64 a.end_.at_.col] (by go_simp) (by go_simp) 71 #[.int .i64 0, .string ⟨#[]⟩, .bool false, .slice none 0 0, .slice none 0 0, .slice none 0 0, .slice none 0 0, .slice none 0 0, .slice none 0 0, .string ⟨#[]⟩, .int .i64 0, .int .i64 0, .int .i64 0, .string ⟨#[]⟩, .int .i64 0, .int .i64 0, .int .i64 0] (Aj W1 (.cells #[.int .i64 0, .string ⟨#[]⟩, .bool false, .slice none 0 0, .slice none 0 0, .slice none 0 0, .slice none 0 0, .slice none 0 0, .slice none 0 0, .string ⟨#[]⟩, .int .i64 0, .int .i64 0, .int .i64 0, .string ⟨#[]⟩, .int .i64 0, .int .i64 0, .int .i64 0] 71)) EO rfl (by simp [Value.oneCell']) ?_; intro W2 hB2 hs2; have Hs12 : Hid (Ad [] W1 W2) := Kd ((Ad.alloc [] W1 _).then hs2 fun x hx => .inr (by simp at hx; omega)); have HB2 := Kd hB2; obtain ⟨b0, b1, b2, b3, b4, b5, b6, b7, b8, b9, b10, b11, b12, b13, b14, b15, b16, bf⟩ := Gw hB2; have bl := Af hB2; clear hB2 hs2)
  | (go_at_call 18; go_must (refine (Hcx.out _ ((Hw0.out.trans Hs1.out).trans Hs12.out)).mono ?_; rintro e4 W4 ⟨⟨xh, xp, xg, yh, yp, yr, xes, yes⟩, rfl, hnw4, hs4⟩; obtain ⟨D1, k1, D2, k2, D3, k3, D4, k4, D5, k5, D6, k6, r1, r2, r3, r4, r5, r6⟩ := hnw4.inn.six; dsimp only at r1 r2 r3 r4 r5 r6; subst r1 r2 r3 r4 r5 r6; dsimp only; have hB4 := hs4.get HB2.out (by simp); clear b0 b1 b2 b3 b4 b5 b6 b7 b8 b9 b10 b11 b12 b13 b14 b15 b16 bf bl; obtain ⟨b0, b1, b2, b3, b4, b5, b6, b7, b8, b9, b10, b11, b12, b13, b14, b15, b16, bf⟩ := Gw hB4; have bl := Af hB4; have HB4 := Kd hB4; have Hs4 := Kd hs4; have Hnw4 := Kd hnw4; clear hB4 hs4 hnw4))
  | (go_at_call 20; go_must (refine (Htx.out _ (((Hw0.out.trans Hs1.out).trans Hs12.out).trans (Hs4.out.trans (Ad.alloc [] _ _))) _ _ _ _ _ ((Hnw4.out.cxIn Hsm.out k).same (Ad.alloc [] _ _)) (Hnw.out.inn.pr.row.same (Hs12.out.trans (Hs4.out.trans (Ad.alloc [] _ _))) (by simp))).mono ?_; rintro e5 W5 ⟨d, rfl, hd, hs5⟩; have hs45 := (Ad.alloc [] W4 _).trans hs5; have hB5 := hs45.get HB4.out (by simp); clear b0 b1 b2 b3 b4 b5 b6 b7 b8 b9 b10 b11 b12 b13 b14 b15 b16 bf bl; obtain ⟨b0, b1, b2, b3, b4, b5, b6, b7, b8, b9, b10, b11, b12, b13, b14, b15, b16, bf⟩ := Gw hB5; have bl := Af hB5; have Hd := Kd hd; have Hs5 : Hid (Ad [] W1 W5) := Kd ((Hs12.out.trans Hs4.out).trans hs45); unfold vdC; clear hs5 hs45 hB5 hd)))
 go_wp2_with (refine AU rfl 61 _ _ rfl w.heap.size #[.string a.label, .int .i64 d.code, .string d.at_.text, .int .i64 d.at_.at_.off, .int .i64 d.at_.at_.line, .int .i64 d.at_.at_.col, .int .i64 d.count, .int .i64 d.peak] (by go_simp) (by go_simp) 61 #[.string ⟨#[]⟩, .int .i64 0, .string ⟨#[]⟩, .int .i64 0, .int .i64 0, .int .i64 0, .int .i64 0, .int .i64 0] (((Hs1.out.trans Hs5.out).trans (Ad.alloc [] _ _)).get HZ.out (by simp)) (by kernel_rfl) rfl (by simp [Value.oneCell']) ?_; intro W9 hR9 hs9; have HR9 := Kd hR9; have Hs9 := Kd hs9; clear hR9 hs9)
 refine bodyPost_ret_by (v := .tuple #[.agg #[.string a.label, .int .i64 d.code, .string d.at_.text, .int .i64 d.at_.at_.off, .int .i64 d.at_.at_.line, .int .i64 d.at_.at_.col, .int .i64 d.count, .int .i64 d.peak], .int .i64 0]) (Dd (p := 4) (r := 5) rfl _ W9 w.heap.size _ _ rfl _ rfl HR9.out Tryz.underlying61 rfl (by kernel_rfl)) rfl ?_
 exact ⟨d, rfl, Hd.out, (((Hw0.out.trans Hs1.out).trans Hs5.out).trans (Ad.alloc [] _ _)).then Hs9.out fun x hx => .inr (by simp at hx; omega)⟩
def R3 (x : Except Flt Bs) (f : Bs → Bool) : Bool := match x with | .ok B => f B | .error _ => false
theorem QQ {x : Except Flt Bs} {f : Bs → Bool} (h : R3 x f = true) : ∃ B, x = .ok B ∧ f B = true := by
 cases x with
 | ok B => exact ⟨B, rfl, h⟩
 | error e => cases h
def NN : ByteArray := ⟨#[36, 99, 32, 40, 32, 41, 32, 45, 62, 32, 119, 102, 102, 32, 124, 45, 32, 36, 46, 32, 36, 118, 32, 112, 32, 113, 32, 114, 32, 36, 46, 32, 119, 112, 32, 36, 102, 32, 119, 102, 102, 32, 112, 32, 36, 46, 32, 119, 113, 32, 36, 102, 32, 119, 102, 102, 32, 113, 32, 36, 46, 32, 119, 114, 32, 36, 102, 32, 119, 102, 102, 32, 114, 32, 36, 46, 32, 119, 105, 32, 36, 97, 32, 119, 102, 102, 32, 40, 32, 112, 32, 45, 62, 32, 113, 32, 41, 32, 36, 46, 32, 97, 49, 32, 36, 97, 32, 124, 45, 32, 40, 32, 112, 32, 45, 62, 32, 40, 32, 113, 32, 45, 62, 32, 112, 32, 41, 32, 41, 32, 36, 46, 32, 97, 50, 32, 36, 97, 32, 124, 45, 32, 40, 32, 40, 32, 112, 32, 45, 62, 32, 40, 32, 113, 32, 45, 62, 32, 114, 32, 41, 32, 41, 32, 45, 62, 32, 40, 32, 40, 32, 112, 32, 45, 62, 32, 113, 32, 41, 32, 45, 62, 32, 40, 32, 112, 32, 45, 62, 32, 114, 32, 41, 32, 41, 32, 41, 32, 36, 46, 32, 36, 123, 32, 109, 110, 32, 36, 101, 32, 124, 45, 32, 112, 32, 36, 46, 32, 109, 106, 32, 36, 101, 32, 124, 45, 32, 40, 32, 112, 32, 45, 62, 32, 113, 32, 41, 32, 36, 46, 32, 109, 112, 32, 36, 97, 32, 124, 45, 32, 113, 32, 36, 46, 32, 36, 125, 32, 105, 100, 32, 36, 112, 32, 124, 45, 32, 40, 32, 112, 32, 45, 62, 32, 112, 32, 41, 32, 36, 61, 32, 119, 112, 32, 119, 112, 32, 119, 112, 32, 119, 105, 32, 119, 105, 32, 119, 112, 32, 119, 112, 32, 119, 105, 32, 119, 112, 32, 119, 112, 32, 97, 49, 32, 119, 112, 32, 119, 112, 32, 119, 112, 32, 119, 105, 32, 119, 112, 32, 119, 105, 32, 119, 105, 32, 119, 112, 32, 119, 112, 32, 119, 112, 32, 119, 105, 32, 119, 105, 32, 119, 112, 32, 119, 112, 32, 119, 105, 32, 119, 105, 32, 119, 112, 32, 119, 112, 32, 119, 112, 32, 119, 105, 32, 97, 49, 32, 119, 112, 32, 119, 112, 32, 119, 112, 32, 119, 105, 32, 119, 112, 32, 97, 50, 32, 109, 112, 32, 109, 112, 32, 36, 46]⟩
theorem MN (w : World) : Calls Tryz.prog 44 #[] w fun e w' => e = .returned (.string NN) ∧ w' = w := by
 go_enter Tryz.func44, Tryz.ntmps44
 go_wp2
 go_ret
 exact ⟨rfl, rfl⟩
def plB : List Tk → Bool
 | [] => true
 | x :: _ => !(x.text.toList == [40])
theorem QR : ∀ {l : List Tk}, plB l = true → l = [] ∨ ∃ x r, l = x :: r ∧ (x.text.toList == [40]) = false
 | [], _ => .inl rfl
 | x :: r, h => .inr ⟨x, r, rfl, by simpa [plB] using h⟩
def vdB (d : Vd) : Bool := decide (d.code = 0) && decide (d.at_.text.data.toList = []) && decide (d.at_.at_.off = 0) && decide (d.at_.at_.line = 0) && decide (d.at_.at_.col = 0) && decide (d.count = 17) && decide (d.peak = 9)
theorem K1 {x y : ByteArray} (h : x.data.toList = y.data.toList) : x = y := by
 cases x; cases y
 exact congrArg ByteArray.mk (Array.toList_inj.1 h)
theorem QJ {d : Vd} (h : vdB d = true) : d = ⟨0, Tk.none, 17, 9⟩ := by
 obtain ⟨c, ⟨tx, ⟨o, l, k⟩⟩, ct, pk⟩ := d
 simp only [vdB, Bool.and_eq_true, decide_eq_true_eq] at h
 obtain ⟨⟨⟨⟨⟨⟨h1, h2⟩, h3⟩, h4⟩, h5⟩, h6⟩, h7⟩ := h
 have h8 : tx = ⟨#[]⟩ := K1 h2
 subst h1 h3 h4 h5 h6 h7 h8
 rfl
def wi3 : List ByteArray := [⟨#[119, 112]⟩, ⟨#[119, 112]⟩, ⟨#[119, 105]⟩]
def dot : Tk := ⟨⟨#[36, 46]⟩, ⟨0, 0, 0⟩⟩
def Rw (B : Bs) : Bool := match B.ld.asserts[4]?, B.ld.asserts[3]? with
 | some a, some m => a.isThm && !m.isThm && decide (a.label.data.toList = [105, 100]) && plB a.proof && vdB (B.run B.ld.tbl.isVar (a.cx 4) a.proof a.end_) && decide ((B.run B.ld.tbl.isVar (a.cx 4) (wi3.map CQ) dot).code = 119) && decide ((B.run B.ld.tbl.isVar (a.cx 4) (wi3.map CQ) dot).count = 1)
 | _, _ => false
end Go.Proofs.YtbfbgfpghkijdaaGreatDoor
