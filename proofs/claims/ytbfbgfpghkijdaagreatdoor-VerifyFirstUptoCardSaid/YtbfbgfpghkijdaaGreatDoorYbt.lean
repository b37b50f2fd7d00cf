/- lemmalaw texts, part 46. -/
import Derived.Test.YtbfbgfpghkijdaaGreatDoorYbs
set_option maxRecDepth 100000
set_option linter.unusedVariables false
set_option linter.unusedSimpArgs false
set_option maxHeartbeats 32000000
namespace Go.Proofs.YtbfbgfpghkijdaaGreatDoor
open Go.RowKit
def Rx (kind : Int) (lv rv : Value) (b1 b2 : Bool) (e : Tk) : Value := .agg #[.int .i64 kind, lv, rv, .bool b1, .bool b2, .string e.text, .int .i64 e.at_.off, .int .i64 e.at_.line, .int .i64 e.at_.col]
def OS (d : Vd) (w : World) (e : Ending) (w' : World) : Prop := e = .returned (.agg (vdC d.code d.at_ d.count d.peak)) ∧ Ad [] w w'
theorem QA {st : Stk} {e : List Int} (h : (st.push e).1 = 0) : (st.push e).2 = st.lay e := by
 unfold Stk.push at h ⊢
 split at h
 ·cases h
 ·rename_i h1; rw [if_neg h1]
theorem NT {vars : Int → Bool} {l : List Pr} {st : Stk} {H : List Hy} {ps : List Pr} {g : List Int} (h : (st.apply vars l H ps g).1 = 0) : ∃ n e, (st.apply vars l H ps g).2 = st.applied n e ∧ e.length ≤ 200 := by
 unfold Stk.apply at h ⊢
 split at h
 ·cases h
 ·rename_i h1
  rw [if_neg h1]
  cases hb : Bp H (st.entries.drop (st.entries.length - H.length)) with
  | none => rw [hb] at h; cases h
  | some s =>
   rw [hb] at h
   dsimp only at h ⊢
   split at h
   ·cases h
   ·rename_i h2
    rw [if_neg h2]
    split at h
    ·cases h
    ·rename_i h3
     rw [if_neg h3]
     split at h
     ·cases h
     ·rename_i h4
      rw [if_neg h4]
      split at h
      ·cases h
      ·rename_i h5
       rw [if_neg h5]
       split at h
       ·cases h
       ·rename_i h6
        rw [if_neg h6]
        exact ⟨_, _, rfl, by omega⟩
structure L0 (st : Stk) (k : Nat) : Prop where
 cnt : st.count ≤ k
 ent : ∀ e ∈ st.entries, e.length ≤ 100000
theorem L0.lay {st : Stk} {k : Nat} (h : L0 st k) {e : List Int} (he : e.length ≤ 100000) : L0 (st.lay e) k :=
 ⟨h.cnt, fun x hx => by
  rcases List.mem_append.1 hx with hx | hx
  ·exact h.ent x hx
  ·rw [List.mem_singleton] at hx; subst hx; exact he⟩
theorem L0.applied {st : Stk} {k : Nat} (h : L0 st k) {n : Nat} {e : List Int} (he : e.length ≤ 200) : L0 (st.applied n e) (k + 1) :=
 ⟨by have := h.cnt; simp [Stk.applied, Stk.lay]; omega, fun x hx => by
  rcases List.mem_append.1 hx with hx | hx
  ·exact h.ent x (List.mem_of_mem_take hx)
  ·rw [List.mem_singleton] at hx; subst hx; omega⟩
theorem Mm {B : Bs} {c : Cx} {s : ByteArray} (hs : B.ld.Hs) {e : Nat} (h : B.step c s = .error e) : e ≠ 0 := by
 unfold Bs.step at h
 split at h
 ·cases h
 ·split at h
  ·rename_i n hn
   split at h
   ·cases h; decide
   ·rw [List.getElem?_eq_getElem (hs.finds _ _ hn)] at h
    cases h
  ·split at h <;> (cases h; decide)
theorem PI {B : Bs} {c : Cx} {s : ByteArray} {a : Asr} (h : B.step c s = .ok (.asr a)) : a ∈ B.ld.asserts := by
 unfold Bs.step at h
 split at h
 ·cases h
 ·split at h
  ·split at h
   ·cases h
   ·split at h
    ·rename_i h1
     cases h
     exact List.mem_of_getElem? h1
    ·cases h
  ·split at h <;> cases h
theorem P9 {B : Bs} {c : Cx} {s : ByteArray} {x : Hy} (h : B.step c s = .ok (.hyp x)) : x ∈ c.hyps := by
 unfold Bs.step at h
 split at h
 ·rename_i y hy
  cases h
  exact List.mem_of_find?_eq_some hy
 ·split at h
  ·split at h
   ·cases h
   ·split at h <;> cases h
  ·split at h <;> cases h
theorem Q6 (s : ByteArray) : (s.toList == [63]) = decide (s = "?".toUTF8) := by rw [← Px, show "?".toUTF8.toList = [63] from by kernel_rfl]
structure Iu (W0 : World) (nb bp m : Nat) (c : Cx) (st : Stk) (M : MP) (wr : World) : Prop where
 at_ : B3 wr m nb M c.pairs c.goal st
 fr : ∀ b, M.ev.ownBlock = some b → W0.heap.size ≤ b
 same : Ad [] W0 wr
 bx : wr.heap[bp]? = some (.cells #[.pointer (some ⟨m, 0, none⟩)] 178 (0, 0))
 bm : bp ≠ m
 m0 : W0.heap.size ≤ m
theorem Iu.on {W0 : World} {nb bp m : Nat} {c : Cx} {st : Stk} {M : MP} {wr W : World} (h : Iu W0 nb bp m c st M wr) (hs : Ad [] wr W) : Iu W0 nb bp m c st M W :=
 ⟨h.at_.same hs, h.fr, h.same.trans hs, hs.get h.bx (by simp), h.bm, h.m0⟩
theorem Iu.turn {W0 : World} {nb bp m : Nat} {c : Cx} {st st' : Stk} {M : MP} {W W' : World} (h : Iu W0 nb bp m c st M W) (hr : Dt m nb M c.pairs c.goal st' W W') : ∃ M', Iu W0 nb bp m c st' M' W' := by
 obtain ⟨M', h1, h2, h3⟩ := hr
 refine ⟨M', h1, fun b hb => ?_, h.same.then h2 fun x hx => .inr ?_, h2.get h.bx fun hx => ?_, h.bm, h.m0⟩
 ·rcases h3 b hb with h4 | h4
  ·exact h.fr b h4
  ·exact Nat.le_trans h.same.size h4
 ·rcases List.mem_cons.1 hx with rfl | hx
  ·exact h.m0
  ·exact h.fr x (Option.mem_toList.1 hx)
 ·rcases List.mem_cons.1 hx with hx | hx
  ·exact h.bm hx
  ·exact h.at_.ents.ne h.bx (by decide) (Option.mem_toList.1 hx)
theorem Iu.go {W0 : World} {nb bp m : Nat} {c : Cx} {st st' : Stk} {M : MP} {wr W W' : World} (h : Iu W0 nb bp m c st M wr) (hs : Ad [] wr W) (hr : Dt m nb M c.pairs c.goal st' W W') :
  ∃ M', Iu W0 nb bp m c st' M' W' ∧ ∀ b o, wr.heap.size ≤ b → W.heap[b]? = some o → W'.heap[b]? = some o := by
 obtain ⟨M', h1⟩ := (h.on hs).turn hr
 obtain ⟨_, _, h2, _⟩ := hr
 refine ⟨M', h1, fun b o hb ho => h2.get ho fun hx => ?_⟩
 rcases List.mem_cons.1 hx with rfl | hx
 ·exact absurd (Af h.at_.blk) (by omega)
 ·have := h.at_.ents.lt (Option.mem_toList.1 hx)
  omega
theorem Iu.end_ {W0 : World} {nb bp m : Nat} {c : Cx} {st : Stk} {M : MP} {W : World} (h : Iu W0 nb bp m c st M W) (code : Int) (t : Tk) :
  Calls Tryz.prog 97 #[.int .i64 code, tkV t, .pointer (some ⟨bp, 0, none⟩)] W fun e w' => e = .returned (.agg (vdC code t st.count st.peak)) ∧ Ad [] W0 w' :=
 (NC W m bp _ _ _ _ st.peak st.count h.bx h.at_.blk code t).mono fun _ _ ⟨h1, h2⟩ => ⟨h1, h.same.trans h2⟩
structure Sf (W0 : World) (nb bp m : Nat) (B : Bs) (vars : Int → Bool) (c : Cx) (l : List Tk) (en : Tk) (k : Nat) (st : Stk) (M : MP) (wr : World) : Prop where
 k4 : k ≤ 4000
 s : L0 st k
 run : B.runGo vars c en k (l.drop k) st = B.run vars c l en
 m : Iu W0 nb bp m c st M wr
theorem Ph {B : Bs} {vars : Int → Bool} {c : Cx} {e : Tk} {i : Nat} {st : Stk} : B.runGo vars c e i [] st = if st.endN c.goal ≠ 0 then ⟨st.endN c.goal, e, st.count, st.peak⟩ else ⟨0, Tk.none, st.count, st.peak⟩ := by
 unfold Stk.endN
 simp only [Bs.runGo]
 by_cases h1 : st.entries.length ≠ 1
 ·rw [if_pos h1, if_pos h1, if_pos (by decide)]
 ·rw [if_neg h1, if_neg h1]
  by_cases h2 : st.entries.headD [] ≠ c.goal
  ·rw [if_pos h2, if_pos h2, if_pos (by decide)]
  ·rw [if_neg h2, if_neg h2, if_neg (by decide)]
theorem Eb (w : World) (o o' : Obj) : ((w.alloc o).alloc o').heap[w.heap.size + 1]? = some o' := by rw [← AA w o]; exact Aj _ _
theorem Kj.of_new {w w' : World} {a : Asr} {p : AsP} (h : ET w a p w') : Kj w' p.fh p.fp p.fg a.hyps a.pairs a.goal := ⟨⟨_, h.inn.fh⟩, h.inn.fp.row, Seg.of_row h.inn.fg.row⟩
theorem Sb : Tryz.prog.built 59 [] = some #[.string ⟨#[]⟩, .int .i64 0, .int .i64 0, .int .i64 0] := by kernel_rfl
structure CF (w : World) (nb : Nat) (P : BP) (B : Bs) : Prop where
 at_ : FG w nb P B
 nice : B.Nice
 hs : B.ld.Hs
theorem CF.same {w w' : World} {nb : Nat} {P : BP} {B : Bs} (h : CF w nb P B) (hs : Ad [] w w') : CF w' nb P B := ⟨h.at_.same hs, h.nice, h.hs⟩
structure Kr (w : World) (c : Cx) (hv pv gv : Value) : Prop where
 hyps : ∃ evs, Bi w [] hv evs c.hyps
 hln : c.hyps.length ≤ 1000000
 hle : ∀ x ∈ c.hyps, x.expr.length ≤ 100000
 pairs : Row w 47 2 pv c.pairs.length (AT c.pairs)
 hpn : c.pairs.length ≤ 1000000
 goal : Seg w gv c.goal
 hgn : c.goal.length ≤ 1000000
theorem Kr.same {w w' : World} {c : Cx} {hv pv gv : Value} (h : Kr w c hv pv gv) (hs : Ad [] w w') : Kr w' c hv pv gv :=
 ⟨h.hyps.imp fun _ h => h.same hs, h.hln, h.hle, h.pairs.same hs (by simp), h.hpn, h.goal.same hs, h.hgn⟩
theorem zq28 {P : Prop} (h : P := by
 exact ⟨congrArg (fun d : Vd => Ending.returned (.agg (vdC d.code d.at_ d.count d.peak))) Hrun.out, (Hw0.out.trans Hs9.out).then Hs3.out fun x hx => .inr (by simp at hx; omega)⟩) : P := h
theorem zq77 {P : Prop} (h : P := by
 go_roundw
 case rel =>
  obtain ⟨M', h1, -⟩ := HI.out.m.go Hs7.out Hm8.out
  exact ⟨k + 1, st', M', by go_num, hlt, ⟨hk3, Hlay.out H0.out, Hrun.out, h1⟩⟩
 case measure => simp [intOf]; omega) : P := h
theorem O7 (w : World) (nb : Nat) (P : BP) (B : Bs) (h : CF w nb P B) (c : Cx) (hv pv mv gv : Value) (hc : Kr w c hv pv gv) (kind : Int) (lv rv : Value) (b1 b2 : Bool) (l : List Tk) (en : Tk) (hl : Row w 59 4 lv l.length (AC l)) (hll : l.length ≤ 10000000) :
  Calls Tryz.prog 48 #[.pointer (some ⟨nb, 0, none⟩), cxV hv pv mv c.before gv, Rx kind lv rv b1 b2 en] w (OS (B.run B.ld.tbl.isVar c l en) w) := by
 have hnw := fun (W : World) (hW : Ad [] w W) => N2 W nb hv pv mv gv c.before c.pairs c.goal (hc.pairs.same hW (by simp)) (hc.goal.same hW) hc.hpn hc.hgn
 have hst := fun (W : World) (hW : Ad [] w W) (s : ByteArray) => NS W nb P B (h.at_.same hW) h.nice h.hs.hyps c hv pv mv gv _ ((hc.same hW).hyps.choose_spec) hc.hln (fun x hx => Nat.le_trans (hc.hle x hx) (by decide)) s (h.hs.finds s)
 obtain ⟨Ah, ch, rfl⟩ := hc.hyps.choose_spec.row.shape
 obtain ⟨Al, cl, rfl⟩ := hl.shape
 obtain ⟨vars, hvars⟩ : ∃ v, v = B.ld.tbl.isVar := ⟨_, rfl⟩
 have hvs : Ik w nb vars := by rw [hvars]; exact h.at_.vars
 have hsp : ∀ s e, B.step c s = .error e → e ≠ 0 := fun s e => Mm h.hs
 have hsm : ∀ s a, B.step c s = .ok (.asr a) → GT a := fun s a ha => h.nice.small a (PI ha)
 have hsh : ∀ s x, B.step c s = .ok (.hyp x) → x.expr.length ≤ 100000 := fun s x hx => hc.hle x (P9 hx)
 have hpn := hc.hpn
 have hgn := hc.hgn
 rw [← hvars]
 unfold cxV fnB at hnw
 unfold cxV at hst
 unfold cxV Rx
 have Hnw := Kd hnw
 have Hst := Kd hst
 have Hl := Kd hl
 have Hvs := Kd hvs
 have Hsp := Kd hsp
 have Hsm := Kd hsm
 have Hsh := Kd hsh
 clear hnw hst h hc hl hvs hvars hsp hsm hsh
 go_enter Tryz.func48, Tryz.ntmps48
 go_upto_region 1 with fail
 have hw0 := ((Ad.alloc [] w (.cells #[.slice Ah c.hyps.length ch, pv, mv, .int .i64 c.before, gv] 35)).trans (Ad.alloc [] _ (.cells #[.int .i64 kind, .slice Al l.length cl, rv, .bool b1, .bool b2, .string en.text, .int .i64 en.at_.off, .int .i64 en.at_.line, .int .i64 en.at_.col] 120))).trans (Ad.alloc [] _ (.cells #[.string ⟨#[]⟩, .int .i64 0, .string ⟨#[]⟩, .int .i64 0, .int .i64 0, .int .i64 0, .int .i64 0, .int .i64 0] 61))
 have hX := AR (AR (Aj w (.cells #[.slice Ah c.hyps.length ch, pv, mv, .int .i64 c.before, gv] 35)) (.cells #[.int .i64 kind, .slice Al l.length cl, rv, .bool b1, .bool b2, .string en.text, .int .i64 en.at_.off, .int .i64 en.at_.line, .int .i64 en.at_.col] 120)) (.cells #[.string ⟨#[]⟩, .int .i64 0, .string ⟨#[]⟩, .int .i64 0, .int .i64 0, .int .i64 0, .int .i64 0, .int .i64 0] 61)
 have hY : (((w.alloc (.cells #[.slice Ah c.hyps.length ch, pv, mv, .int .i64 c.before, gv] 35)).alloc (.cells #[.int .i64 kind, .slice Al l.length cl, rv, .bool b1, .bool b2, .string en.text, .int .i64 en.at_.off, .int .i64 en.at_.line, .int .i64 en.at_.col] 120)).alloc (.cells #[.string ⟨#[]⟩, .int .i64 0, .string ⟨#[]⟩, .int .i64 0, .int .i64 0, .int .i64 0, .int .i64 0, .int .i64 0] 61)).heap[w.heap.size + 1]? = some (.cells #[.int .i64 kind, .slice Al l.length cl, rv, .bool b1, .bool b2, .string en.text, .int .i64 en.at_.off, .int .i64 en.at_.line, .int .i64 en.at_.col] 120) := AR (by rw [← AA w (.cells #[.slice Ah c.hyps.length ch, pv, mv, .int .i64 c.before, gv] 35)]; exact Aj _ _) _
 have hZ : (((w.alloc (.cells #[.slice Ah c.hyps.length ch, pv, mv, .int .i64 c.before, gv] 35)).alloc (.cells #[.int .i64 kind, .slice Al l.length cl, rv, .bool b1, .bool b2, .string en.text, .int .i64 en.at_.off, .int .i64 en.at_.line, .int .i64 en.at_.col] 120)).alloc (.cells #[.string ⟨#[]⟩, .int .i64 0, .string ⟨#[]⟩, .int .i64 0, .int .i64 0, .int .i64 0, .int .i64 0, .int .i64 0] 61)).heap[w.heap.size + 1 + 1]? = some (.cells #[.string ⟨#[]⟩, .int .i64 0, .string ⟨#[]⟩, .int .i64 0, .int .i64 0, .int .i64 0, .int .i64 0, .int .i64 0] 61) := by rw [← AA w (.cells #[.slice Ah c.hyps.length ch, pv, mv, .int .i64 c.before, gv] 35), ← AA (w.alloc (.cells #[.slice Ah c.hyps.length ch, pv, mv, .int .i64 c.before, gv] 35)) (.cells #[.int .i64 kind, .slice Al l.length cl, rv, .bool b1, .bool b2, .string en.text, .int .i64 en.at_.off, .int .i64 en.at_.line, .int .i64 en.at_.col] 120)]; exact Aj _ _
 generalize ((w.alloc (.cells #[.slice Ah c.hyps.length ch, pv, mv, .int .i64 c.before, gv] 35)).alloc (.cells #[.int .i64 kind, .slice Al l.length cl, rv, .bool b1, .bool b2, .string en.text, .int .i64 en.at_.off, .int .i64 en.at_.line, .int .i64 en.at_.col] 120)).alloc (.cells #[.string ⟨#[]⟩, .int .i64 0, .string ⟨#[]⟩, .int .i64 0, .int .i64 0, .int .i64 0, .int .i64 0, .int .i64 0] 61) = W0 at hw0 hX hY hZ ⊢
 have Hw0 := Kd hw0
 have HX := Kd hX
 have HY := Kd hY
 have HZ := Kd hZ
 obtain ⟨x0, x1, x2, x3, x4, xf⟩ := Ee hX
 have xl := Af hX
 clear hw0 hX hY hZ
 go_upto_region 4 with (go_at_call 91; go_must (refine (Hnw.out _ Hw0.out).mono ?_; rintro e1 W1 ⟨m, M, rfl, hM, hev, hml, hs1⟩; have Hs1 := Kd hs1; have HM := Kd hM; have Hev := Kd hev; clear hs1 hM hev))
 have hlm := Af HM.out.blk
 have hbx := Aj W1 (.cells #[.pointer (some ⟨m, 0, none⟩)] 178)
 have hM2 : Iu W0 nb W1.heap.size m c ⟨[], 0, 0⟩ M (W1.alloc (.cells #[.pointer (some ⟨m, 0, none⟩)] 178)) :=
  ⟨HM.out.same (Ad.alloc [] _ _), fun b hb => (by rw [Hev.out] at hb; cases hb), Hs1.out.trans (Ad.alloc [] _ _), hbx, by omega, hml⟩
 obtain ⟨bp, hbp⟩ : ∃ b, b = W1.heap.size := ⟨_, rfl⟩
 rw [← hbp] at hM2 hbx ⊢
 obtain ⟨W2, hW2⟩ : ∃ W, W = W1.alloc (.cells #[.pointer (some ⟨m, 0, none⟩)] 178) := ⟨_, rfl⟩
 rw [← hW2] at hM2 hbx ⊢
 have hY2 := hM2.same.get HY.out (by simp)
 obtain ⟨y0, y1, y2, y3, y4, y5, y6, y7, y8, yf⟩ := QS hY2
 have yl := Af hY2
 have HM2 := Kd hM2
 clear hY2 hM2 hbx hW2 hbp HM Hev Hs1 hml hlm x0 x1 x2 x3 x4 xf xl Hnw
 go_wp2
 clear y0 y1 y2 y3 y4 y5 y6 y7 y8 yf yl
 go_loopw [27] (fun u wr => ∃ (k : Nat) (st : Stk) (M : MP), u = .int .i64 k ∧ k ≤ l.length ∧ Sf W0 nb bp m B vars c l en k st M wr) (fun u _ => l.length - (intOf u).toNat)
 case atStart => exact ⟨0, ⟨[], 0, 0⟩, M, rfl, Nat.zero_le _, ⟨Nat.zero_le _, ⟨Nat.le_refl _, by simp⟩, rfl, HM2.out⟩⟩
 case round =>
  obtain ⟨k, st, M, rfl, hk, hI⟩ := hrel
  have s0 := Ai (i := 0) (v := .pointer (some ⟨m, 0, none⟩)) hI.m.bx
  have sl := Af hI.m.bx
  by_cases hlt : k < l.length
  ·obtain ⟨g, cl', hv1, t0, t1, t2, t3, hgl⟩ := DA (Hl.out.same (Hw0.out.trans hI.m.same) (by simp)) hlt
   cases hv1
   have hrun := hI.run
   rw [List.drop_eq_getElem_cons hlt] at hrun
   simp only [Bs.runGo] at hrun
   have HI := Kd hI
   have k4 := hI.k4
   have hX := hI.m.same.get HX.out (by simp)
   obtain ⟨x0, x1, x2, x3, x4, xf⟩ := Ee hX
   have xl := Af hX
   obtain ⟨T, hT⟩ : ∃ T, l[k] = T := ⟨_, rfl⟩
   rw [hT] at t0 t1 t2 t3 hrun
   clear hI hX hT
   by_cases h4 : k = 4000
   ·have hw : B.word vars c k T st = (104, st) := by unfold Bs.word; rw [if_pos h4]
    rw [hw, if_pos (show (104 : Nat) ≠ 0 by decide)] at hrun
    have Hrun := Kd hrun
    have k0 : ((k : Int) == 4000) = true := by rw [h4]; rfl
    clear h4 hw hrun
    have hend := fun (W : World) (hW : Ad [] _ W) => (HI.out.m.on hW).end_ 104 T
    unfold tkV at hend
    have Hend := Kd hend
    clear hend
    go_wp2_with (first
     | (go_at_call 97; go_must (refine (Hend.out _ (Ad.alloc _ _ _)).mono ?_; rintro e9 W9 ⟨rfl, hs9⟩; have Hs9 := Kd hs9; clear hs9))
     | (refine AU rfl 61 _ _ rfl (w.heap.size + 1 + 1) (vdC 104 T st.count st.peak) (by go_simp) (by go_simp) 61 #[.string ⟨#[]⟩, .int .i64 0, .string ⟨#[]⟩, .int .i64 0, .int .i64 0, .int .i64 0, .int .i64 0, .int .i64 0] (Hs9.out.get HZ.out (by simp)) (by kernel_rfl) rfl (by simp [vdC, Value.oneCell']) ?_; intro W3 hR3 hs3; have HR3 := Kd hR3; have Hs3 := Kd hs3; clear hR3 hs3))
    refine bodyPost_ret_by (v := .agg (vdC 104 T st.count st.peak)) (results_cell_row rfl _ W3 (w.heap.size + 1 + 1) 61 _ _ _ rfl HR3.out Tryz.underlying61 rfl (by kernel_rfl)) rfl ?_
    exact zq28
   ·have k0 : ((k : Int) == 4000) = false := by rw [beq_eq_false_iff_ne]; omega
    have hwd : B.word vars c k T st = if T.text = "?".toUTF8 then (105, st) else match B.step c T.text with
      | .error e => (e, st)
      | .ok (.hyp h) => st.push h.expr
      | .ok (.asr a) => st.apply vars c.pairs a.hyps a.pairs a.goal := by unfold Bs.word; rw [if_neg h4]; rfl
    have hk3 : k < 4000 := by omega
    clear h4
    by_cases hq : T.text = "?".toUTF8
    ·rw [if_pos hq] at hwd
     rw [hwd, if_pos (show (105 : Nat) ≠ 0 by decide)] at hrun
     have Hrun := Kd hrun
     have q0 : (T.text.toList == [63]) = true := by rw [Q6]; exact decide_eq_true hq
     clear hq hwd hrun
     have hend := fun (W : World) (hW : Ad [] _ W) => (HI.out.m.on hW).end_ 105 T
     unfold tkV at hend
     have Hend := Kd hend
     clear hend
     go_wp2_with (first
      | (go_at_call 97; go_must (refine (Hend.out _ (Ad.alloc _ _ _)).mono ?_; rintro e9 W9 ⟨rfl, hs9⟩; have Hs9 := Kd hs9; clear hs9))
      | (refine AU rfl 61 _ _ rfl (w.heap.size + 1 + 1) (vdC 105 T st.count st.peak) (by go_simp) (by go_simp) 61 #[.string ⟨#[]⟩, .int .i64 0, .string ⟨#[]⟩, .int .i64 0, .int .i64 0, .int .i64 0, .int .i64 0, .int .i64 0] (Hs9.out.get HZ.out (by simp)) (by kernel_rfl) rfl (by simp [vdC, Value.oneCell']) ?_; intro W3 hR3 hs3; have HR3 := Kd hR3; have Hs3 := Kd hs3; clear hR3 hs3))
     refine bodyPost_ret_by (v := .agg (vdC 105 T st.count st.peak)) (results_cell_row rfl _ W3 (w.heap.size + 1 + 1) 61 _ _ _ rfl HR3.out Tryz.underlying61 rfl (by kernel_rfl)) rfl ?_
     exact zq28
    ·rw [if_neg hq] at hwd
     have q0 : (T.text.toList == [63]) = false := by rw [Q6]; exact decide_eq_false hq
     have hstp := fun (W : World) (hW : Ad [] wr W) => Hst.out W ((Hw0.out.trans HI.out.m.same).trans hW) T.text
     unfold Ra at hstp
     clear hq
     cases hs : B.step c T.text with
     | error e =>
      rw [hs] at hwd
      dsimp only at hwd
      have he := Hsp.out _ _ hs
      rw [hwd, if_pos he] at hrun
      have Hrun := Kd hrun
      simp only [hs] at hstp
      have Hstp := Kd hstp
      have e0 : ((e : Int) != 0) = true := by simpa using he
      clear hwd hrun hstp hs he
      have hend := fun (W : World) (hW : Ad [] _ W) => (HI.out.m.on hW).end_ e T
      unfold tkV at hend
      have Hend := Kd hend
      clear hend
      go_wp2_with (first
       | (go_at_call 98; go_must (refine (Hstp.out _ (Ad.alloc _ _ _)).mono ?_; rintro e5 W5 ⟨hs5, rfl⟩; have Hs5 := Kd hs5; unfold hy0 asZ; clear hs5))
       | (refine AU rfl 49 _ _ rfl W5.heap.size #[.string ⟨#[]⟩, .bool false, .int .i64 0, .slice none 0 0] (by go_simp) (by go_simp) 49 #[.string ⟨#[]⟩, .bool false, .int .i64 0, .slice none 0 0] (AR (Aj W5 (.cells #[.string ⟨#[]⟩, .bool false, .int .i64 0, .slice none 0 0] 49)) (.cells #[.int .i64 0, .string ⟨#[]⟩, .bool false, .slice none 0 0, .slice none 0 0, .slice none 0 0, .slice none 0 0, .slice none 0 0, .slice none 0 0, .string ⟨#[]⟩, .int .i64 0, .int .i64 0, .int .i64 0, .string ⟨#[]⟩, .int .i64 0, .int .i64 0, .int .i64 0] 71)) (by kernel_rfl) rfl (by simp [Value.oneCell']) ?_; intro W6 hR6 hs6; have hA6 := hs6.get (Eb W5 (.cells #[.string ⟨#[]⟩, .bool false, .int .i64 0, .slice none 0 0] 49) (.cells #[.int .i64 0, .string ⟨#[]⟩, .bool false, .slice none 0 0, .slice none 0 0, .slice none 0 0, .slice none 0 0, .slice none 0 0, .slice none 0 0, .string ⟨#[]⟩, .int .i64 0, .int .i64 0, .int .i64 0, .string ⟨#[]⟩, .int .i64 0, .int .i64 0, .int .i64 0] 71)) (by simp); have HR6 := Kd hR6; have HA6 := Kd hA6; have Hs6 : Hid (Ad [] W5 W6) := Kd (((Ad.alloc [] W5 _).trans (Ad.alloc [] _ _)).then hs6 fun x hx => .inr (by simp at hx; omega)); clear hR6 hs6 hA6)
       | (refine AU rfl 71 _ _ rfl (W5.heap.size + 1) #[.int .i64 0, .string ⟨#[]⟩, .bool false, .slice none 0 0, .slice none 0 0, .slice none 0 0, .slice none 0 0, .slice none 0 0, .slice none 0 0, .string ⟨#[]⟩, .int .i64 0, .int .i64 0, .int .i64 0, .string ⟨#[]⟩, .int .i64 0, .int .i64 0, .int .i64 0] (by go_simp) (by go_simp) 71 #[.int .i64 0, .string ⟨#[]⟩, .bool false, .slice none 0 0, .slice none 0 0, .slice none 0 0, .slice none 0 0, .slice none 0 0, .slice none 0 0, .string ⟨#[]⟩, .int .i64 0, .int .i64 0, .int .i64 0, .string ⟨#[]⟩, .int .i64 0, .int .i64 0, .int .i64 0] HA6.out EO rfl (by simp [Value.oneCell']) ?_; intro W7 hR7 hs7; have HR7 := Kd hR7; have HY7 := Kd (hs7.get HR6.out (by simp)); have Hs57 : Hid (Ad [] W5 W7) := Kd (Hs6.out.then hs7 fun x hx => .inr (by simp at hx; omega)); have Hs7 : Hid (Ad [] wr W7) := Kd (((Ad.alloc [] wr (.cells #[.string T.text, .int .i64 T.at_.off, .int .i64 T.at_.line, .int .i64 T.at_.col] 59)).trans Hs5.out).trans Hs57.out); have HT7 := Kd ((Hs5.out.trans Hs57.out).get (Aj wr (.cells #[.string T.text, .int .i64 T.at_.off, .int .i64 T.at_.line, .int .i64 T.at_.col] 59)) (by simp)); obtain ⟨d0, d1, d2, d3, df⟩ := BV HT7.out; have dl := Af HT7.out; have s7 := Ai (i := 0) (v := .pointer (some ⟨m, 0, none⟩)) (Hs7.out.get HI.out.m.bx (by simp)); have sl7 := Af (Hs7.out.get HI.out.m.bx (by simp)); obtain ⟨b0, b1, b2, b3, b4, b5, b6, b7, b8, b9, b10, b11, b12, b13, b14, b15, b16, bf⟩ := Gw hR7; have bl := Af hR7; have hY7 := HY7.out; obtain ⟨h0, h1, h2, h3, hf⟩ := BV hY7; have hl := Af hY7; clear hR7 hs7 hY7)
       | (go_at_call 97; go_must (refine (Hend.out _ Hs7.out).mono ?_; rintro e9 W9 ⟨rfl, hs9⟩; have Hs9 := Kd hs9; clear hs9))
       | (refine AU rfl 61 _ _ rfl (w.heap.size + 1 + 1) (vdC e T st.count st.peak) (by go_simp) (by go_simp) 61 #[.string ⟨#[]⟩, .int .i64 0, .string ⟨#[]⟩, .int .i64 0, .int .i64 0, .int .i64 0, .int .i64 0, .int .i64 0] (Hs9.out.get HZ.out (by simp)) (by kernel_rfl) rfl (by simp [vdC, Value.oneCell']) ?_; intro W3 hR3 hs3; have HR3 := Kd hR3; have Hs3 := Kd hs3; clear hR3 hs3)
       )
      refine bodyPost_ret_by (v := .agg (vdC e T st.count st.peak)) (results_cell_row rfl _ W3 (w.heap.size + 1 + 1) 61 _ _ _ rfl HR3.out Tryz.underlying61 rfl (by kernel_rfl)) rfl ?_
      exact zq28
     | ok r =>
      cases r with
      | hyp x =>
       rw [hs] at hwd
       dsimp only at hwd
       have hxl := Hsh.out _ _ hs
       simp only [hs] at hstp
       have Hstp := Kd hstp
       have hpu := fun (W : World) (hW : Ad [] wr W) (v : Value) (hv : Row W 3 1 v x.expr.length (Ay x.expr)) => Np W m nb M c.pairs c.goal st (HI.out.m.on hW).at_ v x.expr (Seg.of_row hv) (Nat.le_trans hxl (by decide))
       unfold Q9 at hpu
       obtain ⟨n, st', hn⟩ : ∃ n st', st.push x.expr = (n, st') := ⟨_, _, rfl⟩
       have hlay : n = 0 → L0 st' (k + 1) := fun h0 => by
        have h1 := QA (st := st) (e := x.expr) (by rw [hn]; exact h0)
        rw [hn] at h1
        dsimp only at h1
        rw [h1]
        have h2 := HI.out.s.lay hxl
        exact ⟨Nat.le_succ_of_le h2.cnt, h2.ent⟩
       rw [hn] at hwd
       simp only [hn] at hpu
       rw [hwd] at hrun
       dsimp only at hrun
       have Hpu := Kd hpu
       have Hlay := Kd hlay
       clear hn hwd hstp hs hpu hlay
       by_cases h0 : n = 0
       ·rw [if_neg (fun h => h h0)] at hrun
        have Hrun := Kd hrun
        have n0 : ((n : Int) != 0) = false := by simpa using h0
        have H0 := Kd h0
        clear hrun h0
        go_wp2_with (first
         | (go_at_call 98; go_must (refine (Hstp.out _ (Ad.alloc _ _ _)).mono ?_; rintro e5 W5 ⟨hs5, ev, rfl, hrow, hfr⟩; obtain ⟨A1, c1, rfl⟩ := hrow.shape; have Hrow := Kd hrow; have Hs5 := Kd hs5; unfold asZ; clear hs5 hrow hfr))
         | (refine AU rfl 49 _ _ rfl W5.heap.size #[.string x.label, .bool x.floating, .int .i64 x.var, .slice A1 x.expr.length c1] (by go_simp) (by go_simp) 49 #[.string ⟨#[]⟩, .bool false, .int .i64 0, .slice none 0 0] (AR (Aj W5 (.cells #[.string ⟨#[]⟩, .bool false, .int .i64 0, .slice none 0 0] 49)) (.cells #[.int .i64 0, .string ⟨#[]⟩, .bool false, .slice none 0 0, .slice none 0 0, .slice none 0 0, .slice none 0 0, .slice none 0 0, .slice none 0 0, .string ⟨#[]⟩, .int .i64 0, .int .i64 0, .int .i64 0, .string ⟨#[]⟩, .int .i64 0, .int .i64 0, .int .i64 0] 71)) (by kernel_rfl) rfl (by simp [Value.oneCell']) ?_; intro W6 hR6 hs6; have hA6 := hs6.get (Eb W5 (.cells #[.string ⟨#[]⟩, .bool false, .int .i64 0, .slice none 0 0] 49) (.cells #[.int .i64 0, .string ⟨#[]⟩, .bool false, .slice none 0 0, .slice none 0 0, .slice none 0 0, .slice none 0 0, .slice none 0 0, .slice none 0 0, .string ⟨#[]⟩, .int .i64 0, .int .i64 0, .int .i64 0, .string ⟨#[]⟩, .int .i64 0, .int .i64 0, .int .i64 0] 71)) (by simp); have HR6 := Kd hR6; have HA6 := Kd hA6; have Hs6 : Hid (Ad [] W5 W6) := Kd (((Ad.alloc [] W5 _).trans (Ad.alloc [] _ _)).then hs6 fun x hx => .inr (by simp at hx; omega)); clear hR6 hs6 hA6)
         | (refine AU rfl 71 _ _ rfl (W5.heap.size + 1) #[.int .i64 0, .string ⟨#[]⟩, .bool false, .slice none 0 0, .slice none 0 0, .slice none 0 0, .slice none 0 0, .slice none 0 0, .slice none 0 0, .string ⟨#[]⟩, .int .i64 0, .int .i64 0, .int .i64 0, .string ⟨#[]⟩, .int .i64 0, .int .i64 0, .int .i64 0] (by go_simp) (by go_simp) 71 #[.int .i64 0, .string ⟨#[]⟩, .bool false, .slice none 0 0, .slice none 0 0, .slice none 0 0, .slice none 0 0, .slice none 0 0, .slice none 0 0, .string ⟨#[]⟩, .int .i64 0, .int .i64 0, .int .i64 0, .string ⟨#[]⟩, .int .i64 0, .int .i64 0, .int .i64 0] HA6.out EO rfl (by simp [Value.oneCell']) ?_; intro W7 hR7 hs7; have HR7 := Kd hR7; have HY7 := Kd (hs7.get HR6.out (by simp)); have Hs57 : Hid (Ad [] W5 W7) := Kd (Hs6.out.then hs7 fun x hx => .inr (by simp at hx; omega)); have Hs7 : Hid (Ad [] wr W7) := Kd (((Ad.alloc [] wr (.cells #[.string T.text, .int .i64 T.at_.off, .int .i64 T.at_.line, .int .i64 T.at_.col] 59)).trans Hs5.out).trans Hs57.out); have HT7 := Kd ((Hs5.out.trans Hs57.out).get (Aj wr (.cells #[.string T.text, .int .i64 T.at_.off, .int .i64 T.at_.line, .int .i64 T.at_.col] 59)) (by simp)); obtain ⟨d0, d1, d2, d3, df⟩ := BV HT7.out; have dl := Af HT7.out; have s7 := Ai (i := 0) (v := .pointer (some ⟨m, 0, none⟩)) (Hs7.out.get HI.out.m.bx (by simp)); have sl7 := Af (Hs7.out.get HI.out.m.bx (by simp)); obtain ⟨b0, b1, b2, b3, b4, b5, b6, b7, b8, b9, b10, b11, b12, b13, b14, b15, b16, bf⟩ := Gw hR7; have bl := Af hR7; have hY7 := HY7.out; obtain ⟨h0, h1, h2, h3, hf⟩ := BV hY7; have hl := Af hY7; clear hR7 hs7 hY7)
         | (go_at_call 96; go_must (refine (Hpu.out W7 Hs7.out _ (Hrow.out.same Hs57.out (by simp))).mono ?_; rintro e8 W8 ⟨rfl, hm8⟩; have Hm8 := Kd hm8; clear hm8)))
        exact zq77
       ·rw [if_pos h0] at hrun
        have Hrun := Kd hrun
        have n0 : ((n : Int) != 0) = true := by simpa using h0
        clear hrun h0
        go_wp2_with (first
         | (go_at_call 98; go_must (refine (Hstp.out _ (Ad.alloc _ _ _)).mono ?_; rintro e5 W5 ⟨hs5, ev, rfl, hrow, hfr⟩; obtain ⟨A1, c1, rfl⟩ := hrow.shape; have Hrow := Kd hrow; have Hs5 := Kd hs5; unfold asZ; clear hs5 hrow hfr))
         | (refine AU rfl 49 _ _ rfl W5.heap.size #[.string x.label, .bool x.floating, .int .i64 x.var, .slice A1 x.expr.length c1] (by go_simp) (by go_simp) 49 #[.string ⟨#[]⟩, .bool false, .int .i64 0, .slice none 0 0] (AR (Aj W5 (.cells #[.string ⟨#[]⟩, .bool false, .int .i64 0, .slice none 0 0] 49)) (.cells #[.int .i64 0, .string ⟨#[]⟩, .bool false, .slice none 0 0, .slice none 0 0, .slice none 0 0, .slice none 0 0, .slice none 0 0, .slice none 0 0, .string ⟨#[]⟩, .int .i64 0, .int .i64 0, .int .i64 0, .string ⟨#[]⟩, .int .i64 0, .int .i64 0, .int .i64 0] 71)) (by kernel_rfl) rfl (by simp [Value.oneCell']) ?_; intro W6 hR6 hs6; have hA6 := hs6.get (Eb W5 (.cells #[.string ⟨#[]⟩, .bool false, .int .i64 0, .slice none 0 0] 49) (.cells #[.int .i64 0, .string ⟨#[]⟩, .bool false, .slice none 0 0, .slice none 0 0, .slice none 0 0, .slice none 0 0, .slice none 0 0, .slice none 0 0, .string ⟨#[]⟩, .int .i64 0, .int .i64 0, .int .i64 0, .string ⟨#[]⟩, .int .i64 0, .int .i64 0, .int .i64 0] 71)) (by simp); have HR6 := Kd hR6; have HA6 := Kd hA6; have Hs6 : Hid (Ad [] W5 W6) := Kd (((Ad.alloc [] W5 _).trans (Ad.alloc [] _ _)).then hs6 fun x hx => .inr (by simp at hx; omega)); clear hR6 hs6 hA6)
         | (refine AU rfl 71 _ _ rfl (W5.heap.size + 1) #[.int .i64 0, .string ⟨#[]⟩, .bool false, .slice none 0 0, .slice none 0 0, .slice none 0 0, .slice none 0 0, .slice none 0 0, .slice none 0 0, .string ⟨#[]⟩, .int .i64 0, .int .i64 0, .int .i64 0, .string ⟨#[]⟩, .int .i64 0, .int .i64 0, .int .i64 0] (by go_simp) (by go_simp) 71 #[.int .i64 0, .string ⟨#[]⟩, .bool false, .slice none 0 0, .slice none 0 0, .slice none 0 0, .slice none 0 0, .slice none 0 0, .slice none 0 0, .string ⟨#[]⟩, .int .i64 0, .int .i64 0, .int .i64 0, .string ⟨#[]⟩, .int .i64 0, .int .i64 0, .int .i64 0] HA6.out EO rfl (by simp [Value.oneCell']) ?_; intro W7 hR7 hs7; have HR7 := Kd hR7; have HY7 := Kd (hs7.get HR6.out (by simp)); have Hs57 : Hid (Ad [] W5 W7) := Kd (Hs6.out.then hs7 fun x hx => .inr (by simp at hx; omega)); have Hs7 : Hid (Ad [] wr W7) := Kd (((Ad.alloc [] wr (.cells #[.string T.text, .int .i64 T.at_.off, .int .i64 T.at_.line, .int .i64 T.at_.col] 59)).trans Hs5.out).trans Hs57.out); have HT7 := Kd ((Hs5.out.trans Hs57.out).get (Aj wr (.cells #[.string T.text, .int .i64 T.at_.off, .int .i64 T.at_.line, .int .i64 T.at_.col] 59)) (by simp)); obtain ⟨d0, d1, d2, d3, df⟩ := BV HT7.out; have dl := Af HT7.out; have s7 := Ai (i := 0) (v := .pointer (some ⟨m, 0, none⟩)) (Hs7.out.get HI.out.m.bx (by simp)); have sl7 := Af (Hs7.out.get HI.out.m.bx (by simp)); obtain ⟨b0, b1, b2, b3, b4, b5, b6, b7, b8, b9, b10, b11, b12, b13, b14, b15, b16, bf⟩ := Gw hR7; have bl := Af hR7; have hY7 := HY7.out; obtain ⟨h0, h1, h2, h3, hf⟩ := BV hY7; have hl := Af hY7; clear hR7 hs7 hY7)
         | (go_at_call 96; go_must (refine (Hpu.out W7 Hs7.out _ (Hrow.out.same Hs57.out (by simp))).mono ?_; rintro e8 W8 ⟨rfl, hm8⟩; obtain ⟨M', hm', hk'⟩ := HI.out.m.go Hs7.out hm8; have hend := hm'.end_ n T; unfold tkV at hend; have Hend := Kd hend; have hT8 := hk' _ _ (Nat.le_refl _) HT7.out; clear d0 d1 d2 d3 df dl; obtain ⟨d0, d1, d2, d3, df⟩ := BV hT8; have dl := Af hT8; clear hm8 hm' hk' hend hT8))
         | (go_at_call 97; go_must (refine (Hend.out).mono ?_; rintro e9 W9 ⟨rfl, hs9⟩; have Hs9 := Kd hs9; clear hs9))
         | (refine AU rfl 61 _ _ rfl (w.heap.size + 1 + 1) (vdC n T st'.count st'.peak) (by go_simp) (by go_simp) 61 #[.string ⟨#[]⟩, .int .i64 0, .string ⟨#[]⟩, .int .i64 0, .int .i64 0, .int .i64 0, .int .i64 0, .int .i64 0] (Hs9.out.get HZ.out (by simp)) (by kernel_rfl) rfl (by simp [vdC, Value.oneCell']) ?_; intro W3 hR3 hs3; have HR3 := Kd hR3; have Hs3 := Kd hs3; clear hR3 hs3)
         )
        refine bodyPost_ret_by (v := .agg (vdC n T st'.count st'.peak)) (results_cell_row rfl _ W3 (w.heap.size + 1 + 1) 61 _ _ _ rfl HR3.out Tryz.underlying61 rfl (by kernel_rfl)) rfl ?_
        exact zq28
      | asr a =>
       rw [hs] at hwd
       dsimp only at hwd
       have hsm := Hsm.out _ _ hs
       simp only [hs] at hstp
       have Hstp := Kd hstp
       have hc1 := HI.out.s.cnt
       have hap := fun (W : World) (hW : Ad [] wr W) (fh fp fg : Value) (hf : Kj W fh fp fg a.hyps a.pairs a.goal) => Lp W m nb vars (Hvs.out.same ((Hw0.out.trans HI.out.m.same).trans hW)) M c.pairs c.goal st (HI.out.m.on hW).at_ fh fp fg a.hyps a.pairs a.goal hf hsm.hyps hsm.pairs hpn hsm.goal HI.out.s.ent (fun x hx => Nat.le_trans (hsm.he x hx) (by decide)) (by omega)
       unfold RV at hap
       obtain ⟨n, st', hn⟩ : ∃ n st', st.apply vars c.pairs a.hyps a.pairs a.goal = (n, st') := ⟨_, _, rfl⟩
       have hlay : n = 0 → L0 st' (k + 1) := fun h0 => by
        obtain ⟨j, e, h1, h2⟩ := NT (vars := vars) (l := c.pairs) (st := st) (H := a.hyps) (ps := a.pairs) (g := a.goal) (by rw [hn]; exact h0)
        rw [hn] at h1
        dsimp only at h1
        rw [h1]
        exact HI.out.s.applied h2
       rw [hn] at hwd
       simp only [hn] at hap
       rw [hwd] at hrun
       dsimp only at hrun
       have Hap := Kd hap
       have Hlay := Kd hlay
       clear hn hwd hstp hs hap hlay hsm hc1
       by_cases h0 : n = 0
       ·rw [if_neg (fun h => h h0)] at hrun
        have Hrun := Kd hrun
        have n0 : ((n : Int) != 0) = false := by simpa using h0
        have H0 := Kd h0
        clear hrun h0
        go_wp2_with (first
         | (go_at_call 98; go_must (refine (Hstp.out _ (Ad.alloc _ _ _)).mono ?_; rintro e5 W5 ⟨hs5, ⟨fh, fp, fg, sh, sp, pr, fes, ses⟩, rfl, hnw⟩; obtain ⟨A1, c1, A2, c2, A3, c3, A4, c4, A5, c5, A6, c6, q1, q2, q3, q4, q5, q6⟩ := hnw.inn.six; dsimp only at q1 q2 q3 q4 q5 q6; subst q1 q2 q3 q4 q5 q6; have Hnw := Kd hnw; have Hs5 := Kd hs5; unfold asV hy0; clear hs5 hnw))
         | (refine AU rfl 49 _ _ rfl W5.heap.size #[.string ⟨#[]⟩, .bool false, .int .i64 0, .slice none 0 0] (by go_simp) (by go_simp) 49 #[.string ⟨#[]⟩, .bool false, .int .i64 0, .slice none 0 0] (AR (Aj W5 (.cells #[.string ⟨#[]⟩, .bool false, .int .i64 0, .slice none 0 0] 49)) (.cells #[.int .i64 0, .string ⟨#[]⟩, .bool false, .slice none 0 0, .slice none 0 0, .slice none 0 0, .slice none 0 0, .slice none 0 0, .slice none 0 0, .string ⟨#[]⟩, .int .i64 0, .int .i64 0, .int .i64 0, .string ⟨#[]⟩, .int .i64 0, .int .i64 0, .int .i64 0] 71)) (by kernel_rfl) rfl (by simp [Value.oneCell']) ?_; intro W6 hR6 hs6; have hA6 := hs6.get (Eb W5 (.cells #[.string ⟨#[]⟩, .bool false, .int .i64 0, .slice none 0 0] 49) (.cells #[.int .i64 0, .string ⟨#[]⟩, .bool false, .slice none 0 0, .slice none 0 0, .slice none 0 0, .slice none 0 0, .slice none 0 0, .slice none 0 0, .string ⟨#[]⟩, .int .i64 0, .int .i64 0, .int .i64 0, .string ⟨#[]⟩, .int .i64 0, .int .i64 0, .int .i64 0] 71)) (by simp); have HR6 := Kd hR6; have HA6 := Kd hA6; have Hs6 : Hid (Ad [] W5 W6) := Kd (((Ad.alloc [] W5 _).trans (Ad.alloc [] _ _)).then hs6 fun x hx => .inr (by simp at hx; omega)); clear hR6 hs6 hA6)
         | (refine AU rfl 71 _ _ rfl (W5.heap.size + 1) #[.int .i64 a.number, .string a.label, .bool a.isThm, .slice A1 a.hyps.length c1, .slice A2 a.pairs.length c2, .slice A3 a.goal.length c3, .slice A4 a.shyps.length c4, .slice A5 a.spairs.length c5, .slice A6 a.proof.length c6, .string a.at_.text, .int .i64 a.at_.at_.off, .int .i64 a.at_.at_.line, .int .i64 a.at_.at_.col, .string a.end_.text, .int .i64 a.end_.at_.off, .int .i64 a.end_.at_.line, .int .i64 a.end_.at_.col] (by go_simp) (by go_simp) 71 #[.int .i64 0, .string ⟨#[]⟩, .bool false, .slice none 0 0, .slice none 0 0, .slice none 0 0, .slice none 0 0, .slice none 0 0, .slice none 0 0, .string ⟨#[]⟩, .int .i64 0, .int .i64 0, .int .i64 0, .string ⟨#[]⟩, .int .i64 0, .int .i64 0, .int .i64 0] HA6.out EO rfl (by simp [Value.oneCell']) ?_; intro W7 hR7 hs7; have HR7 := Kd hR7; have HY7 := Kd (hs7.get HR6.out (by simp)); have Hs57 : Hid (Ad [] W5 W7) := Kd (Hs6.out.then hs7 fun x hx => .inr (by simp at hx; omega)); have Hs7 : Hid (Ad [] wr W7) := Kd (((Ad.alloc [] wr (.cells #[.string T.text, .int .i64 T.at_.off, .int .i64 T.at_.line, .int .i64 T.at_.col] 59)).trans Hs5.out).trans Hs57.out); have HT7 := Kd ((Hs5.out.trans Hs57.out).get (Aj wr (.cells #[.string T.text, .int .i64 T.at_.off, .int .i64 T.at_.line, .int .i64 T.at_.col] 59)) (by simp)); obtain ⟨d0, d1, d2, d3, df⟩ := BV HT7.out; have dl := Af HT7.out; have s7 := Ai (i := 0) (v := .pointer (some ⟨m, 0, none⟩)) (Hs7.out.get HI.out.m.bx (by simp)); have sl7 := Af (Hs7.out.get HI.out.m.bx (by simp)); obtain ⟨b0, b1, b2, b3, b4, b5, b6, b7, b8, b9, b10, b11, b12, b13, b14, b15, b16, bf⟩ := Gw hR7; have bl := Af hR7; have hY7 := HY7.out; obtain ⟨h0, h1, h2, h3, hf⟩ := BV hY7; have hl := Af hY7; clear hR7 hs7 hY7)
         | (go_at_call 99; go_must (refine (Hap.out W7 Hs7.out _ _ _ ((Kj.of_new Hnw.out).same Hs57.out)).mono ?_; rintro e8 W8 ⟨rfl, hm8⟩; have Hm8 := Kd hm8; clear hm8)))
        exact zq77
       ·rw [if_pos h0] at hrun
        have Hrun := Kd hrun
        have n0 : ((n : Int) != 0) = true := by simpa using h0
        clear hrun h0
        go_wp2_with (first
         | (go_at_call 98; go_must (refine (Hstp.out _ (Ad.alloc _ _ _)).mono ?_; rintro e5 W5 ⟨hs5, ⟨fh, fp, fg, sh, sp, pr, fes, ses⟩, rfl, hnw⟩; obtain ⟨A1, c1, A2, c2, A3, c3, A4, c4, A5, c5, A6, c6, q1, q2, q3, q4, q5, q6⟩ := hnw.inn.six; dsimp only at q1 q2 q3 q4 q5 q6; subst q1 q2 q3 q4 q5 q6; have Hnw := Kd hnw; have Hs5 := Kd hs5; unfold asV hy0; clear hs5 hnw))
         | (refine AU rfl 49 _ _ rfl W5.heap.size #[.string ⟨#[]⟩, .bool false, .int .i64 0, .slice none 0 0] (by go_simp) (by go_simp) 49 #[.string ⟨#[]⟩, .bool false, .int .i64 0, .slice none 0 0] (AR (Aj W5 (.cells #[.string ⟨#[]⟩, .bool false, .int .i64 0, .slice none 0 0] 49)) (.cells #[.int .i64 0, .string ⟨#[]⟩, .bool false, .slice none 0 0, .slice none 0 0, .slice none 0 0, .slice none 0 0, .slice none 0 0, .slice none 0 0, .string ⟨#[]⟩, .int .i64 0, .int .i64 0, .int .i64 0, .string ⟨#[]⟩, .int .i64 0, .int .i64 0, .int .i64 0] 71)) (by kernel_rfl) rfl (by simp [Value.oneCell']) ?_; intro W6 hR6 hs6; have hA6 := hs6.get (Eb W5 (.cells #[.string ⟨#[]⟩, .bool false, .int .i64 0, .slice none 0 0] 49) (.cells #[.int .i64 0, .string ⟨#[]⟩, .bool false, .slice none 0 0, .slice none 0 0, .slice none 0 0, .slice none 0 0, .slice none 0 0, .slice none 0 0, .string ⟨#[]⟩, .int .i64 0, .int .i64 0, .int .i64 0, .string ⟨#[]⟩, .int .i64 0, .int .i64 0, .int .i64 0] 71)) (by simp); have HR6 := Kd hR6; have HA6 := Kd hA6; have Hs6 : Hid (Ad [] W5 W6) := Kd (((Ad.alloc [] W5 _).trans (Ad.alloc [] _ _)).then hs6 fun x hx => .inr (by simp at hx; omega)); clear hR6 hs6 hA6)
         | (refine AU rfl 71 _ _ rfl (W5.heap.size + 1) #[.int .i64 a.number, .string a.label, .bool a.isThm, .slice A1 a.hyps.length c1, .slice A2 a.pairs.length c2, .slice A3 a.goal.length c3, .slice A4 a.shyps.length c4, .slice A5 a.spairs.length c5, .slice A6 a.proof.length c6, .string a.at_.text, .int .i64 a.at_.at_.off, .int .i64 a.at_.at_.line, .int .i64 a.at_.at_.col, .string a.end_.text, .int .i64 a.end_.at_.off, .int .i64 a.end_.at_.line, .int .i64 a.end_.at_.col] (by go_simp) (by go_simp) 71 #[.int .i64 0, .string ⟨#[]⟩, .bool false, .slice none 0 0, .slice none 0 0, .slice none 0 0, .slice none 0 0, .slice none 0 0, .slice none 0 0, .string ⟨#[]⟩, .int .i64 0, .int .i64 0, .int .i64 0, .string ⟨#[]⟩, .int .i64 0, .int .i64 0, .int .i64 0] HA6.out EO rfl (by simp [Value.oneCell']) ?_; intro W7 hR7 hs7; have HR7 := Kd hR7; have HY7 := Kd (hs7.get HR6.out (by simp)); have Hs57 : Hid (Ad [] W5 W7) := Kd (Hs6.out.then hs7 fun x hx => .inr (by simp at hx; omega)); have Hs7 : Hid (Ad [] wr W7) := Kd (((Ad.alloc [] wr (.cells #[.string T.text, .int .i64 T.at_.off, .int .i64 T.at_.line, .int .i64 T.at_.col] 59)).trans Hs5.out).trans Hs57.out); have HT7 := Kd ((Hs5.out.trans Hs57.out).get (Aj wr (.cells #[.string T.text, .int .i64 T.at_.off, .int .i64 T.at_.line, .int .i64 T.at_.col] 59)) (by simp)); obtain ⟨d0, d1, d2, d3, df⟩ := BV HT7.out; have dl := Af HT7.out; have s7 := Ai (i := 0) (v := .pointer (some ⟨m, 0, none⟩)) (Hs7.out.get HI.out.m.bx (by simp)); have sl7 := Af (Hs7.out.get HI.out.m.bx (by simp)); obtain ⟨b0, b1, b2, b3, b4, b5, b6, b7, b8, b9, b10, b11, b12, b13, b14, b15, b16, bf⟩ := Gw hR7; have bl := Af hR7; have hY7 := HY7.out; obtain ⟨h0, h1, h2, h3, hf⟩ := BV hY7; have hl := Af hY7; clear hR7 hs7 hY7)
         | (go_at_call 99; go_must (refine (Hap.out W7 Hs7.out _ _ _ ((Kj.of_new Hnw.out).same Hs57.out)).mono ?_; rintro e8 W8 ⟨rfl, hm8⟩; obtain ⟨M', hm', hk'⟩ := HI.out.m.go Hs7.out hm8; have hend := hm'.end_ n T; unfold tkV at hend; have Hend := Kd hend; have hT8 := hk' _ _ (Nat.le_refl _) HT7.out; clear d0 d1 d2 d3 df dl; obtain ⟨d0, d1, d2, d3, df⟩ := BV hT8; have dl := Af hT8; clear hm8 hm' hk' hend hT8))
         | (go_at_call 97; go_must (refine (Hend.out).mono ?_; rintro e9 W9 ⟨rfl, hs9⟩; have Hs9 := Kd hs9; clear hs9))
         | (refine AU rfl 61 _ _ rfl (w.heap.size + 1 + 1) (vdC n T st'.count st'.peak) (by go_simp) (by go_simp) 61 #[.string ⟨#[]⟩, .int .i64 0, .string ⟨#[]⟩, .int .i64 0, .int .i64 0, .int .i64 0, .int .i64 0, .int .i64 0] (Hs9.out.get HZ.out (by simp)) (by kernel_rfl) rfl (by simp [vdC, Value.oneCell']) ?_; intro W3 hR3 hs3; have HR3 := Kd hR3; have Hs3 := Kd hs3; clear hR3 hs3)
         )
        refine bodyPost_ret_by (v := .agg (vdC n T st'.count st'.peak)) (results_cell_row rfl _ W3 (w.heap.size + 1 + 1) 61 _ _ _ rfl HR3.out Tryz.underlying61 rfl (by kernel_rfl)) rfl ?_
        exact zq28
  ·have hkk : k = l.length := by omega
   have hrun := hI.run
   rw [hkk, List.drop_length, Ph] at hrun
   have hen := Pl wr m nb M c.pairs c.goal st hI.m.at_ hgn (fun e he => Nat.le_trans (hI.s.ent e he) (by decide))
   have HI := Kd hI
   subst hkk
   obtain ⟨n, hn⟩ : ∃ n, st.endN c.goal = n := ⟨_, rfl⟩
   rw [hn] at hrun hen
   clear hI hn Hst
   by_cases h0 : n = 0
   ·rw [if_neg (fun h => h h0)] at hrun
    have Hrun := Kd hrun
    have n0 : ((n : Int) != 0) = false := by simpa using h0
    clear hrun h0
    have hend := fun (W : World) (hW : Ad [] _ W) => (HI.out.m.on hW).end_ 0 Tk.none
    unfold tkV at hend
    have Hend := Kd hend
    clear hend
    go_wp2_with (first
     | (go_at_call 95; go_must (refine hen.mono ?_; rintro e5 W5 ⟨rfl, hs5⟩; have Hs5 := Kd hs5; clear hs5))
     | (with_reducible refine Bt rfl 59 _ rfl Sb ?_)
     | (go_at_call 97; go_must (refine (Hend.out _ Hs5.out).mono ?_; rintro e9 W9 ⟨rfl, hs9⟩; have Hs9 := Kd hs9; clear hs9))
     | (refine AU rfl 61 _ _ rfl (w.heap.size + 1 + 1) (vdC 0 Tk.none st.count st.peak) (by go_simp) (by go_simp) 61 #[.string ⟨#[]⟩, .int .i64 0, .string ⟨#[]⟩, .int .i64 0, .int .i64 0, .int .i64 0, .int .i64 0, .int .i64 0] (Hs9.out.get HZ.out (by simp)) (by kernel_rfl) rfl (by simp [vdC, Value.oneCell']) ?_; intro W3 hR3 hs3; have HR3 := Kd hR3; have Hs3 := Kd hs3; clear hR3 hs3)
     )
    refine bodyPost_ret_by (v := .agg (vdC 0 Tk.none st.count st.peak)) (results_cell_row rfl _ W3 (w.heap.size + 1 + 1) 61 _ _ _ rfl HR3.out Tryz.underlying61 rfl (by kernel_rfl)) rfl ?_
    exact zq28
   ·rw [if_pos h0] at hrun
    have Hrun := Kd hrun
    have n0 : ((n : Int) != 0) = true := by simpa using h0
    clear hrun h0
    have hend := fun (W : World) (hW : Ad [] _ W) => (HI.out.m.on hW).end_ n en
    unfold tkV at hend
    have Hend := Kd hend
    clear hend
    go_wp2_with (first
     | (go_at_call 95; go_must (refine hen.mono ?_; rintro e5 W5 ⟨rfl, hs5⟩; have hY5 := (HI.out.m.same.trans hs5).get HY.out (by simp); obtain ⟨y0, y1, y2, y3, y4, y5, y6, y7, y8, yf⟩ := QS hY5; have yl := Af hY5; have Hs5 := Kd hs5; clear hs5 hY5))
     | (go_at_call 97; go_must (refine (Hend.out _ Hs5.out).mono ?_; rintro e9 W9 ⟨rfl, hs9⟩; have Hs9 := Kd hs9; clear hs9))
     | (refine AU rfl 61 _ _ rfl (w.heap.size + 1 + 1) (vdC n en st.count st.peak) (by go_simp) (by go_simp) 61 #[.string ⟨#[]⟩, .int .i64 0, .string ⟨#[]⟩, .int .i64 0, .int .i64 0, .int .i64 0, .int .i64 0, .int .i64 0] (Hs9.out.get HZ.out (by simp)) (by kernel_rfl) rfl (by simp [vdC, Value.oneCell']) ?_; intro W3 hR3 hs3; have HR3 := Kd hR3; have Hs3 := Kd hs3; clear hR3 hs3)
     )
    refine bodyPost_ret_by (v := .agg (vdC n en st.count st.peak)) (results_cell_row rfl _ W3 (w.heap.size + 1 + 1) 61 _ _ _ rfl HR3.out Tryz.underlying61 rfl (by kernel_rfl)) rfl ?_
    exact zq28
end Go.Proofs.YtbfbgfpghkijdaaGreatDoor
