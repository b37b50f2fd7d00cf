/- lemmalaw texts, part 16. -/
import Derived.Test.YtbfbgfpghkijdaaGreatDoorYah
import Derived.Test.YtbfbgfpghkijdaaGreatDoorYao
set_option maxRecDepth 100000
set_option linter.unusedVariables false
set_option linter.unusedSimpArgs false
set_option maxHeartbeats 32000000
namespace Go.Proofs.YtbfbgfpghkijdaaGreatDoor
open Go.RowKit
def Sa (n : Nat) (w : World) (e : Ending) (w' : World) : Prop := e = .returned (.tuple #[.agg #[.slice none 0 0, .slice none 0 0, .slice none 0 0], .int .i64 n]) ∧ Ad [] w w'
theorem Er {w : World} {b : Nat} {x0 x1 x2 : Value} {t : TypeId} (h : w.heap[b]? = some (.cells #[x0, x1, x2] t (0, 0))) : w.cell? ⟨b, 0, none⟩ = some x0 ∧ w.cell? ⟨b, 1, none⟩ = some x1 ∧ w.cell? ⟨b, 2, none⟩ = some x2 ∧ ∀ i, w.frozen? ⟨b, i, none⟩ = false :=
 ⟨Ai h, Ai h, Ai h, AE h⟩
theorem O6 (w : World) (s t : Nat) (A : SA) (M : List Nat) (scs : List Sc) (h : Bq w s t A M scs) (hsm : DO scs) (TA : TA) (T : Tbl) (hT : AW w t TA T) (va : Value) (e : List Int) (he : Row w 3 1 va e.length (Ay e)) (hn : e.length ≤ 1000000) (hc : DT T.isVar scs e ≠ 0) :
  Calls Tryz.prog 127 #[.pointer (some ⟨s, 0, none⟩), va] w (Sa (DT T.isVar scs e) w) := by
 have hck := fun (W : World) (hW : Ad [] w W) => FO W s t A M scs (h.same hW) hsm TA T (hT.same hW (by simp)) va e (he.same hW (by simp)) hn
 obtain ⟨num, hnum⟩ : ∃ num, DT T.isVar scs e = num := ⟨_, rfl⟩
 rw [hnum] at hck hc ⊢
 unfold Ql at hck
 have hne : ((num : Int) == 0) = false := by rw [beq_eq_false_iff_ne]; omega
 clear h hsm hT he hnum hc
 go_enter Tryz.func127, Tryz.ntmps127
 go_wp2_with (go_at_call 126; go_must (refine (hck _ ((Ad.alloc [] _ _).trans (Ad.alloc [] _ _))).mono ?_; rintro e' W1 ⟨rfl, hs1⟩; have hB := hs1.get (Aj _ _) (by simp); rw [AA] at hB; obtain ⟨k0, k1, k2, kf⟩ := Er hB; have hb1 := Af hB; have HB := Kd hB; have Hs1 := Kd (((Ad.alloc [] w (Obj.cells #[.pointer (some ⟨s, 0, none⟩)] 90)).trans (Ad.alloc [] _ _)).trans hs1); clear hs1 hB))
 have hz : ((((W1.setCell ⟨w.heap.size + 1, 0, none⟩ (.slice none 0 0)).setCell ⟨w.heap.size + 1, 1, none⟩ (.slice none 0 0)).setCell ⟨w.heap.size + 1, 2, none⟩ (.slice none 0 0)).heap[w.heap.size + 1]?) = some (.cells #[.slice none 0 0, .slice none 0 0, .slice none 0 0] 67 (0, 0)) := AI (AI (AI HB.out 0 _) 1 _) 2 _
 have hs9 : Ad [] w (((W1.setCell ⟨w.heap.size + 1, 0, none⟩ (.slice none 0 0)).setCell ⟨w.heap.size + 1, 1, none⟩ (.slice none 0 0)).setCell ⟨w.heap.size + 1, 2, none⟩ (.slice none 0 0)) := ((Hs1.out.setNew _ _ (by simp)).setNew _ _ (by simp)).setNew _ _ (by simp)
 generalize ((W1.setCell _ _).setCell _ _).setCell _ _ = W9 at hz hs9 ⊢
 obtain ⟨y0, y1, y2, yf⟩ := Er hz
 refine bodyPost_ret_by (v := .tuple #[.agg #[.slice none 0 0, .slice none 0 0, .slice none 0 0], .int .i64 num]) (by simp [results, Tryz.f127, go_sem, y0, y1, y2]) rfl ?_
 exact ⟨rfl, hs9⟩
structure Lw (Wb : World) (b bm : Nat) (l : List Int) (W : World) : Prop where
 base : Ad [] Wb W
 cell : W.heap[bm]? = some (.cells #[.map (some b)] 163 (0, 0))
 cnt : ∃ m, Cnt W b l m
theorem Lw.init {Wb : World} {b bm : Nat} (hb : b = Wb.heap.size) (hbm : bm = Wb.heap.size + 1) : Lw Wb b bm [] ((Wb.alloc (.map #[] 0)).alloc (.cells #[.map (some b)] 163)) := by
 subst hb
 refine ⟨(Ad.alloc _ _ _).trans (Ad.alloc _ _ _), ?_, [], Cnt.nil ((Cn.new EN Wb 0).same (Ad.alloc [] _ _) (by simp))⟩
 rw [hbm, ← AA Wb (.map #[] 0)]
 exact Aj _ _
theorem Lw.same {Wb W W' : World} {b bm : Nat} {l : List Int} (h : Lw Wb b bm l W) (hs : Ad [] W W') : Lw Wb b bm l W' := by
 obtain ⟨m, hm⟩ := h.cnt
 exact ⟨h.base.trans hs, hs.get h.cell (by simp), m, hm.same hs (by simp)⟩
theorem Ov {Wb W : World} {s t b bm bs : Nat} {A : SA} {M : List Nat} {scs : List Sc} {TA : TA} {T : Tbl} {l : List Int} (h : Lw Wb b bm l W) (hS : Bq Wb s t A M scs) (hT : AW Wb t TA T) (hbs : Wb.heap[bs]? = some (.cells #[.pointer (some ⟨s, 0, none⟩)] 90 (0, 0))) (hb : Wb.heap.size ≤ b) (hne : bm ≠ b)
  (hl : l.length ≤ 1000000000000) (va : Value) (e : List Int) (he : Row W 3 1 va e.length (Ay e)) (hn : e.length ≤ 1000000) :
  Calls Tryz.prog 155 #[va, .pointer (some ⟨bs, 0, none⟩), .pointer (some ⟨bm, 0, none⟩)] W fun e' W' => e' = .returned (.tuple #[]) ∧ Lw Wb b bm (l ++ Cu e T.isVar) W' := by
 obtain ⟨m, hm⟩ := h.cnt
 refine (NB W s t A M scs (hS.same h.base) TA T (hT.same h.base (by simp)) va e he hn bs bm b (h.base.get hbs (by simp)) h.cell l m hm hl).mono ?_
 rintro e' W' ⟨rfl, hm', hs⟩
 exact ⟨rfl, h.base.then hs (fun x hx => by simp at hx; subst hx; exact .inr hb), hs.get h.cell (by simpa using hne), hm'⟩
def GU (vars : Int → Bool) (l : List Hy) : List Int := (l.filter fun h => !h.floating).flatMap fun h => Cu h.expr vars
theorem Kb (vars : Int → Bool) (l : List Hy) (k : Nat) (hk : k < l.length) : GU vars (l.take (k + 1)) = GU vars (l.take k) ++ if l[k].floating = true then [] else Cu l[k].expr vars := by
 unfold GU
 rw [List.take_succ_eq_append_getElem hk, List.filter_append, List.flatMap_append]
 cases hf : l[k].floating <;> simp [hf]
theorem KN (vars : Int → Bool) (l : List Hy) (h : ∀ x ∈ l, x.expr.length ≤ 1000) : ∀ k, k ≤ l.length → (GU vars (l.take k)).length ≤ 1000 * k
 | 0, _ => by simp [GU]
 | k + 1, hk => by
  have h1 := KN vars l h k (by omega)
  rw [Kb _ _ _ hk, List.length_append]
  have h2 := Fj vars l[k].expr
  have h3 := h l[k] (List.getElem_mem _)
  split
  ·simp; omega
  ·omega
def RS (Wb : World) (b bm : Nat) (vars : Int → Bool) (goal : List Int) (H : List Hy) (u : Value) (W : World) : Prop :=
 ∃ k : Nat, k ≤ H.length ∧ u = .int .i64 k ∧ Lw Wb b bm (Cu goal vars ++ GU vars (H.take k)) W
theorem Gn.moved {w W W' : World} {t : TypeId} {b : Nat} {rest : List Value} {l : List Hy} {hv : Value} {evs : List Value} {S : List Nat} (h : Gn w t b rest l hv evs W) (hs : Ad S W W') (hb : b ∉ S) (hh : ∀ c, hv.ownBlock = some c → c ∉ S) (he : ∀ ev ∈ evs, ∀ c, ev.ownBlock = some c → c ∉ S) (hS : ∀ c ∈ S, w.heap.size ≤ c) : Gn w t b rest l hv evs W' :=
 ⟨hs.get h.blk hb, ⟨h.hyps.row.same hs hh, h.hyps.exprs.impMem fun y ev hev hi => ⟨hi.row.same hs (he ev hev), by simp⟩, h.hyps.flo⟩, h.fr, h.frs, h.base.then hs fun c hc => .inr (hS c hc)⟩
structure Gr (w Wc : World) (b : Nat) (gv : Value) (l : List Hy) (hv v : Value) (evs : List Value) (W : World) : Prop where
 coll : Gn w 67 b [.slice none 0 0, gv] l hv evs W
 row : Row W 3 1 v (Be l).length (Ay (Be l))
 fresh : AH Wc v
 old : ∀ ev ∈ evs, ∀ c, ev.ownBlock = some c → c < Wc.heap.size
 base : Ad [] Wc W
theorem Gr.same {w Wc W W' : World} {b : Nat} {gv : Value} {l : List Hy} {hv v : Value} {evs : List Value} (h : Gr w Wc b gv l hv v evs W) (hs : Ad [] W W') : Gr w Wc b gv l hv v evs W' :=
 ⟨h.coll.same hs, h.row.same hs (by simp), h.fresh, h.old, h.base.trans hs⟩
theorem Gr.push {w Wc W W1 : World} {b : Nat} {gv : Value} {l : List Hy} {hv : Value} {evs : List Value} (hc : Gn w 67 b [.slice none 0 0, gv] l hv evs W) (hold : ∀ ev ∈ evs, ∀ c, ev.ownBlock = some c → c < Wc.heap.size) (hbase : Ad [] Wc W) (x : Hy) {u v1 ev : Value} (hr : Row W1 49 4 v1 (l.length + 1) (BE l evs ++ [.string x.label, .bool x.floating, .int .i64 x.var, ev]))
  (hs : Ad hv.ownBlock.toList W W1) (ho : v1.ownBlock = hv.ownBlock ∨ ∃ b, v1.ownBlock = some b ∧ W.heap.size ≤ b) (hx : Ds W [] ev x.expr) (hxf : AH w ev) (hxo : ∀ c, ev.ownBlock = some c → c < Wc.heap.size) (hf : x.floating = true → x.expr ≠ []) (hb : w.heap.size ≤ b) (hbc : Wc.heap.size ≤ b) (hhc : AH Wc hv)
  (hu : Row W 3 1 u (Be (l ++ [x])).length (Ay (Be (l ++ [x])))) (huf : AH Wc u) : Gr w Wc b gv (l ++ [x]) v1 u (evs ++ [ev]) (W1.setCell ⟨b, 0, none⟩ v1) := by
 refine ⟨hc.push (by decide) (by decide) x hr hs ho hx hxf hf hb, hc.other hs v1 hu (by decide) (by decide), huf, fun y hy => ?_, (hbase.then hs fun c hc => .inr (hhc c (Option.mem_toList.1 hc))).setNew _ _ hbc⟩
 rcases List.mem_append.1 hy with hy | hy
 ·exact hold y hy
 ·simp at hy; subst hy; exact hxo
theorem Gr.var {w Wc W W1 : World} {b : Nat} {gv : Value} {l : List Hy} {hv v : Value} {evs : List Value} (h : Gr w Wc b gv l hv v evs W) (hwc : w.heap.size ≤ Wc.heap.size) (hs : Ad v.ownBlock.toList W W1) : Gn w 67 b [.slice none 0 0, gv] l hv evs W1 :=
 h.coll.moved hs (fun hm => h.row.ne h.coll.blk (by decide) (Option.mem_toList.1 hm)) (fun c hc hm => h.coll.hyps.row.ne_row h.row (by decide) (Option.mem_toList.1 hm) hc)
  (fun ev hev c hc hm => by have := h.old ev hev c hc; have := h.fresh c (Option.mem_toList.1 hm); omega) (fun c hc => Nat.le_trans hwc (h.fresh c (Option.mem_toList.1 hc)))
theorem FJ (l : List Hy) (x : Hy) : Be (l ++ [x]) = Be l ++ if x.floating = true then [x.var] else [] := by
 unfold Be
 rw [List.filter_append, List.map_append]
 cases hf : x.floating <;> simp [hf]
theorem Nl {K : Hy → Bool} {l : List Hy} {k : Nat} (hk : k < l.length) : (l.take (k + 1)).filter K = (l.take k).filter K ++ if K l[k] = true then [l[k]] else [] := by
 rw [List.take_succ_eq_append_getElem hk, List.filter_append]
 cases hf : K l[k] <;> simp [hf]
def RU (w Wc : World) (b : Nat) (gv : Value) (K : Hy → Bool) (H : List Hy) (v u : Value) (W : World) : Prop :=
 ∃ (k : Nat) (hv : Value) (evs : List Value), k ≤ H.length ∧ u = .int .i64 k ∧ Gr w Wc b gv ((H.take k).filter K) hv v evs W ∧ AH Wc hv
theorem AH.next {w W : World} {v v' : Value} (h : AH w v) (hs : w.heap.size ≤ W.heap.size) (ho : v'.ownBlock = v.ownBlock ∨ ∃ b, v'.ownBlock = some b ∧ W.heap.size ≤ b) : AH w v' := by
 intro c hc
 rcases ho with ho | ⟨d, hd, hle⟩
 ·exact h c (ho ▸ hc)
 ·rw [hd] at hc; cases hc; omega
theorem I2 {scs : List Sc} (h : DO scs) : ∀ x ∈ AK scs, x.expr.length ≤ 1000 := by
 intro x hx
 obtain ⟨sc, hsc, hx⟩ := List.mem_flatMap.1 hx
 exact (h sc hsc).2.2 x hx
def Rr (H : List Hy) (ps : List Pr) (goal : List Int) (w : World) (e : Ending) (w' : World) : Prop := ∃ hv pv gv evs, e = .returned (.tuple #[.agg #[hv, pv, gv], .int .i64 0]) ∧ Bi w' [] hv evs H ∧ AH w hv ∧ (∀ ev ∈ evs, AH w ev) ∧ Row w' 47 2 pv ps.length (AT ps) ∧ AH w pv ∧ Row w' 3 1 gv goal.length (Ay goal) ∧ AH w gv ∧ Ad [] w w'
theorem zq128 {P : Prop} (h : P := by
 unfold Be
 rw [List.length_map]
 exact Nat.le_trans (List.length_filter_le _ _) hFLn) : P := h
theorem Nz (w : World) (s t : Nat) (A : SA) (M : List Nat) (scs : List Sc) (h : Bq w s t A M scs) (hsm : DO scs) (TA : TA) (T : Tbl) (hT : AW w t TA T) (va : Value) (e : List Int) (he : Row w 3 1 va e.length (Ay e)) (hn : e.length ≤ 1000) (hc : DT T.isVar scs e = 0) :
  Calls Tryz.prog 127 #[.pointer (some ⟨s, 0, none⟩), va] w (Rr (BZ T.isVar scs e) (B2 T.isVar scs e) e w) := by
 have hmm := @run_makeMap Tryz.prog
 have hmf : ∀ (fn : Fn) (first cap : Array Value) (w : World), (Instr.makeFunc fn first cap).run Tryz.prog w = .ok (.func fn first cap) w := fun _ _ _ _ => rfl
 have hck := fun (W : World) (hW : Ad [] w W) => FO W s t A M scs (h.same hW) hsm TA T (hT.same hW (by simp)) va e (he.same hW (by simp)) (by omega)
 have hsc := fun (W : World) (hW : Ad [] w W) => F8 W s t A M scs (h.same hW) hsm
 rw [hc] at hck
 unfold Ql at hck
 have H := Kd h
 have Hsm := Kd hsm
 have HT := Kd hT
 have He := Kd he
 clear h hsm hT he hc
 go_enter Tryz.func127, Tryz.ntmps127
 go_wp2_with (first
  | (go_at_call 126; go_must (refine (hck _ ((Ad.alloc [] _ _).trans (Ad.alloc [] _ _))).mono ?_; rintro e' W1 ⟨rfl, hs1⟩; have hB := hs1.get (Aj _ _) (by simp); rw [AA] at hB; have hS := hs1.get (AR (Aj w _) _) (by simp); have sc0 := Ai (i := 0) hS; have hb1 := Af hB; have HB := Kd hB; have HS := Kd hS; have Hs1 := Kd (((Ad.alloc [] w (Obj.cells #[.pointer (some ⟨s, 0, none⟩)] 90)).trans (Ad.alloc [] _ _)).trans hs1); clear hs1 hB hS))
  | (go_at_call 113; go_must (refine (hsc _ Hs1.out).mono ?_; rintro e' W2 ⟨hv, pv, evs, rfl, hh, hhf, hef, hpr, hpf, hs2⟩; have HB2 := Kd (hs2.get HB.out (by simp)); have hS2 := hs2.get HS.out (by simp); have sc2 := Ai (i := 0) hS2; have HS2 := Kd hS2; have hb2 := Nat.lt_of_lt_of_le hb1 hs2.size; obtain ⟨Ah, ch, rfl⟩ := hh.row.shape; obtain ⟨Ap, cp, rfl⟩ := hpr.shape; have Hh := Kd hh; have Hhf := Kd hhf; have Hef := Kd hef; have Hpr := Kd hpr; have Hpf := Kd hpf; have Hs2 := Kd hs2; clear hS2 hh hhf hef hpr hpf hs2))
  | (go_at_call 155; go_must (refine (Ov (Wb := W2.alloc (Obj.cells #[.slice Ah (AK scs).length ch, .slice Ap (AL scs).length cp] 69)) (b := W2.heap.size + 1) (bm := W2.heap.size + 1 + 1) (Lw.init (by rw [AA]) (by rw [AA])) (H.out.same ((Hs1.out.trans Hs2.out).trans (Ad.alloc _ _ _))) (HT.out.same ((Hs1.out.trans Hs2.out).trans (Ad.alloc [] _ _)) (by simp)) (AR HS2.out _) (by rw [AA]; omega) (by omega) (by simp) va e (He.out.same ((Hs1.out.trans Hs2.out).trans (((Ad.alloc [] _ _).trans (Ad.alloc _ _ _)).trans (Ad.alloc _ _ _))) (by simp)) (by omega)).mono ?_; rintro e' W3 ⟨rfl, hf3⟩; rw [List.nil_append] at hf3; have ha3 := hf3.base.get (Aj W2 _) (by simp); obtain ⟨a0, a1, af⟩ := Fh ha3; have m0 := Ai (i := 0) hf3.cell; have ml3 := Af hf3.cell; have Hf3 := Kd hf3; have Ha3 := Kd ha3; clear hf3 ha3)))
 have hwb := (Hs1.out.trans Hs2.out).trans (Ad.alloc [] W2 (Obj.cells #[.slice Ah (AK scs).length ch, .slice Ap (AL scs).length cp] 69))
 have HSb := Kd (H.out.same hwb)
 have HTb := Kd (HT.out.same hwb (by simp))
 have Heb := Kd (He.out.same hwb (by simp))
 have Hhb := Kd (Hh.out.same (Ad.alloc [] W2 (Obj.cells #[.slice Ah (AK scs).length ch, .slice Ap (AL scs).length cp] 69)))
 have Hprb := Kd (Hpr.out.same (Ad.alloc [] W2 (Obj.cells #[.slice Ah (AK scs).length ch, .slice Ap (AL scs).length cp] 69)) (by simp))
 have HBb := Kd (AR HB2.out (Obj.cells #[.slice Ah (AK scs).length ch, .slice Ap (AL scs).length cp] 69))
 have HSbb := Kd (AR HS2.out (Obj.cells #[.slice Ah (AK scs).length ch, .slice Ap (AL scs).length cp] 69))
 have Hwb := Kd hwb
 have HAb := Kd (Aj W2 (Obj.cells #[.slice Ah (AK scs).length ch, .slice Ap (AL scs).length cp] 69))
 have hzb : (W2.alloc (Obj.cells #[.slice Ah (AK scs).length ch, .slice Ap (AL scs).length cp] 69)).heap.size = W2.heap.size + 1 := AA _ _
 have hHn : (AK scs).length ≤ 1700000 := by
  have := EL scs Hsm.out scs.length (Nat.le_refl _)
  rw [List.take_length] at this
  have := H.out.len
  omega
 have HHs := Kd (I2 Hsm.out)
 have hfp : B2 T.isVar scs e = E4 (AL scs) (Be (BZ T.isVar scs e)) := rfl
 have hfh : BZ T.isVar scs e = (AK scs).filter fun h => !h.floating || (Cu e T.isVar ++ GU T.isVar (AK scs)).contains h.var := rfl
 have HFp := Kd hfp
 have HFh := Kd hfh
 have hacn := GN Hsm.out H.out.len
 clear hwb hfp hfh
 generalize W2.alloc (Obj.cells #[.slice Ah (AK scs).length ch, .slice Ap (AL scs).length cp] 69) = Wb at *
 clear hck hsc HB HS HB2 HS2 Hh Hpr hb1 sc0 sc2
 generalize AK scs = HL at *
 generalize AL scs = PL at *
 have h0 : RS Wb (W2.heap.size + 1) (W2.heap.size + 1 + 1) T.isVar e HL (.int .i64 0) W3 := ⟨0, Nat.zero_le _, rfl, by simpa [GU] using Hf3.out⟩
 have H0 := Kd h0
 clear h0
 go_loopw [33] (fun u wr => RS Wb (W2.heap.size + 1) (W2.heap.size + 1 + 1) T.isVar e HL u wr) (fun u _ => HL.length - (intOf u).toNat)
 case atStart => exact H0.out
 case round =>
  obtain ⟨k, hk, rfl, hfi⟩ := hrel
  by_cases hlt : k < HL.length
  ·obtain ⟨g2, c2, ev, hv2, hev, hints, t0, t1, t2, t3, hgl2⟩ := (Hhb.out.same hfi.base).at hlt
   cases hv2
   have hexp := HHs.out HL[k] (List.getElem_mem hlt)
   have hvl := Fj T.isVar e
   have hnl := KN T.isVar HL HHs.out k hk
   obtain ⟨Ae, ce, rfl⟩ := hints.row.shape
   have hnote := fun (W : World) (hW : Ad [] wr W) => Ov (hfi.same hW) HSb.out HTb.out HSbb.out (by omega) (by omega) (by rw [List.length_append]; omega) _ _ (hints.row.same hW (by simp)) (by omega)
   have hst := Kb T.isVar HL k hlt
   have Hfi := Kd hfi
   clear hfi hev hints H0 hvl hnl
   cases hfl : HL[k].floating with
   | true =>
    rw [if_pos hfl, List.append_nil] at hst
    rw [hfl] at t1
    have Hst := Kd hst
    clear hst hfl hnote
    go_wp2
    go_roundw
    case rel => exact ⟨k + 1, hlt, by go_num, by rw [Hst.out]; exact Hfi.out.same (Ad.alloc _ _ _)⟩
    case measure => simp [intOf]; omega
   | false =>
    rw [if_neg (by rw [hfl]; decide)] at hst
    rw [hfl] at t1
    have Hst := Kd hst
    clear hst hfl
    go_wp2_with (go_at_call 155; go_must (refine (hnote _ (Ad.alloc _ _ _)).mono ?_; rintro e' W4 ⟨rfl, hf4⟩; have Hf4 := Kd hf4; clear hf4))
    go_roundw
    case rel => exact ⟨k + 1, hlt, by go_num, by rw [Hst.out, ← List.append_assoc]; exact Hf4.out⟩
    case measure => simp [intOf]; omega
  ·have hkk : k = HL.length := by omega
   subst hkk
   rw [List.take_length] at hfi
   have hcl := fun (W : World) (hW : Ad [] Wb W) => CP va e.length (Ay e) W (Heb.out.same hW (by simp)) (En e) (by omega)
   obtain ⟨Ae, ce, rfl⟩ := Heb.out.shape
   have Hfi := Kd hfi
   clear hfi H0 hlt hk m0 ml3 a0 a1 af
   have ha := Hfi.out.base.get HAb.out (by simp)
   obtain ⟨a0, a1, af⟩ := Fh ha
   have hal := Af ha
   clear ha
   go_wp2_with (go_at_call 51; go_must (refine (hcl _ Hfi.out.base).mono ?_; rintro e' W5 ⟨v5, rfl, hr5, hs5, hv5⟩; obtain ⟨A5, c5, rfl⟩ := hr5.shape; have d0 := hs5.cell a0 (by simp); have d1 := hs5.cell a1 (by simp); have dl := Nat.lt_of_lt_of_le hal hs5.size; have Hfi5 := Kd (Hfi.out.same hs5); have Hr5 := Kd hr5; have Hv5 := Kd hv5; clear hr5 hs5 hv5))
   have hww : w.heap.size ≤ W5.heap.size := Nat.le_trans Hwb.out.size Hfi5.out.base.size
   have hw5 : Ad [] w W5 := Hwb.out.trans Hfi5.out.base
   have Hw5 := Kd hw5
   clear hw5
   obtain ⟨Lm, hLm⟩ : ∃ Lm, Cu e T.isVar ++ GU T.isVar HL = Lm := ⟨_, rfl⟩
   have hfi5 := Hfi5.out
   rw [hLm] at hfi5
   have HfiL := Kd hfi5
   clear hfi5
   obtain ⟨K, hK⟩ : ∃ K : Hy → Bool, K = fun h => !h.floating || Lm.contains h.var := ⟨_, rfl⟩
   have hfh2 : BZ T.isVar scs e = HL.filter K := by rw [hK, ← hLm]; exact HFh.out
   have hfp2 : B2 T.isVar scs e = E4 PL (Be (HL.filter K)) := by rw [← hfh2]; exact HFp.out
   have HFp2 := Kd hfp2
   have HFh2 := Kd hfh2
   have hKx : ∀ x, K x = (!x.floating || Lm.contains x.var) := fun x => by rw [hK]
   have HK := Kd hKx
   clear hK hKx hLm hfh2 hfp2 HFp HFh
   have h1 : RU w W5 W5.heap.size (.slice A5 e.length c5) K HL (.slice none 0 0) (.int .i64 0) (W5.alloc (Obj.cells #[.slice none 0 0, .slice none 0 0, .slice A5 e.length c5] 67)) :=
    ⟨0, .slice none 0 0, [], Nat.zero_le _, rfl, ⟨⟨Aj _ _, ⟨World.ownsRow_nil _ _ _ _, trivial, by simp⟩, by simp [AH, Value.ownBlock], by simp, Hw5.out.trans (Ad.alloc _ _ _)⟩, World.ownsRow_nil _ _ _ _, by simp [AH, Value.ownBlock], by simp, Ad.alloc _ _ _⟩, by simp [AH, Value.ownBlock]⟩
   have H1 := Kd h1
   clear h1
   go_loopw [13, 51] (fun v u wr => RU w W5 W5.heap.size (.slice A5 e.length c5) K HL v u wr) (fun _ u _ => HL.length - (intOf u).toNat)
   case atStart => exact H1.out
   case round =>
    obtain ⟨k, hv, evs', hk, rfl, hat, hhf'⟩ := hrel
    by_cases hlt : k < HL.length
    ·obtain ⟨g2, c2, ev, hv2, hev, hints, t0, t1, t2, t3, hgl2⟩ := Hhb.out.at hlt
     cases hv2
     have hsb := Hfi5.out.base.trans hat.base
     have hflo := Hhb.out.flo HL[k] (List.getElem_mem hlt)
     have hevf : AH w ev := fun c hc => Nat.le_trans Hs1.out.size (Hef.out ev (List.mem_of_getElem? hev) c hc)
     have hevo : ∀ c, ev.ownBlock = some c → c < W5.heap.size := fun c hc => Nat.lt_of_lt_of_le (hints.row.lt hc) Hfi5.out.base.size
     obtain ⟨Ae', ce', rfl⟩ := hints.row.shape
     have u0 := hsb.cell t0 (by simp)
     have u1 := hsb.cell t1 (by simp)
     have u2 := hsb.cell t2 (by simp)
     have u3 := hsb.cell t3 (by simp)
     have ugl := Nat.lt_of_lt_of_le hgl2 hsb.size
     have hft := Nl (K := K) hlt
     rw [HK.out HL[k]] at hft
     have hint' : Ds wr [] _ HL[k].expr := ⟨hints.row.same hsb (by simp), by simp⟩
     have hb := hat.coll.blk
     obtain ⟨b0, b1, b2, bf⟩ := Er hb
     have hbl := Af hb
     obtain ⟨FL, hFL⟩ : ∃ FL, (HL.take k).filter K = FL := ⟨_, rfl⟩
     rw [hFL] at hat hft
     have hFLn : FL.length ≤ 1700000 := by rw [← hFL]; exact Nat.le_trans (List.length_filter_le _ _) (by simp; omega)
     obtain ⟨Av, cv, rfl⟩ := hat.coll.hyps.row.shape
     obtain ⟨mm, hcnt⟩ := (HfiL.out.same hat.base).cnt
     have m0 := Ai (i := 0) (HfiL.out.same hat.base).cell
     have ml := Af (HfiL.out.same hat.base).cell
     obtain ⟨cn, hcn, hcl', hc0⟩ := hcnt.get HL[k].var
     have hlk := fun o => (hcnt.map.same (Ad.alloc [] wr o) (by simp)).run_lookup (P := Tryz.prog) CX Tryz.underlying163 (Dp _) HL[k].var false
     rw [if_neg (by decide), hcn] at hlk
     unfold EN at hlk
     clear hcn hcl' hcnt
     have Hat := Kd hat
     have Hft := Kd hft
     have Hint := Kd hint'
     have Hflo := Kd hflo
     have Hevf := Kd hevf
     have Hevo := Kd hevo
     have Hhf' := Kd hhf'
     clear t0 t1 t2 t3 hgl2 hat hft hint' hflo hevf hevo hhf' hints hev hb hFL hsb H1
     cases hfl : HL[k].floating with
     | false =>
      rw [hfl] at u1
      have Hfl := Kd hfl
      clear hfl
      go_wp2_with (at_builtin; refine Bh (W := wr.alloc (Obj.cells #[.string HL[k].label, .bool false, .int .i64 HL[k].var, .slice Ae' HL[k].expr.length ce'] 49)) rfl _ _ 22 rfl 49 4 56 _ Tryz.underlying22 Tryz.infoHyp rfl (by decide) (.slice Av FL.length cv) _ _ rfl (Hat.out.coll.hyps.row.same (Ad.alloc [] _ _) (by simp)) [.string HL[k].label, .bool false, .int .i64 HL[k].var, .slice Ae' HL[k].expr.length ce'] (by rw [AA]; rfl) rfl (by simp [Value.oneCell']) (by omega) (by decide) ?_; go_must (intro v6 W6 hr6 hs6 ho6; obtain ⟨A6, c6, rfl⟩ := hr6.shape; have hb6 := hs6.get (AR Hat.out.coll.blk _) (by simpa using Hat.out.coll.hyps.row.ne Hat.out.coll.blk (by decide)); obtain ⟨e0, e1, e2, ef⟩ := Er hb6; have Hr6 := Kd hr6; have Hs6 := Kd hs6; have Ho6 := Kd ho6; have hbl6 := Af hb6; clear hr6 hs6 ho6 hb6))
      go_roundw
      case rel =>
       have hft := Hft.out
       rw [Hfl.out, Bool.not_false, Bool.true_or, if_pos rfl] at hft
       have hal := Hat.out.same (Ad.alloc [] wr (Obj.cells #[.string HL[k].label, .bool false, .int .i64 HL[k].var, .slice Ae' HL[k].expr.length ce'] 49))
       have hfv : Be (FL ++ [HL[k]]) = Be FL := by rw [FJ, Hfl.out]; simp
       have hpush := Gr.push hal.coll hal.old hal.base HL[k] (u := _) (by rw [Hfl.out]; exact Hr6.out) Hs6.out Ho6.out ⟨Hint.out.row.same (Ad.alloc [] _ _) (by simp), by simp⟩ Hevf.out Hevo.out Hflo.out hww (Nat.le_refl _) Hhf'.out (by rw [hfv]; exact hal.row) hal.fresh
       exact ⟨k + 1, .slice A6 (FL.length + 1) c6, evs' ++ [.slice Ae' HL[k].expr.length ce'], hlt, by go_num, by rw [hft]; exact hpush, Hhf'.out.next hal.base.size Ho6.out⟩
      case measure => simp [intOf]; omega
     | true =>
      rw [hfl] at u1
      have Hfl := Kd hfl
      clear hfl
      by_cases hin : HL[k].var ∈ Lm
      ·have hcz : ((cn : Int) == 0) = false := by rw [beq_eq_false_iff_ne]; intro he; exact (hc0.1 (by omega)) hin
       have Hin := Kd hin
       clear hin hc0
       obtain ⟨Vv, vc, rfl⟩ := Hat.out.row.shape
       have hFVn : (Be FL).length ≤ 1700000 := by
        exact zq128
       have hvlt : ∀ c, (Value.slice Vv (Be FL).length vc).ownBlock = some c → c < wr.heap.size := fun c hc => Hat.out.row.lt hc
       have hal := Hat.out.same (Ad.alloc [] wr (Obj.cells #[.string HL[k].label, .bool true, .int .i64 HL[k].var, .slice Ae' HL[k].expr.length ce'] 49))
       have Hal := Kd hal
       have hBn : wr.heap.size ∉ (Value.slice Vv (Be FL).length vc).ownBlock.toList := fun hm => by
        have := hvlt _ (Option.mem_toList.1 hm)
        omega
       have HBn := Kd hBn
       clear hal hvlt hBn
       go_wp2_with (first
        | (at_builtin; refine Bh (W := wr.alloc (Obj.cells #[.string HL[k].label, .bool true, .int .i64 HL[k].var, .slice Ae' HL[k].expr.length ce'] 49)) rfl _ _ 24 rfl 3 1 8 _ Tryz.underlying24 Tryz.infoInt' rfl (by decide) (.slice Vv (Be FL).length vc) _ _ rfl Hal.out.row [.int .i64 HL[k].var] (by rw [AA]; rfl) rfl (by simp [Value.oneCell']) (by omega) (by decide) ?_; go_must (intro v7 W7 hr7 hs7 ho7; obtain ⟨A7, c7, rfl⟩ := hr7.shape; have hB7 := hs7.get (Aj wr _) HBn.out; obtain ⟨k0, k1, k2, k3, kf⟩ := BV hB7; have hco7 := Hal.out.var hww hs7; obtain ⟨b0', b1', b2', bf'⟩ := Er hco7.blk; have hBl7 := Af hB7; have hbl7 := Af hco7.blk; have Hr7 := Kd hr7; have Hs7 := Kd hs7; have Ho7 := Kd ho7; have Hco7 := Kd hco7; clear hr7 hs7 ho7 hB7 hco7))
        | (at_builtin; refine Bh (W := W7) rfl _ _ 22 rfl 49 4 56 _ Tryz.underlying22 Tryz.infoHyp rfl (by decide) (.slice Av FL.length cv) _ _ rfl Hco7.out.hyps.row [.string HL[k].label, .bool true, .int .i64 HL[k].var, .slice Ae' HL[k].expr.length ce'] rfl rfl (by simp [Value.oneCell']) (by omega) (by decide) ?_; go_must (intro v6 W6 hr6 hs6 ho6; obtain ⟨A6, c6, rfl⟩ := hr6.shape; have hb6 := hs6.get Hco7.out.blk (by simpa using Hco7.out.hyps.row.ne Hco7.out.blk (by decide)); obtain ⟨e0, e1, e2, ef⟩ := Er hb6; have Hr6 := Kd hr6; have Hs6 := Kd hs6; have Ho6 := Kd ho6; have hbl6 := Af hb6; clear hr6 hs6 ho6 hb6)))
       go_roundw
       case rel =>
        have hft := Hft.out
        rw [Hfl.out, if_pos (by simp [Hin.out])] at hft
        have hfv : Be (FL ++ [HL[k]]) = Be FL ++ [HL[k].var] := by rw [FJ, if_pos Hfl.out]
        have hsz : wr.heap.size ≤ W7.heap.size := by have := Hs7.out.size; rw [AA] at this; omega
        have hpush := Gr.push Hco7.out Hal.out.old (Hal.out.base.then Hs7.out fun c hc => .inr (Hal.out.fresh c (Option.mem_toList.1 hc))) HL[k] (u := .slice A7 ((Be FL).length + 1) c7) (by rw [Hfl.out]; exact Hr6.out) Hs6.out Ho6.out
         ⟨(Hint.out.row.same (Ad.alloc [] wr _) (by simp)).same Hs7.out (fun c hc hm => by have h1 := Hevo.out c hc; have h2 := Hal.out.fresh c (Option.mem_toList.1 hm); omega), by simp⟩ Hevf.out Hevo.out Hflo.out hww (Nat.le_refl _) Hhf'.out (by rw [hfv, Cq, List.length_append]; exact Hr7.out) (Hal.out.fresh.next Hal.out.base.size Ho7.out)
        exact ⟨k + 1, .slice A6 (FL.length + 1) c6, evs' ++ [.slice Ae' HL[k].expr.length ce'], hlt, by go_num, by rw [hft]; exact hpush, Hhf'.out.next (Nat.le_trans Hat.out.base.size hsz) Ho6.out⟩
       case measure => simp [intOf]; omega
      ·have hcz : ((cn : Int) == 0) = true := by rw [beq_iff_eq]; have := hc0.2 hin; omega
       have Hin := Kd hin
       clear hin hc0
       go_wp2
       go_roundw
       case rel =>
        have hft := Hft.out
        rw [Hfl.out, if_neg (by simp [Hin.out]), List.append_nil] at hft
        exact ⟨k + 1, .slice Av FL.length cv, evs', hlt, by go_num, by rw [hft]; exact Hat.out.same (Ad.alloc _ _ _), Hhf'.out⟩
       case measure => simp [intOf]; omega
    ·have hkk : k = HL.length := by omega
     subst hkk
     rw [List.take_length] at hat
     obtain ⟨FL, hFL⟩ : ∃ FL, HL.filter K = FL := ⟨_, rfl⟩
     rw [hFL] at hat
     have hFLn : FL.length ≤ 1700000 := by rw [← hFL]; exact Nat.le_trans (List.length_filter_le _ _) (by omega)
     have hFVn : (Be FL).length ≤ 1700000 := by
      exact zq128
     have hfh3 := HFh2.out
     have hfp3 := HFp2.out
     rw [hFL] at hfh3 hfp3
     have HFh3 := Kd hfh3
     have HFp3 := Kd hfp3
     have hsb := Hfi5.out.base.trans hat.base
     have hon := fun (W : World) (hW : Ad [] wr W) => N8 _ _ PL (Be FL) W (Hprb.out.same (hsb.trans hW) (by simp)) (hat.row.same hW (by simp)) (by omega) (by omega)
     obtain ⟨Av, cv, rfl⟩ := hat.coll.hyps.row.shape
     obtain ⟨Vv, vc, rfl⟩ := hat.row.shape
     have p1 := hat.base.cell d1 (by simp)
     have pl := Nat.lt_of_lt_of_le dl hat.base.size
     have hR := hsb.get HBb.out (by simp)
     have HR := Kd hR
     have Hat := Kd hat
     clear hat hsb hfh3 hfp3 hFL H1 hhf' hR
     go_wp2_with (go_at_call 156; go_must (refine (hon _ (Ad.refl _ _)).mono ?_; rintro e' W8 ⟨v8, rfl, hr8, hs8, hv8⟩; obtain ⟨A8, c8, rfl⟩ := hr8.shape; have hb8 := hs8.get Hat.out.coll.blk (by simp); obtain ⟨e0, e1, e2, ef⟩ := Er hb8; have hR8 := hs8.get HR.out (by simp); obtain ⟨r0, r1, r2, rf⟩ := Er hR8; have hbl8 := Af hb8; have hRl8 := Af hR8; have Hr8 := Kd hr8; have Hs8 := Kd hs8; have Hv8 := Kd hv8; have Hb8 := Kd hb8; have HR8 := Kd hR8; clear hr8 hs8 hv8 hb8 hR8))
     have hRB : w.heap.size + 1 ≠ W5.heap.size := by
      have h1 := Af HBb.out
      have h2 := Hfi5.out.base.size
      omega
     have hz := AI (AI (AI ((AG (w := W8) ⟨W5.heap.size, 1, none⟩ (.slice A8 (E4 PL (Be FL)).length c8) hRB).trans HR8.out) 0 (.slice Av FL.length cv)) 1 (.slice A8 (E4 PL (Be FL)).length c8)) 2 (.slice A5 e.length c5)
     have hs9 : Ad [w.heap.size + 1, W5.heap.size] W8 ((((W8.setCell ⟨W5.heap.size, 1, none⟩ (.slice A8 (E4 PL (Be FL)).length c8)).setCell ⟨w.heap.size + 1, 0, none⟩ (.slice Av FL.length cv)).setCell ⟨w.heap.size + 1, 1, none⟩ (.slice A8 (E4 PL (Be FL)).length c8)).setCell ⟨w.heap.size + 1, 2, none⟩ (.slice A5 e.length c5)) :=
      (((Ad.setCell _ _ _ (by simp)).trans (Ad.setCell _ _ _ (by simp))).trans (Ad.setCell _ _ _ (by simp))).trans (Ad.setCell _ _ _ (by simp))
     generalize (((W8.setCell _ _).setCell _ _).setCell _ _).setCell _ _ = W9 at hz hs9 ⊢
     obtain ⟨y0, y1, y2, yf⟩ := Er hz
     refine bodyPost_ret_by (v := .tuple #[.agg #[.slice Av FL.length cv, .slice A8 (E4 PL (Be FL)).length c8, .slice A5 e.length c5], .int .i64 0]) (by simp [results, Tryz.f127, go_sem, y0, y1, y2]) rfl ?_
     have key : ∀ {el k n : Nat} {u : Value} {xs : List Value}, Row W8 el k u n xs → el ≠ 67 → Row W9 el k u n xs := by
      intro el k n u xs hu ht
      refine hu.same hs9 fun c hc hm => ?_
      rcases List.mem_cons.1 hm with hm | hm
      ·exact hu.ne HR8.out ht (hm ▸ hc)
      ·exact hu.ne Hb8.out ht ((List.mem_singleton.1 hm) ▸ hc)
     have hco := (Hat.out.same Hs8.out).coll
     rw [HFh3.out, HFp3.out]
     have hz1 := Hfi.out.base.size
     have hz2 := Hwb.out.size
     have hz3 := Hat.out.base.size
     refine ⟨_, _, _, evs', rfl, ⟨key hco.hyps.row (by decide), hco.hyps.exprs.imp fun y ev hi => ⟨key hi.row (by decide), by simp⟩, hco.hyps.flo⟩, hco.fr, hco.frs, key Hr8.out (by decide), fun c hc => by have := Hv8.out c hc; omega, key (((Hr5.out.same Hat.out.base (by simp)).same Hs8.out (by simp))) (by decide), fun c hc => by have := Hv5.out c hc; omega, ((Hw5.out.trans Hat.out.base).trans Hs8.out).then hs9 fun c hc => ?_⟩
     rcases List.mem_cons.1 hc with hc | hc
     ·exact .inr (by omega)
     ·have := List.mem_singleton.1 hc; exact .inr (by omega)
structure RA where
 vo : Value
 sv : List (Value × Value)
 lv : Value
 nv : Value
 nw : Value
 np : Value
def Jw : Value → List Nat
 | .pointer (some a) => [a.block]
 | _ => []
def RA.blocks (A : RA) (r : Nat) : List Nat := r :: (A.vo.ownBlock.toList ++ Jw A.nv ++ A.nw.ownBlock.toList ++ A.np.ownBlock.toList)
def BY : List St → List (Value × Value) → List Value
 | s :: l, p :: m => s.cells p.1 p.2 ++ BY l m
 | _, _ => []
theorem ER (s : St) (p : Value × Value) : ∀ (l : List St) (m : List (Value × Value)), m.length = l.length → BY (l ++ [s]) (m ++ [p]) = BY l m ++ s.cells p.1 p.2
 | [], [], _ => by simp [BY]
 | x :: l, y :: m, h => by simp [BY, ER s p l m (by simpa using h)]
 | [], _ :: _, h => by simp at h
 | _ :: _, [], h => by simp at h
def F3 (w : World) (M : List Nat) (s : St) (p : Value × Value) : Prop :=
 Fix w M 59 4 p.1 s.words.length (AC s.words) ∧ Fix w M 59 4 p.2 s.proof.length (AC s.proof)
theorem F3.move {w w' : World} {M M' : List Nat} (m : AN M M' w w') {s : St} {p : Value × Value} (h : F3 w M s p) : F3 w' M' s p := ⟨h.1.move m, h.2.move m⟩
def OZ (w : World) (M : List Nat) (v : Value) : Option Tk → Prop
 | none => v = .pointer none
 | some t => ∃ b, v = .pointer (some ⟨b, 0, none⟩) ∧ w.heap[b]? = some (AP t) ∧ b ∉ M
theorem OZ.move {w w' : World} {M M' : List Nat} {v : Value} {o : Option Tk} (h : OZ w M v o) (m : AN M M' w w') : OZ w' M' v o := by
 cases o with
 | none => exact h
 | some t =>
  obtain ⟨b, h1, h2, h3⟩ := h
  exact ⟨b, h1, m.same.get h2 h3, (G5.move (w := w) ⟨Af h2, h3⟩ m).2⟩
def Bj (s : St) (wv pv : Value) : Obj := .cells (s.cells wv pv).toArray 98 (0, 0)
structure RK (w : World) (vo nv nw np : Value) (s : St) : Prop where
 at_ : ∃ b, nv = .pointer (some ⟨b, 0, none⟩) ∧ w.heap[b]? = some (Bj s nw np) ∧ vo.ownBlock ≠ some b
 words : Row w 59 4 nw s.words.length (AC s.words)
 proof : Row w 59 4 np s.proof.length (AC s.proof)
 apart : ∀ b, nw.ownBlock = some b → np.ownBlock ≠ some b
def K5 (w : World) (A : RA) : Option St → Prop
 | none => A.nv = .pointer none ∧ A.nw = .slice none 0 0 ∧ A.np = .slice none 0 0
 | some s => RK w A.vo A.nv A.nw A.np s
structure BD (w : World) (r : Nat) (A : RA) (R : Rd) : Prop where
 blk : w.heap[r]? = some (.cells #[A.vo, A.lv, A.nv, BI R.what, .bool R.proves] 145 (0, 0))
 out : Row w 98 16 A.vo R.out.length (BY R.out A.sv)
 outs : Bm (F3 w (A.blocks r)) R.out A.sv
 label : OZ w (A.blocks r) A.lv R.label
 now : K5 w A R.now
theorem BD.lt {w : World} {r : Nat} {A : RA} {R : Rd} (h : BD w r A R) : ∀ b ∈ A.blocks r, b < w.heap.size := by
 intro b hb
 simp only [RA.blocks, List.mem_cons, List.mem_append, Option.mem_toList] at hb
 have hn := h.now
 rcases hb with rfl | ((hb | hb) | hb) | hb
 ·exact Af h.blk
 ·exact h.out.lt hb
 ·unfold K5 at hn
  split at hn
  ·rw [hn.1] at hb; simp [Jw] at hb
  ·obtain ⟨c, h1, h2, _⟩ := hn.at_
   rw [h1] at hb; simp [Jw] at hb; subst hb; exact Af h2
 ·unfold K5 at hn
  split at hn
  ·rw [hn.2.1] at hb; simp [Value.ownBlock] at hb
  ·exact hn.words.lt hb
 ·unfold K5 at hn
  split at hn
  ·rw [hn.2.2] at hb; simp [Value.ownBlock] at hb
  ·exact hn.proof.lt hb
theorem BD.same {w w' : World} {r : Nat} {A : RA} {R : Rd} (h : BD w r A R) (hs : Ad [] w w') : BD w' r A R := by
 have m : AN (A.blocks r) (A.blocks r) w w' := AN.of_same hs
 refine ⟨hs.get h.blk (by simp), h.out.same hs (by simp), h.outs.imp (fun _ _ => F3.move m), h.label.move m, ?_⟩
 have hn := h.now
 unfold K5 at hn ⊢
 split at hn
 ·exact hn
 ·obtain ⟨b, h1, h2, h3⟩ := hn.at_
  exact ⟨⟨b, h1, hs.get h2 (by simp), h3⟩, hn.words.same hs (by simp), hn.proof.same hs (by simp), hn.apart⟩
theorem BD.facts {w : World} {r : Nat} {A : RA} {R : Rd} (h : BD w r A R) : w.cell? ⟨r, 0, none⟩ = some A.vo ∧ w.cell? ⟨r, 1, none⟩ = some A.lv ∧ w.cell? ⟨r, 2, none⟩ = some A.nv ∧ w.cell? ⟨r, 3, none⟩ = some (BI R.what) ∧ w.cell? ⟨r, 4, none⟩ = some (.bool R.proves) ∧ ∀ i, w.frozen? ⟨r, i, none⟩ = false :=
 ⟨Ai h.blk, Ai h.blk, Ai h.blk, Ai h.blk, Ai h.blk, AE h.blk⟩
def RdR (r : Nat) (A : RA) (x : Nat × Rd) (w : World) (e : Ending) (w' : World) : Prop := e = .returned (.int .i64 x.1) ∧ ∃ A', BD w' r A' x.2 ∧ AN (A.blocks r) (A'.blocks r) w w'
theorem RdR.stay {r : Nat} {A : RA} {R : Rd} {n : Nat} {w w' : World} (h : BD w r A R) (hs : Ad [] w w') : RdR r A (n, R) w (.returned (.int .i64 n)) w' :=
 ⟨rfl, A, h.same hs, AN.of_same hs⟩
theorem BD.setLabel {w w' : World} {r : Nat} {A : RA} {R : Rd} (h : BD w r A R) (v : Value) (o : Option Tk) (hs : Ad [r] w w') (hb : w'.heap[r]? = some (.cells #[A.vo, v, A.nv, BI R.what, .bool R.proves] 145 (0, 0)))
  (hl : OZ w' (A.blocks r) v o) : BD w' r { A with lv := v } { R with label := o } ∧ AN (A.blocks r) (RA.blocks { A with lv := v } r) w w' := by
 have m : AN (A.blocks r) (A.blocks r) w w' := ⟨fun _ h => .inl h, hs.mono (fun x hx => .inl (by simp at hx; subst hx; simp [RA.blocks]))⟩
 refine ⟨⟨hb, h.out.same hs (fun b hb' => by have := h.out.ne h.blk (by decide); simp; rintro rfl; exact this hb'), h.outs.imp (fun _ _ => F3.move m), hl, ?_⟩, m⟩
 have hn := h.now
 show K5 w' { A with lv := v } R.now
 cases hR : R.now with
 | none => rw [hR] at hn; exact hn
 | some s =>
  rw [hR] at hn
  obtain ⟨b, h1, h2, h3⟩ := hn.at_
  have hbr : b ≠ r := by rintro rfl; have := h.blk; rw [h2] at this; simp [Bj] at this
  exact ⟨⟨b, h1, hs.get h2 (by simpa using hbr), h3⟩, hn.words.same hs (fun b hb' => by have := hn.words.ne h.blk (by decide); simp; rintro rfl; exact this hb'),
   hn.proof.same hs (fun b hb' => by have := hn.proof.ne h.blk (by decide); simp; rintro rfl; exact this hb'), hn.apart⟩
theorem zq34 {P : Prop} (h : P := by
 repeat (first | (with_reducible refine Ad.alloc' ?_ _) | (with_reducible refine Ad.drew' ?_) | (with_reducible refine Ad.drewN' ?_ _) | (with_reducible refine Ad.set ?_ _ _ (by simp; done)) | (with_reducible refine Ad.setNew ?_ _ _ (by simp <;> omega)) | (with_reducible exact Ad.refl _ _))) : P := h
theorem KI (w : World) (r : Nat) (A : RA) (R : Rd) (h : BD w r A R) (t : Tk) (hp : BG t.text = true) :
  Calls Tryz.prog 56 #[.pointer (some ⟨r, 0, none⟩), .agg #[.string t.text, .int .i64 t.at_.off, .int .i64 t.at_.line, .int .i64 t.at_.col]] w (RdR r A (R.between t) w) := by
 obtain ⟨c0, c1, c2, c3, c4, cf⟩ := h.facts
 have hpc := Bc t.text
 rw [hp] at hpc
 have H := Kd h
 have hl := h.label
 have hlt := Af h.blk
 cases hlb : R.label with
 | some x =>
  have hx : R.between t = (60, R) := by simp [Rd.between, B5, hp, hlb]
  rw [hx]
  rw [hlb] at hl
  obtain ⟨b, hlv, -⟩ := hl
  rw [hlv] at c1
  clear hx hlb h hp hlv
  go_enter Tryz.func56, Tryz.ntmps56
  go_wp2_with (go_at_call 105; refine (hpc _).mono ?_; rintro e w' ⟨rfl, rfl⟩)
  go_ret
  exact RdR.stay H.out (Ad.alloc _ _ _)
 | none =>
  have hx : R.between t = (0, { R with label := some t }) := by simp [Rd.between, B5, hp, hlb]
  rw [hx]
  rw [hlb] at hl
  have hlv : A.lv = .pointer none := hl
  rw [hlv] at c1
  have hll := h.lt
  clear hx hlb h hp hlv hl
  go_enter Tryz.func56, Tryz.ntmps56
  go_wp2_with (go_at_call 105; refine (hpc _).mono ?_; rintro e w' ⟨rfl, rfl⟩)
  go_ret
  have hb := H.out.blk
  have hne : w.heap.size ≠ r := by omega
  have hne' : r ≠ w.heap.size := by omega
  refine ⟨rfl, _, H.out.setLabel (.pointer (some ⟨w.heap.size, 0, none⟩)) (some t) ?_ ?_ ⟨_, rfl, ?_, fun hm => by have := hll _ hm; omega⟩⟩
  ·exact zq34
  ·simp [AZ, Az, Ba, hb, hne', AV]
  ·simp only [AZ, Ba, ↓reduceIte, AP]
end Go.Proofs.YtbfbgfpghkijdaaGreatDoor
