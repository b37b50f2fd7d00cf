/- lemmalaw texts, part 18. -/
import Derived.Test.YtdhkmfpfbjcdiaaGreatDoorYaq
set_option maxRecDepth 100000
set_option linter.unusedVariables false
set_option linter.unusedSimpArgs false
set_option maxHeartbeats 32000000
namespace Go.Proofs.YtdhkmfpfbjcdiaaGreatDoor
open Go.RowKit
def ErrR (n : Nat) (w : World) (e : Ending) (w' : World) : Prop := e = .returned (.tuple #[.agg #[.slice none 0 0, .slice none 0 0, .slice none 0 0], .int .i64 n]) ∧ Same [] w w'
theorem blk3 {w : World} {b : Nat} {x0 x1 x2 : Value} {t : TypeId} (h : w.heap[b]? = some (.cells #[x0, x1, x2] t (0, 0))) : w.cell? ⟨b, 0, none⟩ = some x0 ∧ w.cell? ⟨b, 1, none⟩ = some x1 ∧ w.cell? ⟨b, 2, none⟩ = some x2 ∧ ∀ i, w.frozen? ⟨b, i, none⟩ = false :=
 ⟨blk_c h, blk_c h, blk_c h, blk_free h⟩
theorem Frame_bad (w : World) (s t : Nat) (A : SA) (M : List Nat) (scs : List Sc) (h : StkAt w s t A M scs) (hsm : Small scs) (TA : TA) (T : Tbl) (hT : TblAt w t TA T) (va : Value) (e : List Int) (he : Row w 3 1 va e.length (intCells e)) (hn : e.length ≤ 1000000) (hc : checkS T.isVar scs e ≠ 0) :
  Calls Tryz.prog 135 #[.pointer (some ⟨s, 0, none⟩), va] w (ErrR (checkS T.isVar scs e) w) := by
 have hck := fun (W : World) (hW : Same [] w W) => check_calls W s t A M scs (h.same hW) hsm TA T (hT.same hW (by simp)) va e (he.same hW (by simp)) hn
 obtain ⟨num, hnum⟩ : ∃ num, checkS T.isVar scs e = num := ⟨_, rfl⟩
 rw [hnum] at hck hc ⊢
 unfold NumR at hck
 have hne : ((num : Int) == 0) = false := by rw [beq_eq_false_iff_ne]; omega
 clear h hsm hT he hnum hc
 go_enter Tryz.func135, Tryz.ntmps135
 go_wp2_with (go_at_call 134; go_must (refine (hck _ ((Same.alloc [] _ _).trans (Same.alloc [] _ _))).mono ?_; rintro e' W1 ⟨rfl, hs1⟩; have hB := hs1.get (blk_new _ _) (by simp); rw [size_alloc'] at hB; obtain ⟨k0, k1, k2, kf⟩ := blk3 hB; have hb1 := blk_lt hB; have HB := Kd hB; have Hs1 := Kd (((Same.alloc [] w (Obj.cells #[.pointer (some ⟨s, 0, none⟩)] 84)).trans (Same.alloc [] _ _)).trans hs1); clear hs1 hB))
 have hz : ((((W1.setCell ⟨w.heap.size + 1, 0, none⟩ (.slice none 0 0)).setCell ⟨w.heap.size + 1, 1, none⟩ (.slice none 0 0)).setCell ⟨w.heap.size + 1, 2, none⟩ (.slice none 0 0)).heap[w.heap.size + 1]?) = some (.cells #[.slice none 0 0, .slice none 0 0, .slice none 0 0] 47 (0, 0)) := blk_set (blk_set (blk_set HB.out 0 _) 1 _) 2 _
 have hs9 : Same [] w (((W1.setCell ⟨w.heap.size + 1, 0, none⟩ (.slice none 0 0)).setCell ⟨w.heap.size + 1, 1, none⟩ (.slice none 0 0)).setCell ⟨w.heap.size + 1, 2, none⟩ (.slice none 0 0)) := ((Hs1.out.setNew _ _ (by simp)).setNew _ _ (by simp)).setNew _ _ (by simp)
 generalize ((W1.setCell _ _).setCell _ _).setCell _ _ = W9 at hz hs9 ⊢
 obtain ⟨y0, y1, y2, yf⟩ := blk3 hz
 refine bodyPost_ret_by (v := .tuple #[.agg #[.slice none 0 0, .slice none 0 0, .slice none 0 0], .int .i64 num]) (by simp [results, Tryz.f135, go_sem, y0, y1, y2]) rfl ?_
 exact ⟨rfl, hs9⟩
structure FInv (Wb : World) (b bm : Nat) (l : List Int) (W : World) : Prop where
 base : Same [] Wb W
 cell : W.heap[bm]? = some (.cells #[.map (some b)] 208 (0, 0))
 cnt : ∃ m, Cnt W b l m
theorem FInv.init {Wb : World} {b bm : Nat} (hb : b = Wb.heap.size) (hbm : bm = Wb.heap.size + 1) : FInv Wb b bm [] ((Wb.alloc (.map #[] 0)).alloc (.cells #[.map (some b)] 208)) := by
 subst hb
 refine ⟨(Same.alloc _ _ _).trans (Same.alloc _ _ _), ?_, [], Cnt.nil ((KMap.new intV Wb 0).same (Same.alloc [] _ _) (by simp))⟩
 rw [hbm, ← size_alloc' Wb (.map #[] 0)]
 exact blk_new _ _
theorem FInv.same {Wb W W' : World} {b bm : Nat} {l : List Int} (h : FInv Wb b bm l W) (hs : Same [] W W') : FInv Wb b bm l W' := by
 obtain ⟨m, hm⟩ := h.cnt
 exact ⟨h.base.trans hs, hs.get h.cell (by simp), m, hm.same hs (by simp)⟩
theorem note_at {Wb W : World} {s t b bm bs : Nat} {A : SA} {M : List Nat} {scs : List Sc} {TA : TA} {T : Tbl} {l : List Int} (h : FInv Wb b bm l W) (hS : StkAt Wb s t A M scs) (hT : TblAt Wb t TA T) (hbs : Wb.heap[bs]? = some (.cells #[.pointer (some ⟨s, 0, none⟩)] 84 (0, 0))) (hb : Wb.heap.size ≤ b) (hne : bm ≠ b)
  (hl : l.length ≤ 1000000000000) (va : Value) (e : List Int) (he : Row W 3 1 va e.length (intCells e)) (hn : e.length ≤ 1000000) :
  Calls Tryz.prog 163 #[va, .pointer (some ⟨bs, 0, none⟩), .pointer (some ⟨bm, 0, none⟩)] W fun e' W' => e' = .returned (.tuple #[]) ∧ FInv Wb b bm (l ++ varsOf e T.isVar) W' := by
 obtain ⟨m, hm⟩ := h.cnt
 refine (note_calls W s t A M scs (hS.same h.base) TA T (hT.same h.base (by simp)) va e he hn bs bm b (h.base.get hbs (by simp)) h.cell l m hm hl).mono ?_
 rintro e' W' ⟨rfl, hm', hs⟩
 exact ⟨rfl, h.base.then hs (fun x hx => by simp at hx; subst hx; exact .inr hb), hs.get h.cell (by simpa using hne), hm'⟩
def noteL (vars : Int → Bool) (l : List Hy) : List Int := (l.filter fun h => !h.floating).flatMap fun h => varsOf h.expr vars
theorem noteL_take (vars : Int → Bool) (l : List Hy) (k : Nat) (hk : k < l.length) : noteL vars (l.take (k + 1)) = noteL vars (l.take k) ++ if l[k].floating = true then [] else varsOf l[k].expr vars := by
 unfold noteL
 rw [List.take_succ_eq_append_getElem hk, List.filter_append, List.flatMap_append]
 cases hf : l[k].floating <;> simp [hf]
theorem noteL_len (vars : Int → Bool) (l : List Hy) (h : ∀ x ∈ l, x.expr.length ≤ 1000) : ∀ k, k ≤ l.length → (noteL vars (l.take k)).length ≤ 1000 * k
 | 0, _ => by simp [noteL]
 | k + 1, hk => by
  have h1 := noteL_len vars l h k (by omega)
  rw [noteL_take _ _ _ hk, List.length_append]
  have h2 := varsOf_len vars l[k].expr
  have h3 := h l[k] (List.getElem_mem _)
  split
  ·simp; omega
  ·omega
def FrmI (Wb : World) (b bm : Nat) (vars : Int → Bool) (goal : List Int) (H : List Hy) (u : Value) (W : World) : Prop :=
 ∃ k : Nat, k ≤ H.length ∧ u = .int .i64 k ∧ FInv Wb b bm (varsOf goal vars ++ noteL vars (H.take k)) W
theorem Coll.moved {w W W' : World} {t : TypeId} {b : Nat} {rest : List Value} {l : List Hy} {hv : Value} {evs : List Value} {S : List Nat} (h : Coll w t b rest l hv evs W) (hs : Same S W W') (hb : b ∉ S) (hh : ∀ c, hv.ownBlock = some c → c ∉ S) (he : ∀ ev ∈ evs, ∀ c, ev.ownBlock = some c → c ∉ S) (hS : ∀ c ∈ S, w.heap.size ≤ c) : Coll w t b rest l hv evs W' :=
 ⟨hs.get h.blk hb, ⟨h.hyps.row.same hs hh, h.hyps.exprs.impMem fun y ev hev hi => ⟨hi.row.same hs (he ev hev), by simp⟩, h.hyps.flo⟩, h.fr, h.frs, h.base.then hs fun c hc => .inr (hS c hc)⟩
structure FrmAt (w Wc : World) (b : Nat) (gv : Value) (l : List Hy) (hv v : Value) (evs : List Value) (W : World) : Prop where
 coll : Coll w 47 b [.slice none 0 0, gv] l hv evs W
 row : Row W 3 1 v (frameVars l).length (intCells (frameVars l))
 fresh : FreshB Wc v
 old : ∀ ev ∈ evs, ∀ c, ev.ownBlock = some c → c < Wc.heap.size
 base : Same [] Wc W
theorem FrmAt.same {w Wc W W' : World} {b : Nat} {gv : Value} {l : List Hy} {hv v : Value} {evs : List Value} (h : FrmAt w Wc b gv l hv v evs W) (hs : Same [] W W') : FrmAt w Wc b gv l hv v evs W' :=
 ⟨h.coll.same hs, h.row.same hs (by simp), h.fresh, h.old, h.base.trans hs⟩
theorem FrmAt.push {w Wc W W1 : World} {b : Nat} {gv : Value} {l : List Hy} {hv : Value} {evs : List Value} (hc : Coll w 47 b [.slice none 0 0, gv] l hv evs W) (hold : ∀ ev ∈ evs, ∀ c, ev.ownBlock = some c → c < Wc.heap.size) (hbase : Same [] Wc W) (x : Hy) {u v1 ev : Value} (hr : Row W1 150 4 v1 (l.length + 1) (hyCells l evs ++ [.string x.label, .bool x.floating, .int .i64 x.var, ev]))
  (hs : Same hv.ownBlock.toList W W1) (ho : v1.ownBlock = hv.ownBlock ∨ ∃ b, v1.ownBlock = some b ∧ W.heap.size ≤ b) (hx : Ints W [] ev x.expr) (hxf : FreshB w ev) (hxo : ∀ c, ev.ownBlock = some c → c < Wc.heap.size) (hf : x.floating = true → x.expr ≠ []) (hb : w.heap.size ≤ b) (hbc : Wc.heap.size ≤ b) (hhc : FreshB Wc hv)
  (hu : Row W 3 1 u (frameVars (l ++ [x])).length (intCells (frameVars (l ++ [x])))) (huf : FreshB Wc u) : FrmAt w Wc b gv (l ++ [x]) v1 u (evs ++ [ev]) (W1.setCell ⟨b, 0, none⟩ v1) := by
 refine ⟨hc.push (by decide) (by decide) x hr hs ho hx hxf hf hb, hc.other hs v1 hu (by decide) (by decide), huf, fun y hy => ?_, (hbase.then hs fun c hc => .inr (hhc c (Option.mem_toList.1 hc))).setNew _ _ hbc⟩
 rcases List.mem_append.1 hy with hy | hy
 ·exact hold y hy
 ·simp at hy; subst hy; exact hxo
theorem FrmAt.var {w Wc W W1 : World} {b : Nat} {gv : Value} {l : List Hy} {hv v : Value} {evs : List Value} (h : FrmAt w Wc b gv l hv v evs W) (hwc : w.heap.size ≤ Wc.heap.size) (hs : Same v.ownBlock.toList W W1) : Coll w 47 b [.slice none 0 0, gv] l hv evs W1 :=
 h.coll.moved hs (fun hm => h.row.ne h.coll.blk (by decide) (Option.mem_toList.1 hm)) (fun c hc hm => h.coll.hyps.row.ne_row h.row (by decide) (Option.mem_toList.1 hm) hc)
  (fun ev hev c hc hm => by have := h.old ev hev c hc; have := h.fresh c (Option.mem_toList.1 hm); omega) (fun c hc => Nat.le_trans hwc (h.fresh c (Option.mem_toList.1 hc)))
theorem frameVars_snoc (l : List Hy) (x : Hy) : frameVars (l ++ [x]) = frameVars l ++ if x.floating = true then [x.var] else [] := by
 unfold frameVars
 rw [List.filter_append, List.map_append]
 cases hf : x.floating <;> simp [hf]
theorem filter_take {K : Hy → Bool} {l : List Hy} {k : Nat} (hk : k < l.length) : (l.take (k + 1)).filter K = (l.take k).filter K ++ if K l[k] = true then [l[k]] else [] := by
 rw [List.take_succ_eq_append_getElem hk, List.filter_append]
 cases hf : K l[k] <;> simp [hf]
def FrmJ (w Wc : World) (b : Nat) (gv : Value) (K : Hy → Bool) (H : List Hy) (v u : Value) (W : World) : Prop :=
 ∃ (k : Nat) (hv : Value) (evs : List Value), k ≤ H.length ∧ u = .int .i64 k ∧ FrmAt w Wc b gv ((H.take k).filter K) hv v evs W ∧ FreshB Wc hv
theorem FreshB.next {w W : World} {v v' : Value} (h : FreshB w v) (hs : w.heap.size ≤ W.heap.size) (ho : v'.ownBlock = v.ownBlock ∨ ∃ b, v'.ownBlock = some b ∧ W.heap.size ≤ b) : FreshB w v' := by
 intro c hc
 rcases ho with ho | ⟨d, hd, hle⟩
 ·exact h c (ho ▸ hc)
 ·rw [hd] at hc; cases hc; omega
theorem scopeHyps_small {scs : List Sc} (h : Small scs) : ∀ x ∈ scopeHyps scs, x.expr.length ≤ 1000 := by
 intro x hx
 obtain ⟨sc, hsc, hx⟩ := List.mem_flatMap.1 hx
 exact (h sc hsc).2.2 x hx
def FrameR (H : List Hy) (ps : List Pr) (goal : List Int) (w : World) (e : Ending) (w' : World) : Prop := ∃ hv pv gv evs, e = .returned (.tuple #[.agg #[hv, pv, gv], .int .i64 0]) ∧ HypsIn w' [] hv evs H ∧ FreshB w hv ∧ (∀ ev ∈ evs, FreshB w ev) ∧ Row w' 113 2 pv ps.length (prCells ps) ∧ FreshB w pv ∧ Row w' 3 1 gv goal.length (intCells goal) ∧ FreshB w gv ∧ Same [] w w'
theorem Frame_good (w : World) (s t : Nat) (A : SA) (M : List Nat) (scs : List Sc) (h : StkAt w s t A M scs) (hsm : Small scs) (TA : TA) (T : Tbl) (hT : TblAt w t TA T) (va : Value) (e : List Int) (he : Row w 3 1 va e.length (intCells e)) (hn : e.length ≤ 1000) (hc : checkS T.isVar scs e = 0) :
  Calls Tryz.prog 135 #[.pointer (some ⟨s, 0, none⟩), va] w (FrameR (frameHyps T.isVar scs e) (framePairs T.isVar scs e) e w) := by
 have hmm := @run_makeMap Tryz.prog
 have hmf : ∀ (fn : Fn) (first cap : Array Value) (w : World), (Instr.makeFunc fn first cap).run Tryz.prog w = .ok (.func fn first cap) w := fun _ _ _ _ => rfl
 have hck := fun (W : World) (hW : Same [] w W) => check_calls W s t A M scs (h.same hW) hsm TA T (hT.same hW (by simp)) va e (he.same hW (by simp)) (by omega)
 have hsc := fun (W : World) (hW : Same [] w W) => Scope_calls W s t A M scs (h.same hW) hsm
 rw [hc] at hck
 unfold NumR at hck
 have H := Kd h
 have Hsm := Kd hsm
 have HT := Kd hT
 have He := Kd he
 clear h hsm hT he hc
 go_enter Tryz.func135, Tryz.ntmps135
 go_wp2_with (first
  | (go_at_call 134; go_must (refine (hck _ ((Same.alloc [] _ _).trans (Same.alloc [] _ _))).mono ?_; rintro e' W1 ⟨rfl, hs1⟩; have hB := hs1.get (blk_new _ _) (by simp); rw [size_alloc'] at hB; have hS := hs1.get (blk_old (blk_new w _) _) (by simp); have sc0 := blk_c (i := 0) hS; have hb1 := blk_lt hB; have HB := Kd hB; have HS := Kd hS; have Hs1 := Kd (((Same.alloc [] w (Obj.cells #[.pointer (some ⟨s, 0, none⟩)] 84)).trans (Same.alloc [] _ _)).trans hs1); clear hs1 hB hS))
  | (go_at_call 120; go_must (refine (hsc _ Hs1.out).mono ?_; rintro e' W2 ⟨hv, pv, evs, rfl, hh, hhf, hef, hpr, hpf, hs2⟩; have HB2 := Kd (hs2.get HB.out (by simp)); have hS2 := hs2.get HS.out (by simp); have sc2 := blk_c (i := 0) hS2; have HS2 := Kd hS2; have hb2 := Nat.lt_of_lt_of_le hb1 hs2.size; obtain ⟨Ah, ch, rfl⟩ := hh.row.shape; obtain ⟨Ap, cp, rfl⟩ := hpr.shape; have Hh := Kd hh; have Hhf := Kd hhf; have Hef := Kd hef; have Hpr := Kd hpr; have Hpf := Kd hpf; have Hs2 := Kd hs2; clear hS2 hh hhf hef hpr hpf hs2))
  | (go_at_call 163; go_must (refine (note_at (Wb := W2.alloc (Obj.cells #[.slice Ah (scopeHyps scs).length ch, .slice Ap (activeS scs).length cp] 49)) (b := W2.heap.size + 1) (bm := W2.heap.size + 1 + 1) (FInv.init (by rw [size_alloc']) (by rw [size_alloc'])) (H.out.same ((Hs1.out.trans Hs2.out).trans (Same.alloc _ _ _))) (HT.out.same ((Hs1.out.trans Hs2.out).trans (Same.alloc [] _ _)) (by simp)) (blk_old HS2.out _) (by rw [size_alloc']; omega) (by omega) (by simp) va e (He.out.same ((Hs1.out.trans Hs2.out).trans (((Same.alloc [] _ _).trans (Same.alloc _ _ _)).trans (Same.alloc _ _ _))) (by simp)) (by omega)).mono ?_; rintro e' W3 ⟨rfl, hf3⟩; rw [List.nil_append] at hf3; have ha3 := hf3.base.get (blk_new W2 _) (by simp); obtain ⟨a0, a1, af⟩ := blk2 ha3; have m0 := blk_c (i := 0) hf3.cell; have ml3 := blk_lt hf3.cell; have Hf3 := Kd hf3; have Ha3 := Kd ha3; clear hf3 ha3)))
 have hwb := (Hs1.out.trans Hs2.out).trans (Same.alloc [] W2 (Obj.cells #[.slice Ah (scopeHyps scs).length ch, .slice Ap (activeS scs).length cp] 49))
 have HSb := Kd (H.out.same hwb)
 have HTb := Kd (HT.out.same hwb (by simp))
 have Heb := Kd (He.out.same hwb (by simp))
 have Hhb := Kd (Hh.out.same (Same.alloc [] W2 (Obj.cells #[.slice Ah (scopeHyps scs).length ch, .slice Ap (activeS scs).length cp] 49)))
 have Hprb := Kd (Hpr.out.same (Same.alloc [] W2 (Obj.cells #[.slice Ah (scopeHyps scs).length ch, .slice Ap (activeS scs).length cp] 49)) (by simp))
 have HBb := Kd (blk_old HB2.out (Obj.cells #[.slice Ah (scopeHyps scs).length ch, .slice Ap (activeS scs).length cp] 49))
 have HSbb := Kd (blk_old HS2.out (Obj.cells #[.slice Ah (scopeHyps scs).length ch, .slice Ap (activeS scs).length cp] 49))
 have Hwb := Kd hwb
 have HAb := Kd (blk_new W2 (Obj.cells #[.slice Ah (scopeHyps scs).length ch, .slice Ap (activeS scs).length cp] 49))
 have hzb : (W2.alloc (Obj.cells #[.slice Ah (scopeHyps scs).length ch, .slice Ap (activeS scs).length cp] 49)).heap.size = W2.heap.size + 1 := size_alloc' _ _
 have hHn : (scopeHyps scs).length ≤ 1700000 := by
  have := scopeHyps_len scs Hsm.out scs.length (Nat.le_refl _)
  rw [List.take_length] at this
  have := H.out.len
  omega
 have HHs := Kd (scopeHyps_small Hsm.out)
 have hfp : framePairs T.isVar scs e = onlyP (activeS scs) (frameVars (frameHyps T.isVar scs e)) := rfl
 have hfh : frameHyps T.isVar scs e = (scopeHyps scs).filter fun h => !h.floating || (varsOf e T.isVar ++ noteL T.isVar (scopeHyps scs)).contains h.var := rfl
 have HFp := Kd hfp
 have HFh := Kd hfh
 have hacn := active_len Hsm.out H.out.len
 clear hwb hfp hfh
 generalize W2.alloc (Obj.cells #[.slice Ah (scopeHyps scs).length ch, .slice Ap (activeS scs).length cp] 49) = Wb at *
 clear hck hsc HB HS HB2 HS2 Hh Hpr hb1 sc0 sc2
 generalize scopeHyps scs = HL at *
 generalize activeS scs = PL at *
 have h0 : FrmI Wb (W2.heap.size + 1) (W2.heap.size + 1 + 1) T.isVar e HL (.int .i64 0) W3 := ⟨0, Nat.zero_le _, rfl, by simpa [noteL] using Hf3.out⟩
 have H0 := Kd h0
 clear h0
 go_loopw [33] (fun u wr => FrmI Wb (W2.heap.size + 1) (W2.heap.size + 1 + 1) T.isVar e HL u wr) (fun u _ => HL.length - (intOf u).toNat)
 case atStart => exact H0.out
 case round =>
  obtain ⟨k, hk, rfl, hfi⟩ := hrel
  by_cases hlt : k < HL.length
  ·obtain ⟨g2, c2, ev, hv2, hev, hints, t0, t1, t2, t3, hgl2⟩ := (Hhb.out.same hfi.base).at hlt
   cases hv2
   have hexp := HHs.out HL[k] (List.getElem_mem hlt)
   have hvl := varsOf_len T.isVar e
   have hnl := noteL_len T.isVar HL HHs.out k hk
   obtain ⟨Ae, ce, rfl⟩ := hints.row.shape
   have hnote := fun (W : World) (hW : Same [] wr W) => note_at (hfi.same hW) HSb.out HTb.out HSbb.out (by omega) (by omega) (by rw [List.length_append]; omega) _ _ (hints.row.same hW (by simp)) (by omega)
   have hst := noteL_take T.isVar HL k hlt
   have Hfi := Kd hfi
   clear hfi hev hints H0 hvl hnl
   cases hfl : HL[k].floating with
   | true =>
    rw [if_pos hfl, List.append_nil] at hst
    rw [hfl] at t1
    have Hst := Kd hst
    clear hst hfl hnote
    go_wp2
    go_roundw
    case rel => exact ⟨k + 1, hlt, by go_num, by rw [Hst.out]; exact Hfi.out.same (Same.alloc _ _ _)⟩
    case measure => simp [intOf]; omega
   | false =>
    rw [if_neg (by rw [hfl]; decide)] at hst
    rw [hfl] at t1
    have Hst := Kd hst
    clear hst hfl
    go_wp2_with (go_at_call 163; go_must (refine (hnote _ (Same.alloc _ _ _)).mono ?_; rintro e' W4 ⟨rfl, hf4⟩; have Hf4 := Kd hf4; clear hf4))
    go_roundw
    case rel => exact ⟨k + 1, hlt, by go_num, by rw [Hst.out, ← List.append_assoc]; exact Hf4.out⟩
    case measure => simp [intOf]; omega
  ·have hkk : k = HL.length := by omega
   subst hkk
   rw [List.take_length] at hfi
   have hcl := fun (W : World) (hW : Same [] Wb W) => CloneInt_calls va e.length (intCells e) W (Heb.out.same hW (by simp)) (ints_one e) (by omega)
   obtain ⟨Ae, ce, rfl⟩ := Heb.out.shape
   have Hfi := Kd hfi
   clear hfi H0 hlt hk m0 ml3 a0 a1 af
   have ha := Hfi.out.base.get HAb.out (by simp)
   obtain ⟨a0, a1, af⟩ := blk2 ha
   have hal := blk_lt ha
   clear ha
   go_wp2_with (go_at_call 44; go_must (refine (hcl _ Hfi.out.base).mono ?_; rintro e' W5 ⟨v5, rfl, hr5, hs5, hv5⟩; obtain ⟨A5, c5, rfl⟩ := hr5.shape; have d0 := hs5.cell a0 (by simp); have d1 := hs5.cell a1 (by simp); have dl := Nat.lt_of_lt_of_le hal hs5.size; have Hfi5 := Kd (Hfi.out.same hs5); have Hr5 := Kd hr5; have Hv5 := Kd hv5; clear hr5 hs5 hv5))
   have hww : w.heap.size ≤ W5.heap.size := Nat.le_trans Hwb.out.size Hfi5.out.base.size
   have hw5 : Same [] w W5 := Hwb.out.trans Hfi5.out.base
   have Hw5 := Kd hw5
   clear hw5
   obtain ⟨Lm, hLm⟩ : ∃ Lm, varsOf e T.isVar ++ noteL T.isVar HL = Lm := ⟨_, rfl⟩
   have hfi5 := Hfi5.out
   rw [hLm] at hfi5
   have HfiL := Kd hfi5
   clear hfi5
   obtain ⟨K, hK⟩ : ∃ K : Hy → Bool, K = fun h => !h.floating || Lm.contains h.var := ⟨_, rfl⟩
   have hfh2 : frameHyps T.isVar scs e = HL.filter K := by rw [hK, ← hLm]; exact HFh.out
   have hfp2 : framePairs T.isVar scs e = onlyP PL (frameVars (HL.filter K)) := by rw [← hfh2]; exact HFp.out
   have HFp2 := Kd hfp2
   have HFh2 := Kd hfh2
   have hKx : ∀ x, K x = (!x.floating || Lm.contains x.var) := fun x => by rw [hK]
   have HK := Kd hKx
   clear hK hKx hLm hfh2 hfp2 HFp HFh
   have h1 : FrmJ w W5 W5.heap.size (.slice A5 e.length c5) K HL (.slice none 0 0) (.int .i64 0) (W5.alloc (Obj.cells #[.slice none 0 0, .slice none 0 0, .slice A5 e.length c5] 47)) :=
    ⟨0, .slice none 0 0, [], Nat.zero_le _, rfl, ⟨⟨blk_new _ _, ⟨World.ownsRow_nil _ _ _ _, trivial, by simp⟩, by simp [FreshB, Value.ownBlock], by simp, Hw5.out.trans (Same.alloc _ _ _)⟩, World.ownsRow_nil _ _ _ _, by simp [FreshB, Value.ownBlock], by simp, Same.alloc _ _ _⟩, by simp [FreshB, Value.ownBlock]⟩
   have H1 := Kd h1
   clear h1
   go_loopw [13, 51] (fun v u wr => FrmJ w W5 W5.heap.size (.slice A5 e.length c5) K HL v u wr) (fun _ u _ => HL.length - (intOf u).toNat)
   case atStart => exact H1.out
   case round =>
    obtain ⟨k, hv, evs', hk, rfl, hat, hhf'⟩ := hrel
    by_cases hlt : k < HL.length
    ·obtain ⟨g2, c2, ev, hv2, hev, hints, t0, t1, t2, t3, hgl2⟩ := Hhb.out.at hlt
     cases hv2
     have hsb := Hfi5.out.base.trans hat.base
     have hflo := Hhb.out.flo HL[k] (List.getElem_mem hlt)
     have hevf : FreshB w ev := fun c hc => Nat.le_trans Hs1.out.size (Hef.out ev (List.mem_of_getElem? hev) c hc)
     have hevo : ∀ c, ev.ownBlock = some c → c < W5.heap.size := fun c hc => Nat.lt_of_lt_of_le (hints.row.lt hc) Hfi5.out.base.size
     obtain ⟨Ae', ce', rfl⟩ := hints.row.shape
     have u0 := hsb.cell t0 (by simp)
     have u1 := hsb.cell t1 (by simp)
     have u2 := hsb.cell t2 (by simp)
     have u3 := hsb.cell t3 (by simp)
     have ugl := Nat.lt_of_lt_of_le hgl2 hsb.size
     have hft := filter_take (K := K) hlt
     rw [HK.out HL[k]] at hft
     have hint' : Ints wr [] _ HL[k].expr := ⟨hints.row.same hsb (by simp), by simp⟩
     have hb := hat.coll.blk
     obtain ⟨b0, b1, b2, bf⟩ := blk3 hb
     have hbl := blk_lt hb
     obtain ⟨FL, hFL⟩ : ∃ FL, (HL.take k).filter K = FL := ⟨_, rfl⟩
     rw [hFL] at hat hft
     have hFLn : FL.length ≤ 1700000 := by rw [← hFL]; exact Nat.le_trans (List.length_filter_le _ _) (by simp; omega)
     obtain ⟨Av, cv, rfl⟩ := hat.coll.hyps.row.shape
     obtain ⟨mm, hcnt⟩ := (HfiL.out.same hat.base).cnt
     have m0 := blk_c (i := 0) (HfiL.out.same hat.base).cell
     have ml := blk_lt (HfiL.out.same hat.base).cell
     obtain ⟨cn, hcn, hcl', hc0⟩ := hcnt.get HL[k].var
     have hlk := fun o => (hcnt.map.same (Same.alloc [] wr o) (by simp)).run_lookup (P := Tryz.prog) intKey Tryz.underlying208 (zero3 _) HL[k].var false
     rw [if_neg (by decide), hcn] at hlk
     unfold intV at hlk
     clear hcn hcl' hcnt
     have Hat := Kd hat
     have Hft := Kd hft
     have Hint := Kd hint'
     have Hflo := Kd hflo
     have Hevf := Kd hevf
     have Hevo := Kd hevo
     have Hhf' := Kd hhf'
     clear t0 t1 t2 t3 hgl2 hat hft hint' hflo hevf hevo hhf' hints hev hb hFL hsb H1
     cases hfl : HL[k].floating with
     | false =>
      rw [hfl] at u1
      have Hfl := Kd hfl
      clear hfl
      go_wp2_with (at_builtin; refine wp_push (W := wr.alloc (Obj.cells #[.string HL[k].label, .bool false, .int .i64 HL[k].var, .slice Ae' HL[k].expr.length ce'] 150)) rfl _ _ 44 rfl 150 4 56 _ Tryz.underlying44 Tryz.infoHyp rfl (by decide) (.slice Av FL.length cv) _ _ rfl (Hat.out.coll.hyps.row.same (Same.alloc [] _ _) (by simp)) [.string HL[k].label, .bool false, .int .i64 HL[k].var, .slice Ae' HL[k].expr.length ce'] (by rw [size_alloc']; rfl) rfl (by simp [Value.oneCell']) (by omega) (by decide) ?_; go_must (intro v6 W6 hr6 hs6 ho6; obtain ⟨A6, c6, rfl⟩ := hr6.shape; have hb6 := hs6.get (blk_old Hat.out.coll.blk _) (by simpa using Hat.out.coll.hyps.row.ne Hat.out.coll.blk (by decide)); obtain ⟨e0, e1, e2, ef⟩ := blk3 hb6; have Hr6 := Kd hr6; have Hs6 := Kd hs6; have Ho6 := Kd ho6; have hbl6 := blk_lt hb6; clear hr6 hs6 ho6 hb6))
      go_roundw
      case rel =>
       have hft := Hft.out
       rw [Hfl.out, Bool.not_false, Bool.true_or, if_pos rfl] at hft
       have hal := Hat.out.same (Same.alloc [] wr (Obj.cells #[.string HL[k].label, .bool false, .int .i64 HL[k].var, .slice Ae' HL[k].expr.length ce'] 150))
       have hfv : frameVars (FL ++ [HL[k]]) = frameVars FL := by rw [frameVars_snoc, Hfl.out]; simp
       have hpush := FrmAt.push hal.coll hal.old hal.base HL[k] (u := _) (by rw [Hfl.out]; exact Hr6.out) Hs6.out Ho6.out ⟨Hint.out.row.same (Same.alloc [] _ _) (by simp), by simp⟩ Hevf.out Hevo.out Hflo.out hww (Nat.le_refl _) Hhf'.out (by rw [hfv]; exact hal.row) hal.fresh
       exact ⟨k + 1, .slice A6 (FL.length + 1) c6, evs' ++ [.slice Ae' HL[k].expr.length ce'], hlt, by go_num, by rw [hft]; exact hpush, Hhf'.out.next hal.base.size Ho6.out⟩
      case measure => simp [intOf]; omega
     | true =>
      rw [hfl] at u1
      have Hfl := Kd hfl
      clear hfl
      by_cases hin : HL[k].var ∈ Lm
      ·have hcz : ((cn : Int) == 0) = false := by rw [beq_eq_false_iff_ne]; intro he; exact (hc0.1 (by omega)) hin
       have Hin := Kd hin
       clear hin hc0
       obtain ⟨Vv, vc, rfl⟩ := Hat.out.row.shape
       have hFVn : (frameVars FL).length ≤ 1700000 := by
        unfold frameVars
        rw [List.length_map]
        exact Nat.le_trans (List.length_filter_le _ _) hFLn
       have hvlt : ∀ c, (Value.slice Vv (frameVars FL).length vc).ownBlock = some c → c < wr.heap.size := fun c hc => Hat.out.row.lt hc
       have hal := Hat.out.same (Same.alloc [] wr (Obj.cells #[.string HL[k].label, .bool true, .int .i64 HL[k].var, .slice Ae' HL[k].expr.length ce'] 150))
       have Hal := Kd hal
       have hBn : wr.heap.size ∉ (Value.slice Vv (frameVars FL).length vc).ownBlock.toList := fun hm => by
        have := hvlt _ (Option.mem_toList.1 hm)
        omega
       have HBn := Kd hBn
       clear hal hvlt hBn
       go_wp2_with (first
        | (at_builtin; refine wp_push (W := wr.alloc (Obj.cells #[.string HL[k].label, .bool true, .int .i64 HL[k].var, .slice Ae' HL[k].expr.length ce'] 150)) rfl _ _ 31 rfl 3 1 8 _ Tryz.underlying31 Tryz.infoInt' rfl (by decide) (.slice Vv (frameVars FL).length vc) _ _ rfl Hal.out.row [.int .i64 HL[k].var] (by rw [size_alloc']; rfl) rfl (by simp [Value.oneCell']) (by omega) (by decide) ?_; go_must (intro v7 W7 hr7 hs7 ho7; obtain ⟨A7, c7, rfl⟩ := hr7.shape; have hB7 := hs7.get (blk_new wr _) HBn.out; obtain ⟨k0, k1, k2, k3, kf⟩ := blk4 hB7; have hco7 := Hal.out.var hww hs7; obtain ⟨b0', b1', b2', bf'⟩ := blk3 hco7.blk; have hBl7 := blk_lt hB7; have hbl7 := blk_lt hco7.blk; have Hr7 := Kd hr7; have Hs7 := Kd hs7; have Ho7 := Kd ho7; have Hco7 := Kd hco7; clear hr7 hs7 ho7 hB7 hco7))
        | (at_builtin; refine wp_push (W := W7) rfl _ _ 44 rfl 150 4 56 _ Tryz.underlying44 Tryz.infoHyp rfl (by decide) (.slice Av FL.length cv) _ _ rfl Hco7.out.hyps.row [.string HL[k].label, .bool true, .int .i64 HL[k].var, .slice Ae' HL[k].expr.length ce'] rfl rfl (by simp [Value.oneCell']) (by omega) (by decide) ?_; go_must (intro v6 W6 hr6 hs6 ho6; obtain ⟨A6, c6, rfl⟩ := hr6.shape; have hb6 := hs6.get Hco7.out.blk (by simpa using Hco7.out.hyps.row.ne Hco7.out.blk (by decide)); obtain ⟨e0, e1, e2, ef⟩ := blk3 hb6; have Hr6 := Kd hr6; have Hs6 := Kd hs6; have Ho6 := Kd ho6; have hbl6 := blk_lt hb6; clear hr6 hs6 ho6 hb6)))
       go_roundw
       case rel =>
        have hft := Hft.out
        rw [Hfl.out, if_pos (by simp [Hin.out])] at hft
        have hfv : frameVars (FL ++ [HL[k]]) = frameVars FL ++ [HL[k].var] := by rw [frameVars_snoc, if_pos Hfl.out]
        have hsz : wr.heap.size ≤ W7.heap.size := by have := Hs7.out.size; rw [size_alloc'] at this; omega
        have hpush := FrmAt.push Hco7.out Hal.out.old (Hal.out.base.then Hs7.out fun c hc => .inr (Hal.out.fresh c (Option.mem_toList.1 hc))) HL[k] (u := .slice A7 ((frameVars FL).length + 1) c7) (by rw [Hfl.out]; exact Hr6.out) Hs6.out Ho6.out
         ⟨(Hint.out.row.same (Same.alloc [] wr _) (by simp)).same Hs7.out (fun c hc hm => by have h1 := Hevo.out c hc; have h2 := Hal.out.fresh c (Option.mem_toList.1 hm); omega), by simp⟩ Hevf.out Hevo.out Hflo.out hww (Nat.le_refl _) Hhf'.out (by rw [hfv, intCells_snoc, List.length_append]; exact Hr7.out) (Hal.out.fresh.next Hal.out.base.size Ho7.out)
        exact ⟨k + 1, .slice A6 (FL.length + 1) c6, evs' ++ [.slice Ae' HL[k].expr.length ce'], hlt, by go_num, by rw [hft]; exact hpush, Hhf'.out.next (Nat.le_trans Hat.out.base.size hsz) Ho6.out⟩
       case measure => simp [intOf]; omega
      ·have hcz : ((cn : Int) == 0) = true := by rw [beq_iff_eq]; have := hc0.2 hin; omega
       have Hin := Kd hin
       clear hin hc0
       go_wp2
       go_roundw
       case rel =>
        have hft := Hft.out
        rw [Hfl.out, if_neg (by simp [Hin.out]), List.append_nil] at hft
        exact ⟨k + 1, .slice Av FL.length cv, evs', hlt, by go_num, by rw [hft]; exact Hat.out.same (Same.alloc _ _ _), Hhf'.out⟩
       case measure => simp [intOf]; omega
    ·have hkk : k = HL.length := by omega
     subst hkk
     rw [List.take_length] at hat
     obtain ⟨FL, hFL⟩ : ∃ FL, HL.filter K = FL := ⟨_, rfl⟩
     rw [hFL] at hat
     have hFLn : FL.length ≤ 1700000 := by rw [← hFL]; exact Nat.le_trans (List.length_filter_le _ _) (by omega)
     have hFVn : (frameVars FL).length ≤ 1700000 := by
      unfold frameVars
      rw [List.length_map]
      exact Nat.le_trans (List.length_filter_le _ _) hFLn
     have hfh3 := HFh2.out
     have hfp3 := HFp2.out
     rw [hFL] at hfh3 hfp3
     have HFh3 := Kd hfh3
     have HFp3 := Kd hfp3
     have hsb := Hfi5.out.base.trans hat.base
     have hon := fun (W : World) (hW : Same [] wr W) => Only_calls _ _ PL (frameVars FL) W (Hprb.out.same (hsb.trans hW) (by simp)) (hat.row.same hW (by simp)) (by omega) (by omega)
     obtain ⟨Av, cv, rfl⟩ := hat.coll.hyps.row.shape
     obtain ⟨Vv, vc, rfl⟩ := hat.row.shape
     have p1 := hat.base.cell d1 (by simp)
     have pl := Nat.lt_of_lt_of_le dl hat.base.size
     have hR := hsb.get HBb.out (by simp)
     have HR := Kd hR
     have Hat := Kd hat
     clear hat hsb hfh3 hfp3 hFL H1 hhf' hR
     go_wp2_with (go_at_call 164; go_must (refine (hon _ (Same.refl _ _)).mono ?_; rintro e' W8 ⟨v8, rfl, hr8, hs8, hv8⟩; obtain ⟨A8, c8, rfl⟩ := hr8.shape; have hb8 := hs8.get Hat.out.coll.blk (by simp); obtain ⟨e0, e1, e2, ef⟩ := blk3 hb8; have hR8 := hs8.get HR.out (by simp); obtain ⟨r0, r1, r2, rf⟩ := blk3 hR8; have hbl8 := blk_lt hb8; have hRl8 := blk_lt hR8; have Hr8 := Kd hr8; have Hs8 := Kd hs8; have Hv8 := Kd hv8; have Hb8 := Kd hb8; have HR8 := Kd hR8; clear hr8 hs8 hv8 hb8 hR8))
     have hRB : w.heap.size + 1 ≠ W5.heap.size := by
      have h1 := blk_lt HBb.out
      have h2 := Hfi5.out.base.size
      omega
     have hz := blk_set (blk_set (blk_set ((blk_set_other (w := W8) ⟨W5.heap.size, 1, none⟩ (.slice A8 (onlyP PL (frameVars FL)).length c8) hRB).trans HR8.out) 0 (.slice Av FL.length cv)) 1 (.slice A8 (onlyP PL (frameVars FL)).length c8)) 2 (.slice A5 e.length c5)
     have hs9 : Same [w.heap.size + 1, W5.heap.size] W8 ((((W8.setCell ⟨W5.heap.size, 1, none⟩ (.slice A8 (onlyP PL (frameVars FL)).length c8)).setCell ⟨w.heap.size + 1, 0, none⟩ (.slice Av FL.length cv)).setCell ⟨w.heap.size + 1, 1, none⟩ (.slice A8 (onlyP PL (frameVars FL)).length c8)).setCell ⟨w.heap.size + 1, 2, none⟩ (.slice A5 e.length c5)) :=
      (((Same.setCell _ _ _ (by simp)).trans (Same.setCell _ _ _ (by simp))).trans (Same.setCell _ _ _ (by simp))).trans (Same.setCell _ _ _ (by simp))
     generalize (((W8.setCell _ _).setCell _ _).setCell _ _).setCell _ _ = W9 at hz hs9 ⊢
     obtain ⟨y0, y1, y2, yf⟩ := blk3 hz
     refine bodyPost_ret_by (v := .tuple #[.agg #[.slice Av FL.length cv, .slice A8 (onlyP PL (frameVars FL)).length c8, .slice A5 e.length c5], .int .i64 0]) (by simp [results, Tryz.f135, go_sem, y0, y1, y2]) rfl ?_
     have key : ∀ {el k n : Nat} {u : Value} {xs : List Value}, Row W8 el k u n xs → el ≠ 47 → Row W9 el k u n xs := by
      intro el k n u xs hu ht
      refine hu.same hs9 fun c hc hm => ?_
      rcases List.mem_cons.1 hm with hm | hm
      ·exact hu.ne HR8.out ht (hm ▸ hc)
      ·exact hu.ne Hb8.out ht ((List.mem_singleton.1 hm) ▸ hc)
     have hco := (Hat.out.same Hs8.out).coll
     rw [HFh3.out, HFp3.out]
     have hz1 := Hfi.out.base.size
     have hz2 := Hwb.out.size
     have hz3 := Hat.out.base.size
     refine ⟨_, _, _, evs', rfl, ⟨key hco.hyps.row (by decide), hco.hyps.exprs.imp fun y ev hi => ⟨key hi.row (by decide), by simp⟩, hco.hyps.flo⟩, hco.fr, hco.frs, key Hr8.out (by decide), fun c hc => by have := Hv8.out c hc; omega, key (((Hr5.out.same Hat.out.base (by simp)).same Hs8.out (by simp))) (by decide), fun c hc => by have := Hv5.out c hc; omega, ((Hw5.out.trans Hat.out.base).trans Hs8.out).then hs9 fun c hc => ?_⟩
     rcases List.mem_cons.1 hc with hc | hc
     ·exact .inr (by omega)
     ·have := List.mem_singleton.1 hc; exact .inr (by omega)
end Go.Proofs.YtdhkmfpfbjcdiaaGreatDoor
