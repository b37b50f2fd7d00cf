/- lemmalaw texts, part 40. -/
import Derived.Test.YtdhkmfpfbjcdiaaGreatDoorYal
import Derived.Test.YtdhkmfpfbjcdiaaGreatDoorYbm
set_option maxRecDepth 100000
set_option linter.unusedVariables false
set_option linter.unusedSimpArgs false
set_option maxHeartbeats 32000000
namespace Go.Proofs.YtdhkmfpfbjcdiaaGreatDoor
open Go.RowKit
theorem fNew_any (w : World) (t : Nat) : Calls Tryz.prog 26 #[fnV t] w fun e w' => ∃ s A, e = .returned (.pointer (some ⟨s, 0, none⟩)) ∧ (∀ M, (∀ b ∈ A.blocks s, b ∈ M) → StkAt w' s t A M [⟨[], []⟩]) ∧ Same [] w w' ∧ ∀ b ∈ A.blocks s, w.heap.size ≤ b := by
 unfold fnV
 obtain ⟨i, hi, hz0, hz1, hz2⟩ := info_split Tryz.infoScope'
 go_enter Tryz.func26, Tryz.ntmps26
 go_wp2_with (at_make; go_must (refine wpList_make_full _ rfl _ _ 129 rfl 0 203 i _ 2 Tryz.underlying129 hi hz0 hz1 .i64 .i64 1 1 1 rfl rfl rfl rfl (by rw [hz2]; decide) (by decide) (Nat.zero_le _) ?_; intro w1 hr1 hg1; have hs1 := Same.of_grown hg1; have hwl : w.heap.size < w1.heap.size := Row.lt hr1 rfl; have Hr1 := Kd hr1; have Hs1 := Kd hs1; clear hr1 hg1 hs1))
 go_ret
 have hr1 : Row w1 203 2 (.slice (some ⟨w.heap.size, 0, none⟩) 1 1) 1 [.slice none 0 0, .slice none 0 0] := by
  have hm : (madeCells (Value.agg #[.slice none 0 0, .slice none 0 0]).cells (1 * 2)).toList = [.slice none 0 0, .slice none 0 0] := by kernel_rfl
  rw [← hm]
  exact Hr1.out
 have hs1 : Same [] w w1 := Hs1.out
 refine ⟨w1.heap.size, ⟨.slice (some ⟨w.heap.size, 0, none⟩) 1 1, [⟨.slice none 0 0, .slice none 0 0, []⟩]⟩, rfl, fun M hM => ?_, hs1.trans (Same.alloc _ _ _), ?_⟩
 ·refine ⟨blk_new _ _, hr1.same (Same.alloc [] _ _) (by simp), ⟨⟨⟨World.ownsRow_nil _ _ _ _, trivial, by simp⟩, Fix.nil _ _ _ _⟩, trivial⟩, hM, ?_, by simp, by simp⟩
  intro i j p q b hi hj hp hq
  have := List.mem_of_getElem? hi
  simp at this
  subst this
  simp [Value.ownBlock] at hp
 ·intro b hb
  rcases SA.mem_blocks.1 hb with rfl | hb | ⟨p, hp, hb⟩
  ·exact hs1.size
  ·simp [Value.ownBlock] at hb; omega
  ·simp at hp; subst hp; simp [Value.ownBlock] at hb
theorem ld_start {W : World} {F : LF} {TA : TA} {A : SA} (hl : W.heap[F.l]? = some (.cells #[.pointer (some ⟨F.nb, 0, none⟩), .pointer (some ⟨F.s, 0, none⟩), .int .i64 0] 86 (0, 0)))
  (hnb : W.heap[F.nb]? = some (.cells #[.string F.text, F.sv, .pointer (some ⟨F.t, 0, none⟩), .map (some F.mn), .slice none 0 0, .map (some F.mf), .map (some F.mh)] 83 (0, 0)))
  (hT : TblAt W F.t TA Tbl.empty) (hS : StkAt W F.s F.t A (LV.blocks ⟨TA, A, .slice none 0 0, [], []⟩ F) [⟨[], []⟩]) (h1 : SMap W F.mn []) (h2 : SMap W F.mf []) (h3 : SMap W F.mh []) (h4 : F.mn ≠ F.mf ∧ F.mn ≠ F.mh ∧ F.mf ≠ F.mh) (h5 : ∀ b ∈ TA.blocks F.t, b ≠ F.mn ∧ b ≠ F.mf ∧ b ≠ F.mh) :
  LdAt W F ⟨TA, A, .slice none 0 0, [], []⟩ Ld.new :=
 ⟨hl, hnb, hT, hS, h1, h2, h3, trivial, World.ownsRow_nil _ _ _ _, trivial, h4, h5⟩
structure BP where
 t : Nat
 mn : Nat
 mf : Nat
 mh : Nat
 sv : Value
 TA : TA
 av : Value
 aps : List AsP
 hm : List (ByteArray × Value)
structure BsAt (w : World) (nb : Nat) (P : BP) (B : Bs) : Prop where
 blk : w.heap[nb]? = some (.cells #[.string B.text, P.sv, .pointer (some ⟨P.t, 0, none⟩), .map (some P.mn), P.av, .map (some P.mf), .map (some P.mh)] 83 (0, 0))
 stmts : StmtsAt w P.sv B.stmts
 tbl : TblAt w P.t P.TA B.ld.tbl
 nums : SMap w P.mn (natMap (numbersOf B.ld.tbl))
 finds : SMap w P.mf (natMap B.ld.finds)
 hyps : SMap w P.mh P.hm
 hin : All2 (HmIn w []) B.ld.hyps P.hm
 asr : Row w 56 17 P.av B.ld.asserts.length (asCells B.ld.asserts P.aps)
 ain : All2 (AsIn w []) B.ld.asserts P.aps
theorem BsAt.same {w w' : World} {nb : Nat} {P : BP} {B : Bs} (h : BsAt w nb P B) (hs : Same [] w w') : BsAt w' nb P B :=
 ⟨hs.get h.blk (by simp), h.stmts.same hs, h.tbl.same hs (by simp), h.nums.same hs (by simp), h.finds.same hs (by simp), h.hyps.same hs (by simp), h.hin.imp fun _ _ => HmIn.move (Move.of_same hs), h.asr.same hs (by simp), h.ain.imp fun _ _ => AsIn.move (Move.of_same hs)⟩
def LoadR (t : ByteArray) (w : World) (e : Ending) (w' : World) : Prop := Same [] w w' ∧ match loadOf t with
 | .error f => ∃ v, e = .returned (.tuple #[.pointer none, v]) ∧ FltAt w' v (some f)
 | .ok B => ∃ nb P, e = .returned (.tuple #[.pointer (some ⟨nb, 0, none⟩), .pointer none]) ∧ BsAt w' nb P B
theorem LibCell.same {w w' : World} (h : LibCell w) (hs : Same [] w w') : LibCell w' := by obtain ⟨m, hm⟩ := h; exact ⟨m, hs.cell hm (by simp)⟩
def tyAll : List (Option TypeId) := [some 86, some 83, some 56, none, some 128, some 133, some 197, some 9, some 3, some 131, some 203, some 150]
theorem Ty.mono {w : World} {ts ts' : List (Option TypeId)} {b : Nat} (h : Ty w ts b) (hd : ∀ t ∈ ts, t ∈ ts') : Ty w ts' b := by obtain ⟨t, h1, h2⟩ := h; exact ⟨t, h1, hd t h2⟩
theorem LdAt.tys {w : World} {F : LF} {V : LV} {L : Ld} (h : LdAt w F V L) : ∀ b ∈ V.blocks F, Ty w tyAll b := by
 have ty := h.ty
 intro b hb
 rcases LV.mem.1 hb with rfl | rfl | rfl | rfl | rfl | hb | hb | hb
 ·exact ty.l.mono (by decide)
 ·exact ty.nb.mono (by decide)
 ·exact ty.mn.mono (by decide)
 ·exact ty.mf.mono (by decide)
 ·exact ty.mh.mono (by decide)
 ·exact (ty.av b hb).mono (by decide)
 ·exact (ty.t b hb).mono (by decide)
 ·exact (ty.s b hb).mono (by decide)
theorem LdAt.notRow {w : World} {F : LF} {V : LV} {L : Ld} (h : LdAt w F V L) {e k n : Nat} {v : Value} {xs : List Value} (hr : Row w e k v n xs) (he : some e ∉ tyAll) : ∀ b, v.ownBlock = some b → b ∉ V.blocks F := fun b hb hm =>
 (h.tys b hm).no (Ty.one (hr.ty hb)) fun t ht h1 => by
  have := List.mem_singleton.1 h1
  subst this
  exact he ht
theorem LdAt.notCells {w : World} {F : LF} {V : LV} {L : Ld} (h : LdAt w F V L) {b : Nat} {cs : Array Value} {t : TypeId} {fr : Nat × Nat} (hb : w.heap[b]? = some (.cells cs t fr)) (ht : some t ∉ tyAll) : b ∉ V.blocks F := fun hm =>
 (h.tys b hm).no (Ty.one (tyOf_cells hb)) fun u hu h1 => by
  have := List.mem_singleton.1 h1
  subst this
  exact ht hu
theorem LdAt.setSv {w w' : World} {F : LF} {V : LV} {L : Ld} (h : LdAt w F V L) {v : Value} (hb : w'.heap[F.nb]? = some (.cells #[.string F.text, v, .pointer (some ⟨F.t, 0, none⟩), .map (some F.mn), V.av, .map (some F.mf), .map (some F.mh)] 83 (0, 0))) (hs : Same [F.nb] w w') :
  LdAt w' { F with sv := v } V L ∧ Move (V.blocks F) (V.blocks { F with sv := v }) w w' := by
 have ty := h.ty
 have m : Move (V.blocks F) (V.blocks F) w w' := ⟨fun b hb => .inl hb, hs.mono fun b hb => .inl (LV.mem.2 (.inr (.inl (List.mem_singleton.1 hb))))⟩
 have no : ∀ {ts : List (Option TypeId)} {b : Nat}, Ty w ts b → (∀ t ∈ ts, t ∉ [some 83]) → b ∉ [F.nb] := fun {ts b} hb hd hm => by
  have := List.mem_singleton.1 hm
  subst this
  exact hb.no ty.nb hd
 exact ⟨⟨hs.get h.lb (no ty.l (by decide)), hb, h.tbl.same hs fun b hb => no (ty.t b hb) (by decide), h.stk.move m (fun b hb => hs.block b (h.stk.lt b hb) (no (ty.s b hb) (by decide))) h.stk.sub,
  h.nums.same hs (no ty.mn (by decide)), h.finds.same hs (no ty.mf (by decide)), h.hyps.same hs (no ty.mh (by decide)), h.hin.imp fun _ _ => HmIn.move m, h.asr.same hs fun b hb => no (ty.av b hb) (by decide), h.ain.imp fun _ _ => AsIn.move m, h.maps, h.mapt⟩, m⟩
structure StmtsIn (w : World) (M : List Nat) (v : Value) (sv : List (Value × Value)) (l : List St) : Prop where
 row : Fix w M 73 16 v l.length (outCells l sv)
 inn : All2 (StIn w M) l sv
theorem StmtsIn.move {w w' : World} {M M' : List Nat} (m : Move M M' w w') {v : Value} {sv : List (Value × Value)} {l : List St} (h : StmtsIn w M v sv l) : StmtsIn w' M' v sv l := ⟨h.row.move m, h.inn.imp fun _ _ => StIn.move m⟩
theorem LdAt.stmts {w : World} {F : LF} {V : LV} {L : Ld} (h : LdAt w F V L) {v : Value} {l : List St} (hs : StmtsAt w v l) : ∃ sv, StmtsIn w (V.blocks F) v sv l := by
 obtain ⟨sv, h1, h2⟩ := hs
 exact ⟨sv, ⟨h1, h.notRow h1 (by decide)⟩, h2.imp fun _ _ hp => ⟨⟨hp.1.row, h.notRow hp.1.row (by decide)⟩, ⟨hp.2.row, h.notRow hp.2.row (by decide)⟩⟩⟩
theorem StmtsIn.at_ {w : World} {M : List Nat} {v : Value} {sv : List (Value × Value)} {l : List St} (h : StmtsIn w M v sv l) : StmtsAt w v l := ⟨sv, h.row.row, h.inn.imp fun _ _ hp => hp.all⟩
theorem stCells_len (s : St) (p q : Value) : (s.cells p q).length = 16 := rfl
theorem outCells_at : ∀ (l : List St) (m : List (Value × Value)) (k : Nat) (h : k < l.length) (h2 : k < m.length), ((outCells l m).drop (k * 16)).take 16 = l[k].cells m[k].1 m[k].2
 | x :: l, y :: m, 0, _, _ => by
  show ((x.cells y.1 y.2 ++ outCells l m).drop (0 * 16)).take 16 = x.cells y.1 y.2
  rw [Nat.zero_mul, List.drop_zero, List.take_append_of_le_length (by rw [stCells_len]; omega), List.take_of_length_le (by rw [stCells_len]; omega)]
 | x :: l, y :: m, k + 1, h, h2 => by
  have := outCells_at l m k (by simpa using h) (by simpa using h2)
  rw [show (k + 1) * 16 = 16 + k * 16 by omega, ← List.drop_drop]
  have e : (outCells (x :: l) (y :: m)).drop 16 = outCells l m := by
   show (x.cells y.1 y.2 ++ outCells l m).drop 16 = outCells l m
   rw [List.drop_append_of_le_length (by rw [stCells_len]; omega), List.drop_of_length_le (by rw [stCells_len]; omega), List.nil_append]
  rw [e]
  simpa using this
theorem StmtsIn.get {w : World} {M : List Nat} {v : Value} {sv : List (Value × Value)} {l : List St} (h : StmtsIn w M v sv l) {k : Nat} (hk : k < l.length) :
  ∃ g c Aw cw Ap cp, v = .slice (some ⟨g, 0, none⟩) l.length c ∧ (∀ j u, (l[k].cells (.slice Aw l[k].words.length cw) (.slice Ap l[k].proof.length cp))[j]? = some u → w.cell? ⟨g, k * 16 + j, none⟩ = some u) ∧ g < w.heap.size ∧
   Fix w M 54 4 (.slice Aw l[k].words.length cw) l[k].words.length (tkCells l[k].words) ∧ Fix w M 54 4 (.slice Ap l[k].proof.length cp) l[k].proof.length (tkCells l[k].proof) := by
 have hl : k < sv.length := by rw [h.inn.len]; exact hk
 obtain ⟨p, hp, hin⟩ := h.inn.get (List.getElem?_eq_getElem hk)
 have hpe : sv[k] = p := by rw [List.getElem?_eq_getElem hl] at hp; exact Option.some.inj hp
 obtain ⟨Aw, cw, hw⟩ := hin.1.row.shape
 obtain ⟨Ap, cp, hpp⟩ := hin.2.row.shape
 obtain ⟨g, c, hv, hc⟩ := h.row.row.elem (i := k) hk (ys := l[k].cells p.1 p.2) (stCells_len _ _ _) (by rw [outCells_at _ _ _ hk hl, hpe]) (by decide)
 have h1 := hin.1
 have h2 := hin.2
 rw [hw, hpp] at hc
 rw [hw] at h1
 rw [hpp] at h2
 refine ⟨g, c, Aw, cw, Ap, cp, hv, fun j u hj => ?_, World.block_lt_of_cell? _ _ (hc 0 (by decide)).1, h1, h2⟩
 have hj16 : j < 16 := by
  have := (List.getElem?_eq_some_iff.1 hj).1
  rw [stCells_len] at this
  exact this
 rw [(hc j hj16).1]
 simp [List.getD_eq_getElem?_getD, hj]
theorem FltAt.move {w w' : World} {M M' : List Nat} (m : Move M M' w w') {v : Value} {o : Option Flt} (h : FltAt w v o) (hn : ∀ b, v = .pointer (some ⟨b, 0, none⟩) → b ∉ M) : FltAt w' v o := by
 cases o with
 | none => exact h
 | some f =>
  obtain ⟨b, h1, h2⟩ := h
  exact ⟨b, h1, m.same.get h2 (hn b h1)⟩
theorem LdAt.notFlt {w : World} {F : LF} {V : LV} {L : Ld} (h : LdAt w F V L) {v : Value} {o : Option Flt} (hf : FltAt w v o) : ∀ b, v = .pointer (some ⟨b, 0, none⟩) → b ∉ V.blocks F := fun b hb => by
 cases o with
 | none => have : v = .pointer none := hf; rw [this] at hb; cases hb
 | some f =>
  obtain ⟨c, h1, h2⟩ := hf
  rw [h1] at hb
  cases hb
  exact h.notCells h2 (by decide)
theorem Fix.fin {w w7 : World} {M : List Nat} {m i j : Nat} (hs : Same [m, i, j] w w7) (hm : m ∈ M) (hi : w.heap[i]? = some (.cells #[.pointer none] 27 (0, 0))) (hj : w.heap[j]? = some (.cells #[.pointer none] 24 (0, 0)))
  {e k n : Nat} {v : Value} {xs : List Value} (h : Fix w M e k v n xs) (h1 : e ≠ 27) (h2 : e ≠ 24) : Fix w7 [] e k v n xs :=
 ⟨h.row.same hs fun b hb hx => by
  simp only [List.mem_cons, List.not_mem_nil, or_false] at hx
  rcases hx with rfl | rfl | rfl
  ·exact h.not b hb hm
  ·exact h.row.ne hi h1 hb
  ·exact h.row.ne hj h2 hb, by simp⟩
theorem HypsIn.fin {w w7 : World} {M : List Nat} {m i j : Nat} (hs : Same [m, i, j] w w7) (hm : m ∈ M) (hi : w.heap[i]? = some (.cells #[.pointer none] 27 (0, 0))) (hj : w.heap[j]? = some (.cells #[.pointer none] 24 (0, 0)))
  {v : Value} {evs : List Value} {l : List Hy} (h : HypsIn w M v evs l) (hn : ∀ b, v.ownBlock = some b → b ∉ M) : HypsIn w7 [] v evs l :=
 ⟨(Fix.fin hs hm hi hj ⟨h.row, hn⟩ (by decide) (by decide)).row, h.exprs.imp fun _ _ hx => Fix.fin hs hm hi hj hx (by decide) (by decide), h.flo⟩
theorem bs_end {w w7 : World} {F : LF} {V : LV} {L : Ld} (h : LdAt w F V L) {i j : Nat} (hi : w.heap[i]? = some (.cells #[.pointer none] 27 (0, 0))) (hj : w.heap[j]? = some (.cells #[.pointer none] 24 (0, 0)))
  (hs : Same [F.mn, i, j] w w7) (hn : SMap w7 F.mn (natMap (numbersOf L.tbl))) {sts : List St} {sv : List (Value × Value)} (hst : StmtsIn w (V.blocks F) F.sv sv sts) :
  BsAt w7 F.nb ⟨F.t, F.mn, F.mf, F.mh, F.sv, V.TA, V.av, V.aps, V.hm⟩ ⟨F.text, sts, L⟩ := by
 have ty := h.ty
 have hmM : F.mn ∈ V.blocks F := LV.mem.2 (.inr (.inr (.inl rfl)))
 have hni := h.notCells hi (by decide)
 have hnj := h.notCells hj (by decide)
 have no : ∀ {b : Nat}, b ∈ V.blocks F → b ≠ F.mn → b ∉ [F.mn, i, j] := fun {b} hb h1 hx => by
  simp only [List.mem_cons, List.not_mem_nil, or_false] at hx
  rcases hx with rfl | rfl | rfl
  ·exact h1 rfl
  ·exact hni hb
  ·exact hnj hb
 have tyn : ∀ {ts : List (Option TypeId)} {b : Nat}, Ty w ts b → (∀ t ∈ ts, t ∉ [(none : Option TypeId)]) → b ≠ F.mn := fun {ts b} hb hd e => by
  subst e
  exact hb.no ty.mn hd
 refine ⟨hs.get h.nbb (no (LV.mem.2 (.inr (.inl rfl))) (tyn ty.nb (by decide))), ⟨sv, (Fix.fin hs hmM hi hj hst.row (by decide) (by decide)).row, hst.inn.imp fun _ _ hp => ⟨Fix.fin hs hmM hi hj hp.1 (by decide) (by decide), Fix.fin hs hmM hi hj hp.2 (by decide) (by decide)⟩⟩,
  h.tbl.same hs fun b hb => no (LV.mem.2 (.inr (.inr (.inr (.inr (.inr (.inr (.inl hb)))))))) (h.mapt b hb).1, hn, h.finds.same hs (no (LV.mem.2 (.inr (.inr (.inr (.inl rfl))))) h.maps.1.symm), h.hyps.same hs (no (LV.mem.2 (.inr (.inr (.inr (.inr (.inl rfl)))))) h.maps.2.1.symm),
  h.hin.imp fun a b hx => ⟨hx.1, hx.2.elim fun ev he => ⟨ev, he.1, Fix.fin hs hmM hi hj he.2 (by decide) (by decide)⟩⟩,
  h.asr.same hs fun b hb => no (LV.mem.2 (.inr (.inr (.inr (.inr (.inr (.inl hb))))))) (tyn (ty.av b hb) (by decide)),
  h.ain.imp fun a p hx => ⟨hx.fh.fin hs hmM hi hj hx.fhn, by simp, Fix.fin hs hmM hi hj hx.fp (by decide) (by decide), Fix.fin hs hmM hi hj hx.fg (by decide) (by decide), hx.sh.fin hs hmM hi hj hx.shn, by simp, Fix.fin hs hmM hi hj hx.sp (by decide) (by decide), Fix.fin hs hmM hi hj hx.pr (by decide) (by decide)⟩⟩
def numT (T : Tbl) (k : Nat) : List (ByteArray × Nat) := (T.syms.zipIdx.take k).foldl (fun m p => aput p.1.1 p.2 m) []
theorem numT_succ (T : Tbl) (k : Nat) (hk : k < T.syms.length) : numT T (k + 1) = aput T.syms[k].1 k (numT T k) := by
 unfold numT
 have hk' : k < T.syms.zipIdx.length := by simpa using hk
 rw [List.take_succ_eq_append_getElem hk', List.foldl_append]
 simp
theorem numT_all (T : Tbl) : numT T T.syms.length = numbersOf T := by
 unfold numT numbersOf
 rw [List.take_of_length_le (by simp)]
theorem endOf_flt23 (t : ByteArray) : fltBlk ⟨⟨t.size, 1 + Lib.countByte t.data.toList 10, (t.size - Lib.lastIndexByte t 10).toNat⟩, ⟨#[]⟩, 23⟩ =
  .cells #[.int .i64 (endOf t).1, .int .i64 (endOf t).2.1, .int .i64 (endOf t).2.2, .string ⟨#[]⟩, .int .i64 23] 76 := by
 have hlb : Lib.lastIndexByte t 10 < t.size ∨ Lib.lastIndexByte t 10 = -1 := by
  rcases Lib.lastIdx_spec t 10 t.size with h | ⟨i, hi, h, _⟩
  ·exact .inr h.1
  ·have : Lib.lastIndexByte t 10 = i := h
   omega
 have h1 : (((t.size : Int) - Lib.lastIndexByte t 10).toNat : Int) = t.size - Lib.lastIndexByte t 10 := by omega
 have h2 : ((1 + Lib.countByte t.data.toList 10 : Nat) : Int) = 1 + (Lib.countByte t.data.toList 10 : Int) := by omega
 unfold fltBlk endOf
 dsimp only
 rw [h1, h2]
theorem hyCells_set (l : List Hy) : ∀ (m : List Value) (k : Nat) (v : Value), k < l.length → m.length = l.length → (hyCells l m).set (k * 4 + 3) v = hyCells l (m.set k v) := by
 induction l with
 | nil => intro m k v hk; simp at hk
 | cons x l ih =>
  intro m k v hk hm
  match m, hm with
  | y :: m, hm =>
   cases k with
   | zero => simp [hyCells]
   | succ k =>
    have := ih m k v (by simpa using hk) (by simpa using hm)
    rw [show (k + 1) * 4 + 3 = (k * 4 + 3) + 4 by omega]
    simp only [hyCells, List.set_cons_succ, List.cons_append, List.nil_append]
    rw [this]
theorem All2.setR {α β : Type} {P : α → β → Prop} : ∀ {l : List α} {m : List β} {k : Nat} {a : α} {b : β}, All2 P l m → l[k]? = some a → P a b → All2 P l (m.set k b)
 | [], [], _, _, _, _, h, _ => by simp at h
 | x :: l, y :: m, 0, a, b, hp, h, hb => by simp at h; subst h; exact ⟨hb, hp.2⟩
 | x :: l, y :: m, k + 1, a, b, hp, h, hb => ⟨hp.1, All2.setR (k := k) hp.2 (by simpa using h) hb⟩
 | [], _ :: _, _, _, _, hp, _, _ => hp.elim
 | _ :: _, [], _, _, _, hp, _, _ => hp.elim
theorem hy_one {P : Hy → Value → Prop} (hP : ∀ h v, P h v → v.oneCell' = true) : ∀ {l : List Hy} {m : List Value}, All2 P l m → ∀ u ∈ hyCells l m, u.oneCell' = true
 | [], [], _, u, hu => by simp [hyCells] at hu
 | x :: l, y :: m, h, u, hu => by
  simp only [hyCells, List.cons_append, List.nil_append, List.mem_cons] at hu
  rcases hu with rfl | rfl | rfl | rfl | hu
  ·rfl
  ·rfl
  ·rfl
  ·exact hP _ _ h.1
  ·exact hy_one hP h.2 u hu
 | [], _ :: _, h, _, _ => h.elim
 | _ :: _, [], h, _, _ => h.elim
theorem ints_cellOne {w : World} {M : List Nat} {v : Value} {l : List Int} (h : Ints w M v l) : v.oneCell' = true := by obtain ⟨A, c, rfl⟩ := h.row.shape; rfl
def HypsR (l : List Hy) (w : World) (e : Ending) (w' : World) : Prop := ∃ v evs, e = .returned v ∧ HypsIn w' [] v evs l ∧ FreshB w v ∧ (∀ ev ∈ evs, FreshB w ev) ∧ Same [] w w'
def HypsI (w : World) (l : List Hy) (v' : Value) (u : Value) (W : World) : Prop :=
 ∃ (k : Nat) (evs : List Value), k ≤ l.length ∧ u = .int .i64 k ∧ Row W 150 4 v' l.length (hyCells l evs) ∧ All2 (fun h ev => Ints W [] ev h.expr) l evs ∧ (∀ i v, i < k → evs[i]? = some v → FreshB w v) ∧ Same [] w W
theorem hyps_calls (w : World) (M : List Nat) (v : Value) (evs : List Value) (l : List Hy) (h : HypsIn w M v evs l) (hn : l.length ≤ 1000000) (he : ∀ x ∈ l, x.expr.length ≤ 1000000) :
  Calls Tryz.prog 42 #[v] w (HypsR l w) := by
 have hcl := CloneHyp_calls v l.length (hyCells l evs) w h.row (hy_one (fun _ _ hi => ints_cellOne hi) h.exprs) hn
 have H := Kd h
 have He := Kd he
 obtain ⟨Av, cv, rfl⟩ := h.row.shape
 clear h he
 go_enter Tryz.func42, Tryz.ntmps42
 go_wp2_with (go_at_call 86; go_must (refine hcl.mono ?_; rintro e1 W1 ⟨v1, rfl, hr1, hs1, hf1⟩; obtain ⟨A1, c1, rfl⟩ := hr1.shape; have Hr1 := Kd hr1; have Hs1 := Kd hs1; have Hf1 : Hid (FreshB w (.slice A1 l.length c1)) := Kd hf1; clear hr1 hs1 hf1))
 have h0 : HypsI w l (.slice A1 l.length c1) (.int .i64 0) W1 := ⟨0, evs, Nat.zero_le _, rfl, Hr1.out, H.out.exprs.imp fun x ev hi => ⟨hi.row.same Hs1.out (by simp), by simp⟩, fun i v hi => absurd hi (by omega), Hs1.out⟩
 have H0 := Kd h0
 clear h0
 go_loopw [9] (fun u wr => HypsI w l (.slice A1 l.length c1) u wr) (fun u _ => l.length - (intOf u).toNat)
 case atStart => exact H0.out
 case round =>
  obtain ⟨k, evs', hk, rfl, hrow, hex, hfr, hsm⟩ := hrel
  by_cases hlt : k < l.length
  ·have hel : k < evs'.length := by rw [hex.len]; exact hlt
   obtain ⟨ev, hev, hints⟩ := hex.get (List.getElem?_eq_getElem hlt)
   have hee : evs'[k] = ev := by rw [List.getElem?_eq_getElem hel] at hev; exact Option.some.inj hev
   have h4 := hyCells_at l evs' k hlt hel
   obtain ⟨g, c, hv, hcell⟩ := hrow.elem hlt (ys := [.string l[k].label, .bool l[k].floating, .int .i64 l[k].var, evs'[k]]) rfl h4 (by decide)
   have t3 : wr.cell? ⟨g, k * 4 + 3, none⟩ = some ev := by rw [← hee]; exact (hcell 3 (by decide)).1
   cases hv
   obtain ⟨cur, hg⟩ := hrow.blk
   have hgf := blk_free hg
   have hgl := blk_lt hg
   have hcl := CloneInt_calls ev _ _ wr hints.row (ints_one _) (He.out l[k] (List.getElem_mem hlt))
   obtain ⟨Ae, ce, rfl⟩ := hints.row.shape
   have Hg := Kd hg
   have Hrow := Kd hrow
   have Hex := Kd hex
   have Hfr := Kd hfr
   have Hsm := Kd hsm
   clear hcell hrow hex hfr hsm hints hev hee h4 H0 hg
   go_wp2_with (go_at_call 44; go_must (refine hcl.mono ?_; rintro e2 W2 ⟨v2, rfl, hr2, hs2, hf2⟩; obtain ⟨A2, c2, rfl⟩ := hr2.shape; have hg2 := hs2.get Hg.out (by simp); have g2f := blk_free hg2; have g2l := blk_lt hg2; have t32 := hs2.cell t3 (by simp); have Hr2 := Kd hr2; have Hs2 := Kd hs2; have Hf2 := Kd hf2; have Hg2 := Kd hg2; clear hr2 hs2 hf2 hg2))
   go_roundw
   case rel =>
    have hgw : w.heap.size ≤ g := Hf1.out g rfl
    have hrow2 := (Hrow.out.same Hs2.out (by simp)).set1 (j := k * 4 + 3) (by omega) (.slice A2 l[k].expr.length c2)
    rw [hyCells_set l evs' k _ hlt (Hex.out.len)] at hrow2
    have hset : Same [g] W2 (W2.setCell ⟨g, k * 4 + 3, none⟩ (.slice A2 l[k].expr.length c2)) := Same.setCell _ _ _ (by simp)
    have hne : ∀ {e : List Int} {u : Value}, Row W2 3 1 u e.length (intCells e) → ∀ b, u.ownBlock = some b → b ∉ [g] := fun hu b hb hm => by
     have := List.mem_singleton.1 hm
     subst this
     exact hu.ne Hg2.out (by decide) hb
    refine ⟨k + 1, evs'.set k (.slice A2 l[k].expr.length c2), hlt, by go_num, hrow2, All2.setR (Hex.out.imp fun x ev hi => ⟨(hi.row.same Hs2.out (by simp)).same hset (hne (hi.row.same Hs2.out (by simp))), by simp⟩) (List.getElem?_eq_getElem hlt) ⟨Hr2.out.same hset (hne Hr2.out), by simp⟩, ?_, (Hsm.out.trans Hs2.out).setNew _ _ hgw⟩
    intro i u hi hu
    by_cases hik : i = k
    ·subst hik
     have hel' : i < evs'.length := hel
     rw [List.getElem?_set_self hel'] at hu
     cases hu
     exact FreshB.mono Hf2.out Hsm.out.size
    ·rw [List.getElem?_set_ne (Ne.symm hik)] at hu
     exact Hfr.out i u (by omega) hu
   case measure => simp [intOf]; omega
  ·have hkk : k = l.length := by omega
   subst hkk
   have Hrow := Kd hrow
   have Hex := Kd hex
   have Hfr := Kd hfr
   have Hsm := Kd hsm
   clear hrow hex hfr hsm H0
   go_wp2
   go_ret
   refine ⟨.slice A1 l.length c1, evs', rfl, ⟨Hrow.out, Hex.out, H.out.flo⟩, Hf1.out, fun ev hev => ?_, Hsm.out⟩
   obtain ⟨i, hi⟩ := List.getElem?_of_mem hev
   have : i < evs'.length := (List.getElem?_eq_some_iff.1 hi).1
   exact Hfr.out i ev (by rw [← Hex.out.len]; exact this) hi
end Go.Proofs.YtdhkmfpfbjcdiaaGreatDoor
