/- lemmalaw texts, part 26. -/
import Derived.Test.YtdhkmfpfbjcdiaaGreatDoorYay
set_option maxRecDepth 100000
set_option linter.unusedVariables false
set_option linter.unusedSimpArgs false
set_option maxHeartbeats 32000000
namespace Go.Proofs.YtdhkmfpfbjcdiaaGreatDoor
open Go.RowKit
def tyOf (w : World) (b : Nat) : Option (Option TypeId) := match w.heap[b]? with
 | some (.cells _ t _) => some (some t)
 | some (.map _ _) => some none
 | _ => none
theorem tyOf_cells {w : World} {b : Nat} {cs : Array Value} {t : TypeId} {fr : Nat × Nat} (h : w.heap[b]? = some (.cells cs t fr)) : tyOf w b = some (some t) := by simp [tyOf, h]
theorem Row.ty {w : World} {e k n : Nat} {v : Value} {xs : List Value} (h : Row w e k v n xs) {b : Nat} (hb : v.ownBlock = some b) : tyOf w b = some (some e) := by
 rcases h.2 with ⟨rfl, _⟩ | ⟨g, cap, cur, rfl, h0, h1, h3⟩
 ·cases hb
 ·cases hb; exact tyOf_cells h1
theorem SMap.ty {w : World} {b : Nat} {l : List (ByteArray × Value)} (h : SMap w b l) : tyOf w b = some none := by
 obtain ⟨es, clock, h, _⟩ := h
 simp [tyOf, h]
def Ty (w : World) (ts : List (Option TypeId)) (b : Nat) : Prop := ∃ t, tyOf w b = some t ∧ t ∈ ts
theorem Ty.no {w : World} {ts ts' : List (Option TypeId)} {b : Nat} (h : Ty w ts b) (h' : Ty w ts' b) (hd : ∀ t ∈ ts, t ∉ ts') : False := by
 obtain ⟨t, h1, h2⟩ := h
 obtain ⟨u, h3, h4⟩ := h'
 rw [h1] at h3
 cases h3
 exact hd t h2 h4
theorem Ty.one {w : World} {b : Nat} {t : Option TypeId} (h : tyOf w b = some t) : Ty w [t] b := ⟨t, h, by simp⟩
theorem Ty.of {w : World} {b : Nat} {t : Option TypeId} (h : tyOf w b = some t) {ts : List (Option TypeId)} (ht : t ∈ ts) : Ty w ts b := ⟨t, h, ht⟩
def tyT : List (Option TypeId) := [none, some 128, some 133, some 197, some 9, some 3]
def tyS : List (Option TypeId) := [some 131, some 203, some 150]
theorem TblAt.tys {w : World} {t : Nat} {A : TA} {T : Tbl} (h : TblAt w t A T) : ∀ b ∈ A.blocks t, Ty w tyT b := by
 intro b hb
 simp only [TA.blocks, List.mem_cons, List.mem_append, List.mem_flatMap, Option.mem_toList] at hb
 rcases hb with rfl | rfl | rfl | rfl | ((hb | hb) | hb) | ⟨v, hv, hb⟩
 ·exact Ty.of (tyOf_cells h.blk) (by decide)
 ·exact Ty.of h.numbers.ty (by decide)
 ·exact Ty.of h.active.ty (by decide)
 ·exact Ty.of h.taken.ty (by decide)
 ·exact Ty.of (h.syms.ty hb) (by decide)
 ·exact Ty.of (h.scopes.ty hb) (by decide)
 ·exact Ty.of (h.labels.ty hb) (by decide)
 ·obtain ⟨l, hr⟩ := h.inner_row hv
  exact Ty.of (hr.ty hb) (by decide)
theorem All2.right {α β : Type} {P : α → β → Prop} : ∀ {l : List α} {m : List β}, All2 P l m → ∀ b ∈ m, ∃ a ∈ l, P a b
 | [], [], _, b, hb => by simp at hb
 | x :: l, y :: m, hp, b, hb => by
  rcases List.mem_cons.1 hb with rfl | hb
  ·exact ⟨x, List.mem_cons_self .., hp.1⟩
  ·obtain ⟨a, h1, h2⟩ := All2.right hp.2 b hb
   exact ⟨a, List.mem_cons_of_mem _ h1, h2⟩
 | [], _ :: _, hp, _, _ => hp.elim
 | _ :: _, [], hp, _, _ => hp.elim
theorem StkAt.tys {w : World} {s t : Nat} {A : SA} {M : List Nat} {scs : List Sc} (h : StkAt w s t A M scs) : ∀ b ∈ A.blocks s, Ty w tyS b := by
 intro b hb
 rcases SA.mem_blocks.1 hb with rfl | hb | ⟨p, hp, hb⟩
 ·exact Ty.of (tyOf_cells h.blk) (by decide)
 ·exact Ty.of (h.row.ty hb) (by decide)
 ·obtain ⟨sc, -, hs⟩ := h.inn.right p hp
  exact Ty.of (hs.hyps.row.ty hb) (by decide)
theorem Row.keep {w w' : World} {e k n : Nat} {v : Value} {xs : List Value} (h : Row w e k v n xs) (hv : ∀ b, v.ownBlock = some b → w'.heap[b]? = w.heap[b]?) : Row w' e k v n xs := by
 refine ⟨h.1, ?_⟩
 rcases h.2 with h1 | ⟨g, cap, cur, rfl, h2, h3, h4⟩
 ·exact .inl h1
 ·exact .inr ⟨g, cap, cur, rfl, h2, (hv g rfl).trans h3, h4⟩
theorem StkAt.move {w w' : World} {s t : Nat} {A : SA} {M M' : List Nat} {scs : List Sc} (h : StkAt w s t A M scs) (m : Move M M' w w') (hk : ∀ b ∈ A.blocks s, w'.heap[b]? = w.heap[b]?) (hs : ∀ b ∈ A.blocks s, b ∈ M') : StkAt w' s t A M' scs :=
 ⟨(hk s (by simp [SA.blocks])).trans h.blk, h.row.keep fun b hb => hk b (SA.mem_blocks.2 (.inr (.inl hb))),
  h.inn.impMem fun sc p hp hin => ⟨hin.hyps.move m fun b hb => hk b (SA.mem_blocks.2 (.inr (.inr ⟨p, hp, hb⟩))), hin.pairs.move m⟩, hs, h.apart, h.len, h.ne⟩
structure AsP where
 fh : Value
 fp : Value
 fg : Value
 sh : Value
 sp : Value
 pr : Value
 fes : List Value
 ses : List Value
def asCells1 (a : Asr) (p : AsP) : List Value := .int .i64 a.number :: .string a.label :: .bool a.isThm :: p.fh :: p.fp :: p.fg :: p.sh :: p.sp :: p.pr :: (a.at_.cells ++ a.end_.cells)
def asCells : List Asr → List AsP → List Value
 | a :: l, p :: m => asCells1 a p ++ asCells l m
 | _, _ => []
theorem asCells1_len (a : Asr) (p : AsP) : (asCells1 a p).length = 17 := rfl
theorem asCells_snoc (a : Asr) (p : AsP) : ∀ (l : List Asr) (m : List AsP), m.length = l.length → asCells (l ++ [a]) (m ++ [p]) = asCells l m ++ asCells1 a p
 | [], [], _ => by simp [asCells]
 | x :: l, y :: m, e => by simp [asCells, asCells_snoc a p l m (by simpa using e)]
 | [], _ :: _, e => by simp at e
 | _ :: _, [], e => by simp at e
theorem asCells_at : ∀ (l : List Asr) (m : List AsP) (k : Nat) (h : k < l.length) (h2 : k < m.length), ((asCells l m).drop (k * 17)).take 17 = asCells1 l[k] m[k]
 | x :: l, y :: m, 0, _, _ => by
  show ((asCells1 x y ++ asCells l m).drop (0 * 17)).take 17 = asCells1 x y
  rw [Nat.zero_mul, List.drop_zero, List.take_append_of_le_length (by rw [asCells1_len]; omega), List.take_of_length_le (by rw [asCells1_len]; omega)]
 | x :: l, y :: m, k + 1, h, h2 => by
  have := asCells_at l m k (by simpa using h) (by simpa using h2)
  rw [show (k + 1) * 17 = 17 + k * 17 by omega, ← List.drop_drop]
  have e : (asCells (x :: l) (y :: m)).drop 17 = asCells l m := by
   show (asCells1 x y ++ asCells l m).drop 17 = asCells l m
   rw [List.drop_append_of_le_length (by rw [asCells1_len]; omega), List.drop_of_length_le (by rw [asCells1_len]; omega), List.nil_append]
  rw [e]
  simpa using this
structure AsIn (w : World) (M : List Nat) (a : Asr) (p : AsP) : Prop where
 fh : HypsIn w M p.fh p.fes a.hyps
 fhn : ∀ b, p.fh.ownBlock = some b → b ∉ M
 fp : Fix w M 113 2 p.fp a.pairs.length (prCells a.pairs)
 fg : Ints w M p.fg a.goal
 sh : HypsIn w M p.sh p.ses a.shyps
 shn : ∀ b, p.sh.ownBlock = some b → b ∉ M
 sp : Fix w M 113 2 p.sp a.spairs.length (prCells a.spairs)
 pr : Fix w M 54 4 p.pr a.proof.length (tkCells a.proof)
theorem HypsIn.moveFix {w w' : World} {M M' : List Nat} (m : Move M M' w w') {v : Value} {evs : List Value} {l : List Hy} (h : HypsIn w M v evs l) (hv : ∀ b, v.ownBlock = some b → b ∉ M) : HypsIn w' M' v evs l :=
 h.move m fun b hb => m.same.block b (h.row.lt hb) (hv b hb)
theorem not_move {w w' : World} {M M' : List Nat} (m : Move M M' w w') {v : Value} (hl : ∀ b, v.ownBlock = some b → b < w.heap.size) (hv : ∀ b, v.ownBlock = some b → b ∉ M) : ∀ b, v.ownBlock = some b → b ∉ M' :=
 fun b hb => (Still.move ⟨hl b hb, hv b hb⟩ m).2
theorem AsIn.move {w w' : World} {M M' : List Nat} (m : Move M M' w w') {a : Asr} {p : AsP} (h : AsIn w M a p) : AsIn w' M' a p :=
 ⟨h.fh.moveFix m h.fhn, not_move m (fun b hb => h.fh.row.lt hb) h.fhn, h.fp.move m, h.fg.move m, h.sh.moveFix m h.shn, not_move m (fun b hb => h.sh.row.lt hb) h.shn, h.sp.move m, h.pr.move m⟩
def HmIn (w : World) (M : List Nat) (a : ByteArray × Hy) (b : ByteArray × Value) : Prop := a.1 = b.1 ∧ ∃ ev, b.2 = .agg #[.string a.2.label, .bool a.2.floating, .int .i64 a.2.var, ev] ∧ Ints w M ev a.2.expr
theorem HmIn.move {w w' : World} {M M' : List Nat} (m : Move M M' w w') {a : ByteArray × Hy} {b : ByteArray × Value} (h : HmIn w M a b) : HmIn w' M' a b := ⟨h.1, h.2.elim fun ev h => ⟨ev, h.1, h.2.move m⟩⟩
theorem hm_get {w : World} {M : List Nat} (k : ByteArray) : ∀ {l : List (ByteArray × Hy)} {m : List (ByteArray × Value)}, All2 (HmIn w M) l m → (aget k m).isSome = (aget k l).isSome
 | [], [], _ => rfl
 | (a, h) :: l, (b, v) :: m, hp => by
  obtain rfl : a = b := hp.1.1
  have := hm_get k hp.2
  unfold aget
  split
  ·rfl
  ·exact this
 | [], _ :: _, hp => hp.elim
 | _ :: _, [], hp => hp.elim
theorem hm_put {w : World} {M : List Nat} (k : ByteArray) {h : Hy} {v : Value} (hv : HmIn w M (k, h) (k, v)) : ∀ {l : List (ByteArray × Hy)} {m : List (ByteArray × Value)}, All2 (HmIn w M) l m → All2 (HmIn w M) (aput k h l) (aput k v m)
 | [], [], _ => ⟨hv, trivial⟩
 | (a, h') :: l, (b, v') :: m, hp => by
  obtain rfl : a = b := hp.1.1
  have := hm_put k hv hp.2
  unfold aput
  split
  ·rename_i hk
   subst hk
   exact ⟨hv, hp.2⟩
  ·exact ⟨hp.1, this⟩
 | [], _ :: _, hp => hp.elim
 | _ :: _, [], hp => hp.elim
structure LF where
 l : Nat
 nb : Nat
 t : Nat
 s : Nat
 mn : Nat
 mf : Nat
 mh : Nat
 text : ByteArray
 sv : Value
structure LV where
 TA : TA
 A : SA
 av : Value
 aps : List AsP
 hm : List (ByteArray × Value)
def LV.blocks (V : LV) (F : LF) : List Nat := F.l :: F.nb :: F.mn :: F.mf :: F.mh :: (V.av.ownBlock.toList ++ V.TA.blocks F.t ++ V.A.blocks F.s)
theorem LV.mem {V : LV} {F : LF} {b : Nat} : b ∈ V.blocks F ↔ b = F.l ∨ b = F.nb ∨ b = F.mn ∨ b = F.mf ∨ b = F.mh ∨ V.av.ownBlock = some b ∨ b ∈ V.TA.blocks F.t ∨ b ∈ V.A.blocks F.s := by
 simp only [LV.blocks, List.mem_cons, List.mem_append, Option.mem_toList, Option.mem_def, or_assoc]
structure LdAt (w : World) (F : LF) (V : LV) (L : Ld) : Prop where
 lb : w.heap[F.l]? = some (.cells #[.pointer (some ⟨F.nb, 0, none⟩), .pointer (some ⟨F.s, 0, none⟩), .int .i64 L.labels] 86 (0, 0))
 nbb : w.heap[F.nb]? = some (.cells #[.string F.text, F.sv, .pointer (some ⟨F.t, 0, none⟩), .map (some F.mn), V.av, .map (some F.mf), .map (some F.mh)] 83 (0, 0))
 tbl : TblAt w F.t V.TA L.tbl
 stk : StkAt w F.s F.t V.A (V.blocks F) L.scs
 nums : SMap w F.mn []
 finds : SMap w F.mf (natMap L.finds)
 hyps : SMap w F.mh V.hm
 hin : All2 (HmIn w (V.blocks F)) L.hyps V.hm
 asr : Row w 56 17 V.av L.asserts.length (asCells L.asserts V.aps)
 ain : All2 (AsIn w (V.blocks F)) L.asserts V.aps
 maps : F.mn ≠ F.mf ∧ F.mn ≠ F.mh ∧ F.mf ≠ F.mh
 mapt : ∀ b ∈ V.TA.blocks F.t, b ≠ F.mn ∧ b ≠ F.mf ∧ b ≠ F.mh
theorem LdAt.lt {w : World} {F : LF} {V : LV} {L : Ld} (h : LdAt w F V L) : ∀ b ∈ V.blocks F, b < w.heap.size := by
 intro b hb
 rcases LV.mem.1 hb with rfl | rfl | rfl | rfl | rfl | hb | hb | hb
 ·exact blk_lt h.lb
 ·exact blk_lt h.nbb
 ·exact h.nums.lt
 ·exact h.finds.lt
 ·exact h.hyps.lt
 ·exact h.asr.lt hb
 ·exact h.tbl.lt b hb
 ·exact h.stk.lt b hb
structure LdTy (w : World) (F : LF) (V : LV) : Prop where
 l : Ty w [some 86] F.l
 nb : Ty w [some 83] F.nb
 mn : Ty w [none] F.mn
 mf : Ty w [none] F.mf
 mh : Ty w [none] F.mh
 av : ∀ b, V.av.ownBlock = some b → Ty w [some 56] b
 t : ∀ b ∈ V.TA.blocks F.t, Ty w tyT b
 s : ∀ b ∈ V.A.blocks F.s, Ty w tyS b
theorem LdAt.ty {w : World} {F : LF} {V : LV} {L : Ld} (h : LdAt w F V L) : LdTy w F V :=
 ⟨Ty.one (tyOf_cells h.lb), Ty.one (tyOf_cells h.nbb), Ty.one h.nums.ty, Ty.one h.finds.ty, Ty.one h.hyps.ty, fun b hb => Ty.one (h.asr.ty hb), h.tbl.tys, h.stk.tys⟩
theorem LdAt.same {w w' : World} {F : LF} {V : LV} {L : Ld} (h : LdAt w F V L) (hs : Same [] w w') : LdAt w' F V L :=
 ⟨hs.get h.lb (by simp), hs.get h.nbb (by simp), h.tbl.same hs (by simp), h.stk.same hs, h.nums.same hs (by simp), h.finds.same hs (by simp), h.hyps.same hs (by simp), h.hin.imp fun _ _ => HmIn.move (Move.of_same hs), h.asr.same hs (by simp), h.ain.imp fun _ _ => AsIn.move (Move.of_same hs), h.maps, h.mapt⟩
theorem LdAt.setTbl {w w' : World} {F : LF} {V : LV} {L : Ld} (h : LdAt w F V L) {TA' : TA} {T' : Tbl} (hT : TblAt w' F.t TA' T') (hm : TMove V.TA F.t TA' w w') : LdAt w' F { V with TA := TA' } { L with tbl := T' } ∧ Move (V.blocks F) (LV.blocks { V with TA := TA' } F) w w' := by
 have ty := h.ty
 have m : Move (V.blocks F) (LV.blocks { V with TA := TA' } F) w w' := ⟨fun b hb => by
  rcases LV.mem.1 hb with hb | hb | hb | hb | hb | hb | hb | hb
  ·exact .inl (LV.mem.2 (.inl hb))
  ·exact .inl (LV.mem.2 (.inr (.inl hb)))
  ·exact .inl (LV.mem.2 (.inr (.inr (.inl hb))))
  ·exact .inl (LV.mem.2 (.inr (.inr (.inr (.inl hb)))))
  ·exact .inl (LV.mem.2 (.inr (.inr (.inr (.inr (.inl hb))))))
  ·exact .inl (LV.mem.2 (.inr (.inr (.inr (.inr (.inr (.inl hb)))))))
  ·exact (hm.blocks b hb).imp (fun h1 => LV.mem.2 (.inr (.inr (.inr (.inr (.inr (.inr (.inl h1)))))))) id
  ·exact .inl (LV.mem.2 (.inr (.inr (.inr (.inr (.inr (.inr (.inr hb)))))))), hm.same.mono fun b hb => .inl (LV.mem.2 (.inr (.inr (.inr (.inr (.inr (.inr (.inl hb)))))))) ⟩
 have nS : ∀ b ∈ V.A.blocks F.s, b ∉ V.TA.blocks F.t := fun b hb hm => (ty.s b hb).no (ty.t b hm) (by decide)
 refine ⟨⟨hm.same.get h.lb fun hb => ty.l.no (ty.t _ hb) (by decide), hm.same.get h.nbb fun hb => ty.nb.no (ty.t _ hb) (by decide), hT,
  h.stk.move m (fun b hb => hm.same.block b (h.stk.lt b hb) (nS b hb)) (fun b hb => LV.mem.2 (.inr (.inr (.inr (.inr (.inr (.inr (.inr hb)))))))),
  h.nums.same hm.same fun hb => (h.mapt _ hb).1 rfl, h.finds.same hm.same fun hb => (h.mapt _ hb).2.1 rfl, h.hyps.same hm.same fun hb => (h.mapt _ hb).2.2 rfl, h.hin.imp fun _ _ => HmIn.move m,
  h.asr.same hm.same fun b hb hm => (ty.av b hb).no (ty.t b hm) (by decide), h.ain.imp fun _ _ => AsIn.move m, h.maps, fun b hb => ?_⟩, m⟩
 rcases hm.blocks b hb with h1 | h1
 ·exact h.mapt b h1
 ·have h2 := h.nums.lt
  have h3 := h.finds.lt
  have h4 := h.hyps.lt
  omega
theorem LdAt.setStk {w w' : World} {F : LF} {V : LV} {L : Ld} (h : LdAt w F V L) {scs' : List Sc} (hr : StkR F.s F.t V.A (V.blocks F) scs' w w') : ∃ A', LdAt w' F { V with A := A' } { L with scs := scs' } ∧ Move (V.blocks F) (LV.blocks { V with A := A' } F) w w' := by
 obtain ⟨A', hk, hs, hb'⟩ := hr
 have ty := h.ty
 have m : Move (V.blocks F) (LV.blocks { V with A := A' } F) w w' := ⟨fun b hb => by
  rcases LV.mem.1 hb with hb | hb | hb | hb | hb | hb | hb | hb
  ·exact .inl (LV.mem.2 (.inl hb))
  ·exact .inl (LV.mem.2 (.inr (.inl hb)))
  ·exact .inl (LV.mem.2 (.inr (.inr (.inl hb))))
  ·exact .inl (LV.mem.2 (.inr (.inr (.inr (.inl hb)))))
  ·exact .inl (LV.mem.2 (.inr (.inr (.inr (.inr (.inl hb))))))
  ·exact .inl (LV.mem.2 (.inr (.inr (.inr (.inr (.inr (.inl hb)))))))
  ·exact .inl (LV.mem.2 (.inr (.inr (.inr (.inr (.inr (.inr (.inl hb))))))))
  ·exact (hb' b hb).imp (fun h1 => LV.mem.2 (.inr (.inr (.inr (.inr (.inr (.inr (.inr h1)))))))) id, hs.mono fun b hb => .inl (LV.mem.2 (.inr (.inr (.inr (.inr (.inr (.inr (.inr hb)))))))) ⟩
 have nT : ∀ b ∈ V.TA.blocks F.t, b ∉ V.A.blocks F.s := fun b hb hm => (ty.t b hb).no (ty.s b hm) (by decide)
 refine ⟨A', ⟨hs.get h.lb fun hb => ty.l.no (ty.s _ hb) (by decide), hs.get h.nbb fun hb => ty.nb.no (ty.s _ hb) (by decide), h.tbl.same hs nT,
  hk.move (M' := LV.blocks { V with A := A' } F) ⟨fun b hb => ?_, Same.refl _ _⟩ (fun b hb => rfl) (fun b hb => LV.mem.2 (.inr (.inr (.inr (.inr (.inr (.inr (.inr hb)))))))),
  h.nums.same hs fun hb => ty.mn.no (ty.s _ hb) (by decide), h.finds.same hs fun hb => ty.mf.no (ty.s _ hb) (by decide), h.hyps.same hs fun hb => ty.mh.no (ty.s _ hb) (by decide), h.hin.imp fun _ _ => HmIn.move m,
  h.asr.same hs fun b hb hm => (ty.av b hb).no (ty.s b hm) (by decide), h.ain.imp fun _ _ => AsIn.move m, h.maps, h.mapt⟩, m⟩
 rcases LV.mem.1 hb with hb | hb | hb | hb | hb | hb | hb | hb
 ·exact .inl (List.mem_append_right _ (LV.mem.2 (.inl hb)))
 ·exact .inl (List.mem_append_right _ (LV.mem.2 (.inr (.inl hb))))
 ·exact .inl (List.mem_append_right _ (LV.mem.2 (.inr (.inr (.inl hb)))))
 ·exact .inl (List.mem_append_right _ (LV.mem.2 (.inr (.inr (.inr (.inl hb))))))
 ·exact .inl (List.mem_append_right _ (LV.mem.2 (.inr (.inr (.inr (.inr (.inl hb)))))))
 ·exact .inl (List.mem_append_right _ (LV.mem.2 (.inr (.inr (.inr (.inr (.inr (.inl hb))))))))
 ·exact .inl (List.mem_append_right _ (LV.mem.2 (.inr (.inr (.inr (.inr (.inr (.inr (.inl hb)))))))))
 ·exact .inl (List.mem_append_left _ hb)
theorem LdAt.setLabels {w w' : World} {F : LF} {V : LV} {L : Ld} (h : LdAt w F V L) {n : Nat} (hb : w'.heap[F.l]? = some (.cells #[.pointer (some ⟨F.nb, 0, none⟩), .pointer (some ⟨F.s, 0, none⟩), .int .i64 n] 86 (0, 0))) (hs : Same [F.l] w w') :
  LdAt w' F V { L with labels := n } ∧ Move (V.blocks F) (V.blocks F) w w' := by
 have ty := h.ty
 have m : Move (V.blocks F) (V.blocks F) w w' := ⟨fun b hb => .inl hb, hs.mono fun b hb => .inl (LV.mem.2 (.inl (List.mem_singleton.1 hb)))⟩
 have no : ∀ {ts : List (Option TypeId)} {b : Nat}, Ty w ts b → (∀ t ∈ ts, t ∉ [some 86]) → b ∉ [F.l] := fun {ts b} hb hd hm => by
  have := List.mem_singleton.1 hm
  subst this
  exact hb.no ty.l hd
 exact ⟨⟨hb, hs.get h.nbb (no ty.nb (by decide)), h.tbl.same hs fun b hb => no (ty.t b hb) (by decide), h.stk.move m (fun b hb => hs.block b (h.stk.lt b hb) (no (ty.s b hb) (by decide))) h.stk.sub,
  h.nums.same hs (no ty.mn (by decide)), h.finds.same hs (no ty.mf (by decide)), h.hyps.same hs (no ty.mh (by decide)), h.hin.imp fun _ _ => HmIn.move m, h.asr.same hs fun b hb => no (ty.av b hb) (by decide), h.ain.imp fun _ _ => AsIn.move m, h.maps, h.mapt⟩, m⟩
theorem LdAt.setHyp {w w' : World} {F : LF} {V : LV} {L : Ld} (h : LdAt w F V L) (k : ByteArray) (x : Hy) {ev : Value} (hv : Ints w (V.blocks F) ev x.expr) (hm : SMap w' F.mh (aput k (.agg #[.string x.label, .bool x.floating, .int .i64 x.var, ev]) V.hm)) (hs : Same [F.mh] w w') :
  LdAt w' F { V with hm := aput k (.agg #[.string x.label, .bool x.floating, .int .i64 x.var, ev]) V.hm } { L with hyps := aput k x L.hyps } ∧ Move (V.blocks F) (V.blocks F) w w' := by
 have ty := h.ty
 have m : Move (V.blocks F) (V.blocks F) w w' := ⟨fun b hb => .inl hb, hs.mono fun b hb => .inl (LV.mem.2 (.inr (.inr (.inr (.inr (.inl (List.mem_singleton.1 hb)))))))⟩
 have no : ∀ {ts : List (Option TypeId)} {b : Nat}, Ty w ts b → (∀ t ∈ ts, t ∉ [(none : Option TypeId)]) → b ∉ [F.mh] := fun {ts b} hb hd hm => by
  have := List.mem_singleton.1 hm
  subst this
  exact hb.no ty.mh hd
 exact ⟨⟨hs.get h.lb (no ty.l (by decide)), hs.get h.nbb (no ty.nb (by decide)), h.tbl.same hs fun b hb hm => (h.mapt b hb).2.2 (List.mem_singleton.1 hm), h.stk.move m (fun b hb => hs.block b (h.stk.lt b hb) (no (ty.s b hb) (by decide))) h.stk.sub,
  h.nums.same hs (by simpa using h.maps.2.1), h.finds.same hs (by simpa using h.maps.2.2), hm, hm_put k ⟨rfl, ev, rfl, hv.move m⟩ (h.hin.imp fun _ _ => HmIn.move m), h.asr.same hs fun b hb => no (ty.av b hb) (by decide), h.ain.imp fun _ _ => AsIn.move m, h.maps, h.mapt⟩, m⟩
theorem LdAt.setFind {w w' : World} {F : LF} {V : LV} {L : Ld} (h : LdAt w F V L) {l : List (ByteArray × Nat)} (hm : SMap w' F.mf (natMap l)) (hs : Same [F.mf] w w') :
  LdAt w' F V { L with finds := l } ∧ Move (V.blocks F) (V.blocks F) w w' := by
 have ty := h.ty
 have m : Move (V.blocks F) (V.blocks F) w w' := ⟨fun b hb => .inl hb, hs.mono fun b hb => .inl (LV.mem.2 (.inr (.inr (.inr (.inl (List.mem_singleton.1 hb))))))⟩
 have no : ∀ {ts : List (Option TypeId)} {b : Nat}, Ty w ts b → (∀ t ∈ ts, t ∉ [(none : Option TypeId)]) → b ∉ [F.mf] := fun {ts b} hb hd hm => by
  have := List.mem_singleton.1 hm
  subst this
  exact hb.no ty.mf hd
 exact ⟨⟨hs.get h.lb (no ty.l (by decide)), hs.get h.nbb (no ty.nb (by decide)), h.tbl.same hs fun b hb hm => (h.mapt b hb).2.1 (List.mem_singleton.1 hm), h.stk.move m (fun b hb => hs.block b (h.stk.lt b hb) (no (ty.s b hb) (by decide))) h.stk.sub,
  h.nums.same hs (by simpa using h.maps.1), hm, h.hyps.same hs (by simpa using h.maps.2.2.symm), h.hin.imp fun _ _ => HmIn.move m, h.asr.same hs fun b hb => no (ty.av b hb) (by decide), h.ain.imp fun _ _ => AsIn.move m, h.maps, h.mapt⟩, m⟩
theorem LdAt.setAsr {w w1 : World} {F : LF} {V : LV} {L : Ld} (h : LdAt w F V L) (a : Asr) (p : AsP) {v1 : Value} (hr : Row w1 56 17 v1 (L.asserts.length + 1) (asCells L.asserts V.aps ++ asCells1 a p)) (hs : Same V.av.ownBlock.toList w w1)
  (ho : v1.ownBlock = V.av.ownBlock ∨ ∃ b, v1.ownBlock = some b ∧ w.heap.size ≤ b) (ha : AsIn w (V.blocks F) a p) :
  LdAt (w1.setCell ⟨F.nb, 4, none⟩ v1) F { V with av := v1, aps := V.aps ++ [p] } { L with asserts := L.asserts ++ [a] } ∧ Move (V.blocks F) (LV.blocks { V with av := v1, aps := V.aps ++ [p] } F) w (w1.setCell ⟨F.nb, 4, none⟩ v1) := by
 have ty := h.ty
 have hlen := h.ain.len
 have hs2 : Same (F.nb :: V.av.ownBlock.toList) w (w1.setCell ⟨F.nb, 4, none⟩ v1) := (hs.mono fun b hb => .inl (List.mem_cons_of_mem _ hb)).trans (Same.setCell _ _ _ (by simp))
 have m : Move (V.blocks F) (LV.blocks { V with av := v1, aps := V.aps ++ [p] } F) w (w1.setCell ⟨F.nb, 4, none⟩ v1) := ⟨fun b hb => by
  rcases LV.mem.1 hb with hb | hb | hb | hb | hb | hb | hb | hb
  ·exact .inl (LV.mem.2 (.inl hb))
  ·exact .inl (LV.mem.2 (.inr (.inl hb)))
  ·exact .inl (LV.mem.2 (.inr (.inr (.inl hb))))
  ·exact .inl (LV.mem.2 (.inr (.inr (.inr (.inl hb)))))
  ·exact .inl (LV.mem.2 (.inr (.inr (.inr (.inr (.inl hb))))))
  ·dsimp only at hb
   rcases ho with ho | ⟨c, hc, hle⟩
   ·exact .inl (LV.mem.2 (.inr (.inr (.inr (.inr (.inr (.inl (ho ▸ hb))))))))
   ·rw [hc] at hb; cases hb; exact .inr hle
  ·exact .inl (LV.mem.2 (.inr (.inr (.inr (.inr (.inr (.inr (.inl hb))))))))
  ·exact .inl (LV.mem.2 (.inr (.inr (.inr (.inr (.inr (.inr (.inr hb)))))))), hs2.mono fun b hb => by
  rcases List.mem_cons.1 hb with rfl | hb
  ·exact .inl (LV.mem.2 (.inr (.inl rfl)))
  ·exact .inl (LV.mem.2 (.inr (.inr (.inr (.inr (.inr (.inl (Option.mem_toList.1 hb))))))))⟩
 have no : ∀ {ts : List (Option TypeId)} {b : Nat}, Ty w ts b → (∀ t ∈ ts, t ∉ [some 83, some 56]) → b ∉ F.nb :: V.av.ownBlock.toList := fun {ts b} hb hd hm => by
  rcases List.mem_cons.1 hm with rfl | hm
  ·exact hb.no ty.nb fun t ht h2 => hd t ht (by simp at h2; simp [h2])
  ·exact hb.no (ty.av b (Option.mem_toList.1 hm)) fun t ht h2 => hd t ht (by simp at h2; simp [h2])
 have hnav : F.nb ∉ V.av.ownBlock.toList := fun hm => ty.nb.no (ty.av _ (Option.mem_toList.1 hm)) (by decide)
 have hb1 := hs.get h.nbb hnav
 refine ⟨⟨hs2.get h.lb (no ty.l (by decide)), by have := blk_set hb1 4 v1; simpa using this, h.tbl.same hs2 fun b hb => no (ty.t b hb) (by decide), h.stk.move m (fun b hb => hs2.block b (h.stk.lt b hb) (no (ty.s b hb) (by decide))) (fun b hb => LV.mem.2 (.inr (.inr (.inr (.inr (.inr (.inr (.inr hb)))))))),
  h.nums.same hs2 (no ty.mn (by decide)), h.finds.same hs2 (no ty.mf (by decide)), h.hyps.same hs2 (no ty.mh (by decide)), h.hin.imp fun _ _ => HmIn.move m, ?_, (h.ain.imp fun _ _ => AsIn.move m).snoc (ha.move m), h.maps, h.mapt⟩, m⟩
 dsimp only
 rw [asCells_snoc _ _ _ _ hlen, List.length_append, List.length_singleton]
 refine hr.same (Same.setCell w1 _ _ (S := [F.nb]) (by simp)) fun b hb hm => ?_
 have := List.mem_singleton.1 hm
 subst this
 exact hr.ne hb1 (by decide) hb
def StopM (M : List Nat) (t : Tk) (n : Nat) (w : World) (e : Ending) (w' : World) : Prop := ∃ b, e = .panicked [{ v := .iface 24 (.pointer (some ⟨b, 0, none⟩)), recovered := false }] ∧ FltAt w' (.pointer (some ⟨b, 0, none⟩)) (some ⟨t.at_, t.text, n⟩) ∧ Same M w w'
theorem StopM.after {M M' : List Nat} {t : Tk} {n : Nat} {w w1 w' : World} {e : Ending} (h : StopM M' t n w1 e w') (hm : Move M M' w w1) : StopM M t n w e w' := by
 obtain ⟨b, h1, h2, h3⟩ := h
 exact ⟨b, h1, h2, hm.same.then h3 hm.blocks⟩
def LdX (F : LF) (V : LV) (x : Ex Ld) (w : World) (e : Ending) (w' : World) : Prop := match x with
 | .ok L' => e = .returned (.tuple #[]) ∧ ∃ V', LdAt w' F V' L' ∧ Move (V.blocks F) (V'.blocks F) w w'
 | .error (t, n) => StopM (V.blocks F) t n w e w'
theorem LdX.after {F : LF} {V V1 : LV} {x : Ex Ld} {w w1 w' : World} {e : Ending} (h : LdX F V1 x w1 e w') (hm : Move (V.blocks F) (V1.blocks F) w w1) : LdX F V x w e w' := by
 unfold LdX at h ⊢
 match x, h with
 | .ok L', h => exact ⟨h.1, h.2.choose, h.2.choose_spec.1, hm.trans h.2.choose_spec.2⟩
 | .error (t, n), h => exact StopM.after h hm
theorem LdAt.lr {w : World} {F : LF} {V : LV} {L : Ld} (h : LdAt w F V L) (hs : Small L.scs) : LR w F.l F.nb F.t F.s V.TA V.A (V.blocks F) L.tbl L.scs :=
 ⟨⟨blk_c h.lb, blk_c h.nbb, h.tbl⟩, blk_c h.lb, h.stk, hs⟩
end Go.Proofs.YtdhkmfpfbjcdiaaGreatDoor
