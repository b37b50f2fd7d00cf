/- lemmalaw texts, part 23. -/
import Derived.Test.YtbfbgfpghkijdaaGreatDoorYav
set_option maxRecDepth 100000
set_option linter.unusedVariables false
set_option linter.unusedSimpArgs false
set_option maxHeartbeats 32000000
namespace Go.Proofs.YtbfbgfpghkijdaaGreatDoor
open Go.RowKit
def MB (w : World) (b : Nat) : Option (Option TypeId) := match w.heap[b]? with
 | some (.cells _ t _) => some (some t)
 | some (.map _ _) => some none
 | _ => none
theorem Du {w : World} {b : Nat} {cs : Array Value} {t : TypeId} {fr : Nat × Nat} (h : w.heap[b]? = some (.cells cs t fr)) : MB w b = some (some t) := by simp [MB, h]
theorem Row.ty {w : World} {e k n : Nat} {v : Value} {xs : List Value} (h : Row w e k v n xs) {b : Nat} (hb : v.ownBlock = some b) : MB w b = some (some e) := by
 rcases h.2 with ⟨rfl, _⟩ | ⟨g, cap, cur, rfl, h0, h1, h3⟩
 ·cases hb
 ·cases hb; exact Du h1
theorem BN.ty {w : World} {b : Nat} {l : List (ByteArray × Value)} (h : BN w b l) : MB w b = some none := by
 obtain ⟨es, clock, h, _⟩ := h
 simp [MB, h]
def Ty (w : World) (ts : List (Option TypeId)) (b : Nat) : Prop := ∃ t, MB w b = some t ∧ t ∈ ts
theorem Ty.no {w : World} {ts ts' : List (Option TypeId)} {b : Nat} (h : Ty w ts b) (h' : Ty w ts' b) (hd : ∀ t ∈ ts, t ∉ ts') : False := by
 obtain ⟨t, h1, h2⟩ := h
 obtain ⟨u, h3, h4⟩ := h'
 rw [h1] at h3
 cases h3
 exact hd t h2 h4
theorem Ty.one {w : World} {b : Nat} {t : Option TypeId} (h : MB w b = some t) : Ty w [t] b := ⟨t, h, by simp⟩
theorem Ty.of {w : World} {b : Nat} {t : Option TypeId} (h : MB w b = some t) {ts : List (Option TypeId)} (ht : t ∈ ts) : Ty w ts b := ⟨t, h, ht⟩
def tyT : List (Option TypeId) := [none, some 131, some 136, some 212, some 9, some 3]
def tyS : List (Option TypeId) := [some 134, some 218, some 49]
theorem AW.tys {w : World} {t : Nat} {A : TA} {T : Tbl} (h : AW w t A T) : ∀ b ∈ A.blocks t, Ty w tyT b := by
 intro b hb
 simp only [TA.blocks, List.mem_cons, List.mem_append, List.mem_flatMap, Option.mem_toList] at hb
 rcases hb with rfl | rfl | rfl | rfl | ((hb | hb) | hb) | ⟨v, hv, hb⟩
 ·exact Ty.of (Du h.blk) (by decide)
 ·exact Ty.of h.numbers.ty (by decide)
 ·exact Ty.of h.active.ty (by decide)
 ·exact Ty.of h.taken.ty (by decide)
 ·exact Ty.of (h.syms.ty hb) (by decide)
 ·exact Ty.of (h.scopes.ty hb) (by decide)
 ·exact Ty.of (h.labels.ty hb) (by decide)
 ·obtain ⟨l, hr⟩ := h.inner_row hv
  exact Ty.of (hr.ty hb) (by decide)
theorem Bm.right {α β : Type} {P : α → β → Prop} : ∀ {l : List α} {m : List β}, Bm P l m → ∀ b ∈ m, ∃ a ∈ l, P a b
 | [], [], _, b, hb => by simp at hb
 | x :: l, y :: m, hp, b, hb => by
  rcases List.mem_cons.1 hb with rfl | hb
  ·exact ⟨x, List.mem_cons_self .., hp.1⟩
  ·obtain ⟨a, h1, h2⟩ := Bm.right hp.2 b hb
   exact ⟨a, List.mem_cons_of_mem _ h1, h2⟩
 | [], _ :: _, hp, _, _ => hp.elim
 | _ :: _, [], hp, _, _ => hp.elim
theorem Bq.tys {w : World} {s t : Nat} {A : SA} {M : List Nat} {scs : List Sc} (h : Bq w s t A M scs) : ∀ b ∈ A.blocks s, Ty w tyS b := by
 intro b hb
 rcases SA.mem_blocks.1 hb with rfl | hb | ⟨p, hp, hb⟩
 ·exact Ty.of (Du h.blk) (by decide)
 ·exact Ty.of (h.row.ty hb) (by decide)
 ·obtain ⟨sc, -, hs⟩ := h.inn.right p hp
  exact Ty.of (hs.hyps.row.ty hb) (by decide)
theorem Row.keep {w w' : World} {e k n : Nat} {v : Value} {xs : List Value} (h : Row w e k v n xs) (hv : ∀ b, v.ownBlock = some b → w'.heap[b]? = w.heap[b]?) : Row w' e k v n xs := by
 refine ⟨h.1, ?_⟩
 rcases h.2 with h1 | ⟨g, cap, cur, rfl, h2, h3, h4⟩
 ·exact .inl h1
 ·exact .inr ⟨g, cap, cur, rfl, h2, (hv g rfl).trans h3, h4⟩
theorem Bq.move {w w' : World} {s t : Nat} {A : SA} {M M' : List Nat} {scs : List Sc} (h : Bq w s t A M scs) (m : AN M M' w w') (hk : ∀ b ∈ A.blocks s, w'.heap[b]? = w.heap[b]?) (hs : ∀ b ∈ A.blocks s, b ∈ M') : Bq w' s t A M' scs :=
 ⟨(hk s (by simp [SA.blocks])).trans h.blk, h.row.keep fun b hb => hk b (SA.mem_blocks.2 (.inr (.inl hb))),
  h.inn.impMem fun sc p hp hin => ⟨hin.hyps.move m fun b hb => hk b (SA.mem_blocks.2 (.inr (.inr ⟨p, hp, hb⟩))), hin.pairs.move m⟩, hs, h.apart, h.len, h.ne⟩
structure AsP where
 fh : Value
 fp : Value
 fg : Value
 sh : Value
 sp : Value
 pr : Value
 fes : List Value
 ses : List Value
def C1 (a : Asr) (p : AsP) : List Value := .int .i64 a.number :: .string a.label :: .bool a.isThm :: p.fh :: p.fp :: p.fg :: p.sh :: p.sp :: p.pr :: (a.at_.cells ++ a.end_.cells)
def CN : List Asr → List AsP → List Value
 | a :: l, p :: m => C1 a p ++ CN l m
 | _, _ => []
theorem CT (a : Asr) (p : AsP) : (C1 a p).length = 17 := rfl
theorem Ht (a : Asr) (p : AsP) : ∀ (l : List Asr) (m : List AsP), m.length = l.length → CN (l ++ [a]) (m ++ [p]) = CN l m ++ C1 a p
 | [], [], _ => by simp [CN]
 | x :: l, y :: m, e => by simp [CN, Ht a p l m (by simpa using e)]
 | [], _ :: _, e => by simp at e
 | _ :: _, [], e => by simp at e
theorem JT : ∀ (l : List Asr) (m : List AsP) (k : Nat) (h : k < l.length) (h2 : k < m.length), ((CN l m).drop (k * 17)).take 17 = C1 l[k] m[k]
 | x :: l, y :: m, 0, _, _ => by
  show ((C1 x y ++ CN l m).drop (0 * 17)).take 17 = C1 x y
  rw [Nat.zero_mul, List.drop_zero, List.take_append_of_le_length (by rw [CT]; omega), List.take_of_length_le (by rw [CT]; omega)]
 | x :: l, y :: m, k + 1, h, h2 => by
  have := JT l m k (by simpa using h) (by simpa using h2)
  rw [show (k + 1) * 17 = 17 + k * 17 by omega, ← List.drop_drop]
  have e : (CN (x :: l) (y :: m)).drop 17 = CN l m := by
   show (C1 x y ++ CN l m).drop 17 = CN l m
   rw [List.drop_append_of_le_length (by rw [CT]; omega), List.drop_of_length_le (by rw [CT]; omega), List.nil_append]
  rw [e]
  simpa using this
structure E5 (w : World) (M : List Nat) (a : Asr) (p : AsP) : Prop where
 fh : Bi w M p.fh p.fes a.hyps
 fhn : ∀ b, p.fh.ownBlock = some b → b ∉ M
 fp : Fix w M 47 2 p.fp a.pairs.length (AT a.pairs)
 fg : Ds w M p.fg a.goal
 sh : Bi w M p.sh p.ses a.shyps
 shn : ∀ b, p.sh.ownBlock = some b → b ∉ M
 sp : Fix w M 47 2 p.sp a.spairs.length (AT a.spairs)
 pr : Fix w M 59 4 p.pr a.proof.length (AC a.proof)
theorem Bi.moveFix {w w' : World} {M M' : List Nat} (m : AN M M' w w') {v : Value} {evs : List Value} {l : List Hy} (h : Bi w M v evs l) (hv : ∀ b, v.ownBlock = some b → b ∉ M) : Bi w' M' v evs l :=
 h.move m fun b hb => m.same.block b (h.row.lt hb) (hv b hb)
theorem JO {w w' : World} {M M' : List Nat} (m : AN M M' w w') {v : Value} (hl : ∀ b, v.ownBlock = some b → b < w.heap.size) (hv : ∀ b, v.ownBlock = some b → b ∉ M) : ∀ b, v.ownBlock = some b → b ∉ M' :=
 fun b hb => (G5.move ⟨hl b hb, hv b hb⟩ m).2
theorem E5.move {w w' : World} {M M' : List Nat} (m : AN M M' w w') {a : Asr} {p : AsP} (h : E5 w M a p) : E5 w' M' a p :=
 ⟨h.fh.moveFix m h.fhn, JO m (fun b hb => h.fh.row.lt hb) h.fhn, h.fp.move m, h.fg.move m, h.sh.moveFix m h.shn, JO m (fun b hb => h.sh.row.lt hb) h.shn, h.sp.move m, h.pr.move m⟩
def E0 (w : World) (M : List Nat) (a : ByteArray × Hy) (b : ByteArray × Value) : Prop := a.1 = b.1 ∧ ∃ ev, b.2 = .agg #[.string a.2.label, .bool a.2.floating, .int .i64 a.2.var, ev] ∧ Ds w M ev a.2.expr
theorem E0.move {w w' : World} {M M' : List Nat} (m : AN M M' w w') {a : ByteArray × Hy} {b : ByteArray × Value} (h : E0 w M a b) : E0 w' M' a b := ⟨h.1, h.2.elim fun ev h => ⟨ev, h.1, h.2.move m⟩⟩
theorem Rp {w : World} {M : List Nat} (k : ByteArray) : ∀ {l : List (ByteArray × Hy)} {m : List (ByteArray × Value)}, Bm (E0 w M) l m → (AJ k m).isSome = (AJ k l).isSome
 | [], [], _ => rfl
 | (a, h) :: l, (b, v) :: m, hp => by
  obtain rfl : a = b := hp.1.1
  have := Rp k hp.2
  unfold AJ
  split
  ·rfl
  ·exact this
 | [], _ :: _, hp => hp.elim
 | _ :: _, [], hp => hp.elim
theorem P2 {w : World} {M : List Nat} (k : ByteArray) {h : Hy} {v : Value} (hv : E0 w M (k, h) (k, v)) : ∀ {l : List (ByteArray × Hy)} {m : List (ByteArray × Value)}, Bm (E0 w M) l m → Bm (E0 w M) (Bd k h l) (Bd k v m)
 | [], [], _ => ⟨hv, trivial⟩
 | (a, h') :: l, (b, v') :: m, hp => by
  obtain rfl : a = b := hp.1.1
  have := P2 k hv hp.2
  unfold Bd
  split
  ·rename_i hk
   subst hk
   exact ⟨hv, hp.2⟩
  ·exact ⟨hp.1, this⟩
 | [], _ :: _, hp => hp.elim
 | _ :: _, [], hp => hp.elim
structure LF where
 l : Nat
 nb : Nat
 t : Nat
 s : Nat
 mn : Nat
 mf : Nat
 mh : Nat
 text : ByteArray
 sv : Value
structure LV where
 TA : TA
 A : SA
 av : Value
 aps : List AsP
 hm : List (ByteArray × Value)
def LV.blocks (V : LV) (F : LF) : List Nat := F.l :: F.nb :: F.mn :: F.mf :: F.mh :: (V.av.ownBlock.toList ++ V.TA.blocks F.t ++ V.A.blocks F.s)
theorem LV.mem {V : LV} {F : LF} {b : Nat} : b ∈ V.blocks F ↔ b = F.l ∨ b = F.nb ∨ b = F.mn ∨ b = F.mf ∨ b = F.mh ∨ V.av.ownBlock = some b ∨ b ∈ V.TA.blocks F.t ∨ b ∈ V.A.blocks F.s := by
 simp only [LV.blocks, List.mem_cons, List.mem_append, Option.mem_toList, Option.mem_def, or_assoc]
structure BR (w : World) (F : LF) (V : LV) (L : Ld) : Prop where
 lb : w.heap[F.l]? = some (.cells #[.pointer (some ⟨F.nb, 0, none⟩), .pointer (some ⟨F.s, 0, none⟩), .int .i64 L.labels] 92 (0, 0))
 nbb : w.heap[F.nb]? = some (.cells #[.string F.text, F.sv, .pointer (some ⟨F.t, 0, none⟩), .map (some F.mn), V.av, .map (some F.mf), .map (some F.mh)] 89 (0, 0))
 tbl : AW w F.t V.TA L.tbl
 stk : Bq w F.s F.t V.A (V.blocks F) L.scs
 nums : BN w F.mn []
 finds : BN w F.mf (Cd L.finds)
 hyps : BN w F.mh V.hm
 hin : Bm (E0 w (V.blocks F)) L.hyps V.hm
 asr : Row w 71 17 V.av L.asserts.length (CN L.asserts V.aps)
 ain : Bm (E5 w (V.blocks F)) L.asserts V.aps
 maps : F.mn ≠ F.mf ∧ F.mn ≠ F.mh ∧ F.mf ≠ F.mh
 mapt : ∀ b ∈ V.TA.blocks F.t, b ≠ F.mn ∧ b ≠ F.mf ∧ b ≠ F.mh
theorem BR.lt {w : World} {F : LF} {V : LV} {L : Ld} (h : BR w F V L) : ∀ b ∈ V.blocks F, b < w.heap.size := by
 intro b hb
 rcases LV.mem.1 hb with rfl | rfl | rfl | rfl | rfl | hb | hb | hb
 ·exact Af h.lb
 ·exact Af h.nbb
 ·exact h.nums.lt
 ·exact h.finds.lt
 ·exact h.hyps.lt
 ·exact h.asr.lt hb
 ·exact h.tbl.lt b hb
 ·exact h.stk.lt b hb
structure R9 (w : World) (F : LF) (V : LV) : Prop where
 l : Ty w [some 92] F.l
 nb : Ty w [some 89] F.nb
 mn : Ty w [none] F.mn
 mf : Ty w [none] F.mf
 mh : Ty w [none] F.mh
 av : ∀ b, V.av.ownBlock = some b → Ty w [some 71] b
 t : ∀ b ∈ V.TA.blocks F.t, Ty w tyT b
 s : ∀ b ∈ V.A.blocks F.s, Ty w tyS b
theorem BR.ty {w : World} {F : LF} {V : LV} {L : Ld} (h : BR w F V L) : R9 w F V :=
 ⟨Ty.one (Du h.lb), Ty.one (Du h.nbb), Ty.one h.nums.ty, Ty.one h.finds.ty, Ty.one h.hyps.ty, fun b hb => Ty.one (h.asr.ty hb), h.tbl.tys, h.stk.tys⟩
theorem BR.same {w w' : World} {F : LF} {V : LV} {L : Ld} (h : BR w F V L) (hs : Ad [] w w') : BR w' F V L :=
 ⟨hs.get h.lb (by simp), hs.get h.nbb (by simp), h.tbl.same hs (by simp), h.stk.same hs, h.nums.same hs (by simp), h.finds.same hs (by simp), h.hyps.same hs (by simp), h.hin.imp fun _ _ => E0.move (AN.of_same hs), h.asr.same hs (by simp), h.ain.imp fun _ _ => E5.move (AN.of_same hs), h.maps, h.mapt⟩
theorem zq101 {P : Prop} (h : P := by
 exact .inl (LV.mem.2 (.inr (.inr (.inr (.inr (.inl hb))))))) : P := h
theorem zq113 {P : Prop} (h : P := by
 exact .inl (LV.mem.2 (.inr (.inr (.inr (.inl hb)))))) : P := h
theorem BR.setTbl {w w' : World} {F : LF} {V : LV} {L : Ld} (h : BR w F V L) {TA' : TA} {T' : Tbl} (hT : AW w' F.t TA' T') (hm : BC V.TA F.t TA' w w') : BR w' F { V with TA := TA' } { L with tbl := T' } ∧ AN (V.blocks F) (LV.blocks { V with TA := TA' } F) w w' := by
 have ty := h.ty
 have m : AN (V.blocks F) (LV.blocks { V with TA := TA' } F) w w' := ⟨fun b hb => by
  rcases LV.mem.1 hb with hb | hb | hb | hb | hb | hb | hb | hb
  ·exact .inl (LV.mem.2 (.inl hb))
  ·exact .inl (LV.mem.2 (.inr (.inl hb)))
  ·exact .inl (LV.mem.2 (.inr (.inr (.inl hb))))
  ·exact zq113
  ·exact zq101
  ·exact .inl (LV.mem.2 (.inr (.inr (.inr (.inr (.inr (.inl hb)))))))
  ·exact (hm.blocks b hb).imp (fun h1 => LV.mem.2 (.inr (.inr (.inr (.inr (.inr (.inr (.inl h1)))))))) id
  ·exact .inl (LV.mem.2 (.inr (.inr (.inr (.inr (.inr (.inr (.inr hb)))))))), hm.same.mono fun b hb => .inl (LV.mem.2 (.inr (.inr (.inr (.inr (.inr (.inr (.inl hb)))))))) ⟩
 have nS : ∀ b ∈ V.A.blocks F.s, b ∉ V.TA.blocks F.t := fun b hb hm => (ty.s b hb).no (ty.t b hm) (by decide)
 refine ⟨⟨hm.same.get h.lb fun hb => ty.l.no (ty.t _ hb) (by decide), hm.same.get h.nbb fun hb => ty.nb.no (ty.t _ hb) (by decide), hT,
  h.stk.move m (fun b hb => hm.same.block b (h.stk.lt b hb) (nS b hb)) (fun b hb => LV.mem.2 (.inr (.inr (.inr (.inr (.inr (.inr (.inr hb)))))))),
  h.nums.same hm.same fun hb => (h.mapt _ hb).1 rfl, h.finds.same hm.same fun hb => (h.mapt _ hb).2.1 rfl, h.hyps.same hm.same fun hb => (h.mapt _ hb).2.2 rfl, h.hin.imp fun _ _ => E0.move m,
  h.asr.same hm.same fun b hb hm => (ty.av b hb).no (ty.t b hm) (by decide), h.ain.imp fun _ _ => E5.move m, h.maps, fun b hb => ?_⟩, m⟩
 rcases hm.blocks b hb with h1 | h1
 ·exact h.mapt b h1
 ·have h2 := h.nums.lt
  have h3 := h.finds.lt
  have h4 := h.hyps.lt
  omega
theorem BR.setStk {w w' : World} {F : LF} {V : LV} {L : Ld} (h : BR w F V L) {scs' : List Sc} (hr : Gp F.s F.t V.A (V.blocks F) scs' w w') : ∃ A', BR w' F { V with A := A' } { L with scs := scs' } ∧ AN (V.blocks F) (LV.blocks { V with A := A' } F) w w' := by
 obtain ⟨A', hk, hs, hb'⟩ := hr
 have ty := h.ty
 have m : AN (V.blocks F) (LV.blocks { V with A := A' } F) w w' := ⟨fun b hb => by
  rcases LV.mem.1 hb with hb | hb | hb | hb | hb | hb | hb | hb
  ·exact .inl (LV.mem.2 (.inl hb))
  ·exact .inl (LV.mem.2 (.inr (.inl hb)))
  ·exact .inl (LV.mem.2 (.inr (.inr (.inl hb))))
  ·exact zq113
  ·exact zq101
  ·exact .inl (LV.mem.2 (.inr (.inr (.inr (.inr (.inr (.inl hb)))))))
  ·exact .inl (LV.mem.2 (.inr (.inr (.inr (.inr (.inr (.inr (.inl hb))))))))
  ·exact (hb' b hb).imp (fun h1 => LV.mem.2 (.inr (.inr (.inr (.inr (.inr (.inr (.inr h1)))))))) id, hs.mono fun b hb => .inl (LV.mem.2 (.inr (.inr (.inr (.inr (.inr (.inr (.inr hb)))))))) ⟩
 have nT : ∀ b ∈ V.TA.blocks F.t, b ∉ V.A.blocks F.s := fun b hb hm => (ty.t b hb).no (ty.s b hm) (by decide)
 refine ⟨A', ⟨hs.get h.lb fun hb => ty.l.no (ty.s _ hb) (by decide), hs.get h.nbb fun hb => ty.nb.no (ty.s _ hb) (by decide), h.tbl.same hs nT,
  hk.move (M' := LV.blocks { V with A := A' } F) ⟨fun b hb => ?_, Ad.refl _ _⟩ (fun b hb => rfl) (fun b hb => LV.mem.2 (.inr (.inr (.inr (.inr (.inr (.inr (.inr hb)))))))),
  h.nums.same hs fun hb => ty.mn.no (ty.s _ hb) (by decide), h.finds.same hs fun hb => ty.mf.no (ty.s _ hb) (by decide), h.hyps.same hs fun hb => ty.mh.no (ty.s _ hb) (by decide), h.hin.imp fun _ _ => E0.move m,
  h.asr.same hs fun b hb hm => (ty.av b hb).no (ty.s b hm) (by decide), h.ain.imp fun _ _ => E5.move m, h.maps, h.mapt⟩, m⟩
 rcases LV.mem.1 hb with hb | hb | hb | hb | hb | hb | hb | hb
 ·exact .inl (List.mem_append_right _ (LV.mem.2 (.inl hb)))
 ·exact .inl (List.mem_append_right _ (LV.mem.2 (.inr (.inl hb))))
 ·exact .inl (List.mem_append_right _ (LV.mem.2 (.inr (.inr (.inl hb)))))
 ·exact .inl (List.mem_append_right _ (LV.mem.2 (.inr (.inr (.inr (.inl hb))))))
 ·exact .inl (List.mem_append_right _ (LV.mem.2 (.inr (.inr (.inr (.inr (.inl hb)))))))
 ·exact .inl (List.mem_append_right _ (LV.mem.2 (.inr (.inr (.inr (.inr (.inr (.inl hb))))))))
 ·exact .inl (List.mem_append_right _ (LV.mem.2 (.inr (.inr (.inr (.inr (.inr (.inr (.inl hb)))))))))
 ·exact .inl (List.mem_append_left _ hb)
theorem BR.setLabels {w w' : World} {F : LF} {V : LV} {L : Ld} (h : BR w F V L) {n : Nat} (hb : w'.heap[F.l]? = some (.cells #[.pointer (some ⟨F.nb, 0, none⟩), .pointer (some ⟨F.s, 0, none⟩), .int .i64 n] 92 (0, 0))) (hs : Ad [F.l] w w') :
  BR w' F V { L with labels := n } ∧ AN (V.blocks F) (V.blocks F) w w' := by
 have ty := h.ty
 have m : AN (V.blocks F) (V.blocks F) w w' := ⟨fun b hb => .inl hb, hs.mono fun b hb => .inl (LV.mem.2 (.inl (List.mem_singleton.1 hb)))⟩
 have no : ∀ {ts : List (Option TypeId)} {b : Nat}, Ty w ts b → (∀ t ∈ ts, t ∉ [some 92]) → b ∉ [F.l] := fun {ts b} hb hd hm => by
  have := List.mem_singleton.1 hm
  subst this
  exact hb.no ty.l hd
 exact ⟨⟨hb, hs.get h.nbb (no ty.nb (by decide)), h.tbl.same hs fun b hb => no (ty.t b hb) (by decide), h.stk.move m (fun b hb => hs.block b (h.stk.lt b hb) (no (ty.s b hb) (by decide))) h.stk.sub,
  h.nums.same hs (no ty.mn (by decide)), h.finds.same hs (no ty.mf (by decide)), h.hyps.same hs (no ty.mh (by decide)), h.hin.imp fun _ _ => E0.move m, h.asr.same hs fun b hb => no (ty.av b hb) (by decide), h.ain.imp fun _ _ => E5.move m, h.maps, h.mapt⟩, m⟩
theorem BR.setHyp {w w' : World} {F : LF} {V : LV} {L : Ld} (h : BR w F V L) (k : ByteArray) (x : Hy) {ev : Value} (hv : Ds w (V.blocks F) ev x.expr) (hm : BN w' F.mh (Bd k (.agg #[.string x.label, .bool x.floating, .int .i64 x.var, ev]) V.hm)) (hs : Ad [F.mh] w w') :
  BR w' F { V with hm := Bd k (.agg #[.string x.label, .bool x.floating, .int .i64 x.var, ev]) V.hm } { L with hyps := Bd k x L.hyps } ∧ AN (V.blocks F) (V.blocks F) w w' := by
 have ty := h.ty
 have m : AN (V.blocks F) (V.blocks F) w w' := ⟨fun b hb => .inl hb, hs.mono fun b hb => .inl (LV.mem.2 (.inr (.inr (.inr (.inr (.inl (List.mem_singleton.1 hb)))))))⟩
 have no : ∀ {ts : List (Option TypeId)} {b : Nat}, Ty w ts b → (∀ t ∈ ts, t ∉ [(none : Option TypeId)]) → b ∉ [F.mh] := fun {ts b} hb hd hm => by
  have := List.mem_singleton.1 hm
  subst this
  exact hb.no ty.mh hd
 exact ⟨⟨hs.get h.lb (no ty.l (by decide)), hs.get h.nbb (no ty.nb (by decide)), h.tbl.same hs fun b hb hm => (h.mapt b hb).2.2 (List.mem_singleton.1 hm), h.stk.move m (fun b hb => hs.block b (h.stk.lt b hb) (no (ty.s b hb) (by decide))) h.stk.sub,
  h.nums.same hs (by simpa using h.maps.2.1), h.finds.same hs (by simpa using h.maps.2.2), hm, P2 k ⟨rfl, ev, rfl, hv.move m⟩ (h.hin.imp fun _ _ => E0.move m), h.asr.same hs fun b hb => no (ty.av b hb) (by decide), h.ain.imp fun _ _ => E5.move m, h.maps, h.mapt⟩, m⟩
theorem BR.setFind {w w' : World} {F : LF} {V : LV} {L : Ld} (h : BR w F V L) {l : List (ByteArray × Nat)} (hm : BN w' F.mf (Cd l)) (hs : Ad [F.mf] w w') :
  BR w' F V { L with finds := l } ∧ AN (V.blocks F) (V.blocks F) w w' := by
 have ty := h.ty
 have m : AN (V.blocks F) (V.blocks F) w w' := ⟨fun b hb => .inl hb, hs.mono fun b hb => .inl (LV.mem.2 (.inr (.inr (.inr (.inl (List.mem_singleton.1 hb))))))⟩
 have no : ∀ {ts : List (Option TypeId)} {b : Nat}, Ty w ts b → (∀ t ∈ ts, t ∉ [(none : Option TypeId)]) → b ∉ [F.mf] := fun {ts b} hb hd hm => by
  have := List.mem_singleton.1 hm
  subst this
  exact hb.no ty.mf hd
 exact ⟨⟨hs.get h.lb (no ty.l (by decide)), hs.get h.nbb (no ty.nb (by decide)), h.tbl.same hs fun b hb hm => (h.mapt b hb).2.1 (List.mem_singleton.1 hm), h.stk.move m (fun b hb => hs.block b (h.stk.lt b hb) (no (ty.s b hb) (by decide))) h.stk.sub,
  h.nums.same hs (by simpa using h.maps.1), hm, h.hyps.same hs (by simpa using h.maps.2.2.symm), h.hin.imp fun _ _ => E0.move m, h.asr.same hs fun b hb => no (ty.av b hb) (by decide), h.ain.imp fun _ _ => E5.move m, h.maps, h.mapt⟩, m⟩
theorem BR.setAsr {w w1 : World} {F : LF} {V : LV} {L : Ld} (h : BR w F V L) (a : Asr) (p : AsP) {v1 : Value} (hr : Row w1 71 17 v1 (L.asserts.length + 1) (CN L.asserts V.aps ++ C1 a p)) (hs : Ad V.av.ownBlock.toList w w1)
  (ho : v1.ownBlock = V.av.ownBlock ∨ ∃ b, v1.ownBlock = some b ∧ w.heap.size ≤ b) (ha : E5 w (V.blocks F) a p) :
  BR (w1.setCell ⟨F.nb, 4, none⟩ v1) F { V with av := v1, aps := V.aps ++ [p] } { L with asserts := L.asserts ++ [a] } ∧ AN (V.blocks F) (LV.blocks { V with av := v1, aps := V.aps ++ [p] } F) w (w1.setCell ⟨F.nb, 4, none⟩ v1) := by
 have ty := h.ty
 have hlen := h.ain.len
 have hs2 : Ad (F.nb :: V.av.ownBlock.toList) w (w1.setCell ⟨F.nb, 4, none⟩ v1) := (hs.mono fun b hb => .inl (List.mem_cons_of_mem _ hb)).trans (Ad.setCell _ _ _ (by simp))
 have m : AN (V.blocks F) (LV.blocks { V with av := v1, aps := V.aps ++ [p] } F) w (w1.setCell ⟨F.nb, 4, none⟩ v1) := ⟨fun b hb => by
  rcases LV.mem.1 hb with hb | hb | hb | hb | hb | hb | hb | hb
  ·exact .inl (LV.mem.2 (.inl hb))
  ·exact .inl (LV.mem.2 (.inr (.inl hb)))
  ·exact .inl (LV.mem.2 (.inr (.inr (.inl hb))))
  ·exact zq113
  ·exact zq101
  ·dsimp only at hb
   rcases ho with ho | ⟨c, hc, hle⟩
   ·exact .inl (LV.mem.2 (.inr (.inr (.inr (.inr (.inr (.inl (ho ▸ hb))))))))
   ·rw [hc] at hb; cases hb; exact .inr hle
  ·exact .inl (LV.mem.2 (.inr (.inr (.inr (.inr (.inr (.inr (.inl hb))))))))
  ·exact .inl (LV.mem.2 (.inr (.inr (.inr (.inr (.inr (.inr (.inr hb)))))))), hs2.mono fun b hb => by
  rcases List.mem_cons.1 hb with rfl | hb
  ·exact .inl (LV.mem.2 (.inr (.inl rfl)))
  ·exact .inl (LV.mem.2 (.inr (.inr (.inr (.inr (.inr (.inl (Option.mem_toList.1 hb))))))))⟩
 have no : ∀ {ts : List (Option TypeId)} {b : Nat}, Ty w ts b → (∀ t ∈ ts, t ∉ [some 89, some 71]) → b ∉ F.nb :: V.av.ownBlock.toList := fun {ts b} hb hd hm => by
  rcases List.mem_cons.1 hm with rfl | hm
  ·exact hb.no ty.nb fun t ht h2 => hd t ht (by simp at h2; simp [h2])
  ·exact hb.no (ty.av b (Option.mem_toList.1 hm)) fun t ht h2 => hd t ht (by simp at h2; simp [h2])
 have hnav : F.nb ∉ V.av.ownBlock.toList := fun hm => ty.nb.no (ty.av _ (Option.mem_toList.1 hm)) (by decide)
 have hb1 := hs.get h.nbb hnav
 refine ⟨⟨hs2.get h.lb (no ty.l (by decide)), by have := AI hb1 4 v1; simpa using this, h.tbl.same hs2 fun b hb => no (ty.t b hb) (by decide), h.stk.move m (fun b hb => hs2.block b (h.stk.lt b hb) (no (ty.s b hb) (by decide))) (fun b hb => LV.mem.2 (.inr (.inr (.inr (.inr (.inr (.inr (.inr hb)))))))),
  h.nums.same hs2 (no ty.mn (by decide)), h.finds.same hs2 (no ty.mf (by decide)), h.hyps.same hs2 (no ty.mh (by decide)), h.hin.imp fun _ _ => E0.move m, ?_, (h.ain.imp fun _ _ => E5.move m).snoc (ha.move m), h.maps, h.mapt⟩, m⟩
 dsimp only
 rw [Ht _ _ _ _ hlen, List.length_append, List.length_singleton]
 refine hr.same (Ad.setCell w1 _ _ (S := [F.nb]) (by simp)) fun b hb hm => ?_
 have := List.mem_singleton.1 hm
 subst this
 exact hr.ne hb1 (by decide) hb
def E7 (M : List Nat) (t : Tk) (n : Nat) (w : World) (e : Ending) (w' : World) : Prop := ∃ b, e = .panicked [{ v := .iface 29 (.pointer (some ⟨b, 0, none⟩)), recovered := false }] ∧ CR w' (.pointer (some ⟨b, 0, none⟩)) (some ⟨t.at_, t.text, n⟩) ∧ Ad M w w'
theorem E7.after {M M' : List Nat} {t : Tk} {n : Nat} {w w1 w' : World} {e : Ending} (h : E7 M' t n w1 e w') (hm : AN M M' w w1) : E7 M t n w e w' := by
 obtain ⟨b, h1, h2, h3⟩ := h
 exact ⟨b, h1, h2, hm.same.then h3 hm.blocks⟩
def LdX (F : LF) (V : LV) (x : Ex Ld) (w : World) (e : Ending) (w' : World) : Prop := match x with
 | .ok L' => e = .returned (.tuple #[]) ∧ ∃ V', BR w' F V' L' ∧ AN (V.blocks F) (V'.blocks F) w w'
 | .error (t, n) => E7 (V.blocks F) t n w e w'
theorem LdX.after {F : LF} {V V1 : LV} {x : Ex Ld} {w w1 w' : World} {e : Ending} (h : LdX F V1 x w1 e w') (hm : AN (V.blocks F) (V1.blocks F) w w1) : LdX F V x w e w' := by
 unfold LdX at h ⊢
 match x, h with
 | .ok L', h => exact ⟨h.1, h.2.choose, h.2.choose_spec.1, hm.trans h.2.choose_spec.2⟩
 | .error (t, n), h => exact E7.after h hm
theorem BR.lr {w : World} {F : LF} {V : LV} {L : Ld} (h : BR w F V L) (hs : DO L.scs) : LR w F.l F.nb F.t F.s V.TA V.A (V.blocks F) L.tbl L.scs :=
 ⟨⟨Ai h.lb, Ai h.nbb, h.tbl⟩, Ai h.lb, h.stk, hs⟩
end Go.Proofs.YtbfbgfpghkijdaaGreatDoor
namespace Go.Proofs.YtbfbgfpghkijdaaGreatDoor
theorem G7 {T : Tbl} {s : ByteArray} (h : (T.label s).1 = 0) : (T.label s).2.labels.length = T.labels.length + 1 ∧ T.labels.length < 1024 := by
 unfold Tbl.label at h ⊢
 split at h
 ·simp at h
 ·split at h
  ·simp at h
  ·split at h
   ·simp at h
   ·rename_i h1 h2 h3
    rw [if_neg h1, if_neg h2, if_neg h3]
    exact ⟨by simp, by omega⟩
theorem LQ (T : Tbl) : T.openS.2.labels = T.labels := by unfold Tbl.openS; split <;> rfl
theorem LW (T : Tbl) : T.close.2.labels = T.labels := by unfold Tbl.close; split <;> rfl
theorem Fq (T : Tbl) (s : ByteArray) : (T.const s).2.2.labels = T.labels := by unfold Tbl.const; (repeat' split) <;> rfl
theorem GI (T : Tbl) (s : ByteArray) : (T.var s).2.2.labels = T.labels := by unfold Tbl.var; (repeat' split) <;> rfl
theorem PO {s : List Pr} {p x : Pr} : x ∈ Fk s p ↔ x ∈ s ∨ (p.1 ≠ p.2 ∧ x = BB p) := by
 unfold Fk
 split
 ·rename_i h; simp [h]
 ·rename_i h
  rw [HU]
  simp [h, or_comm]
theorem Iy {x : Pr} : ∀ (ps : List Pr) {s : List Pr}, x ∈ ps.foldl Fk s ↔ x ∈ s ∨ ∃ p ∈ ps, p.1 ≠ p.2 ∧ x = BB p
 | [], s => by simp
 | p :: ps, s => by
  rw [List.foldl_cons, Iy ps, PO]
  simp only [List.mem_cons, exists_eq_or_imp, or_assoc]
theorem E8 : ∀ (ps : List Pr) {s : List Pr}, CU s → CU (ps.foldl Fk s)
 | [], s, h => h
 | p :: ps, s, h => E8 ps (MC h)
theorem Kh {a b : List Pr} {x : Pr} : x ∈ Bw a b ↔ (∃ p ∈ a, p.1 ≠ p.2 ∧ x = BB p) ∨ ∃ p ∈ b, p.1 ≠ p.2 ∧ x = BB p := by
 unfold Bw
 rw [Iy, Iy]
 simp
theorem Km (a b : List Pr) : CU (Bw a b) := E8 _ (E8 _ (by simp [CU]))
theorem FH (p : Pr) : BB (BB p) = BB p := by
 unfold BB
 split
 ·rename_i h
  rw [if_neg (by dsimp only; omega)]
 ·rfl
theorem MJ {p : Pr} (h : p.1 ≠ p.2) : (BB p).1 ≠ (BB p).2 := by
 unfold BB
 split
 ·exact fun e => h e.symm
 ·exact h
theorem IE {x : Pr} : ∀ (k : Nat) (l : List Sc), l.length = k → (x ∈ AL l ↔ ∃ sc ∈ l, ∃ p ∈ sc.pairs, p.1 ≠ p.2 ∧ x = BB p)
 | 0, l, hl => by
  have : l = [] := List.eq_nil_of_length_eq_zero hl
  subst this
  simp [AL]
 | k + 1, l, hl => by
  obtain ⟨i, y, rfl⟩ : ∃ i y, l = i ++ [y] := by
   have hne : l ≠ [] := by intro he; rw [he] at hl; simp at hl
   exact ⟨l.dropLast, l.getLast hne, (List.dropLast_concat_getLast hne).symm⟩
  rw [HF, Kh]
  simp only [List.length_append, List.length_singleton, Nat.add_right_cancel_iff] at hl
  have ih : ∀ x, x ∈ AL i ↔ _ := fun x => IE (x := x) k i hl
  constructor
  ·rintro (⟨p, hp, h1, h2⟩ | ⟨p, hp, h1, h2⟩)
   ·obtain ⟨sc, h3, q, h4, h5, rfl⟩ := (ih p).1 hp
    exact ⟨sc, List.mem_append_left _ h3, q, h4, h5, by rw [h2, FH]⟩
   ·exact ⟨y, by simp, p, hp, h1, h2⟩
  ·rintro ⟨sc, h3, q, h4, h5, h6⟩
   rcases List.mem_append.1 h3 with h3 | h3
   ·exact .inl ⟨BB q, (ih _).2 ⟨sc, h3, q, h4, h5, rfl⟩, MJ h5, by rw [h6, FH]⟩
   ·simp at h3
    subst h3
    exact .inr ⟨q, h4, h5, h6⟩
theorem PC {s : List Sc} {sc : Sc} (hs : sc ∈ s) (m : List Pr) : (Bw sc.pairs m).length ≤ (Bw (AL s) m).length := by
 refine (DZ (Km sc.pairs m)).length_le_of_subset fun x hx => ?_
 rw [Kh] at hx ⊢
 rcases hx with ⟨p, hp, h1, h2⟩ | h
 ·exact .inl ⟨BB p, (IE _ s rfl).2 ⟨sc, hs, p, hp, h1, rfl⟩, MJ h1, by rw [h2, FH]⟩
 ·exact .inr h
theorem KU (f : Sc → Sc) : ∀ (l : List Sc) (x : Sc), Dm f (l ++ [x]) = l ++ [f x]
 | [], x => rfl
 | [y], x => rfl
 | y :: z :: l, x => by
  have := KU f (z :: l) x
  simp only [List.cons_append, Dm] at this ⊢
  rw [this]
theorem Ct (a b : List Sc) : AK (a ++ b) = AK a ++ AK b := by simp [AK]
structure Ld.Ok (L : Ld) : Prop where
 tbl : L.tbl.Ok
 lab : L.labels = L.tbl.labels.length
 hyps : (AK L.scs).length ≤ L.labels
 sc : ∀ sc ∈ L.scs, sc.pairs.length ≤ 256 ∧ ∀ h ∈ sc.hyps, h.expr.length ≤ 200
 asr : L.asserts.length ≤ L.labels
 ne : L.scs ≠ []
theorem Ld.Ok.le {L : Ld} (h : L.Ok) : L.labels ≤ 1024 := by rw [h.lab]; exact h.tbl.labels
theorem G0 {l : List Sc} {sc : Sc} (h : sc ∈ l) : sc.hyps.length ≤ (AK l).length := by
 obtain ⟨a, b, rfl⟩ := List.append_of_mem h
 rw [Ct]
 simp [AK]
 omega
theorem Ld.Ok.small {L : Ld} (h : L.Ok) : DO L.scs := fun sc hsc => by
 have h1 := G0 hsc
 have h2 := h.hyps
 have h3 := h.le
 obtain ⟨h4, h5⟩ := h.sc sc hsc
 exact ⟨by omega, by omega, fun x hx => by have := h5 x hx; omega⟩
theorem Ld.Ok.new : Ld.new.Ok := ⟨Tbl.Ok.empty, rfl, by simp [Ld.new, AK], by simp [Ld.new], by simp [Ld.new], by simp [Ld.new]⟩
theorem Ld.Ok.setTbl {L : Ld} (h : L.Ok) {T : Tbl} (hT : T.Ok) (hl : T.labels = L.tbl.labels) : Ld.Ok { L with tbl := T } := ⟨hT, by rw [hl]; exact h.lab, h.hyps, h.sc, h.asr, h.ne⟩
theorem Ld.Ok.openB {L : Ld} (h : L.Ok) : Ld.Ok { L with scs := EH L.scs } := by
 unfold EH
 split
 ·exact h
 ·refine ⟨h.tbl, h.lab, by dsimp only; rw [Ct]; simpa [AK] using h.hyps, fun sc hsc => ?_, h.asr, by simp⟩
  rcases List.mem_append.1 hsc with hsc | hsc
  ·exact h.sc sc hsc
  ·simp at hsc; subst hsc; simp
theorem Ld.Ok.closeB {L : Ld} (h : L.Ok) : Ld.Ok { L with scs := Dz L.scs } := by
 unfold Dz
 split
 ·exact h
 ·rename_i hn
  refine ⟨h.tbl, h.lab, ?_, fun sc hsc => h.sc sc (List.dropLast_subset _ hsc), h.asr, ?_⟩
  ·have h1 := h.hyps
   have h2 := congrArg AK (List.dropLast_concat_getLast h.ne)
   rw [Ct] at h2
   have h3 := congrArg List.length h2
   rw [List.length_append] at h3
   dsimp only
   omega
  ·intro he
   have : L.scs.dropLast.length = 0 := by dsimp only at he; rw [he]; rfl
   simp at this
   omega
theorem GW {L : List Sc} (h : L ≠ []) (f : Sc → Sc) : ∃ i x, L = i ++ [x] ∧ Dm f L = i ++ [f x] :=
 ⟨L.dropLast, L.getLast h, (List.dropLast_concat_getLast h).symm, by
  conv => lhs; rw [← List.dropLast_concat_getLast h]
  exact KU _ _ _⟩
theorem Ld.Ok.dist {L : Ld} (h : L.Ok) (vars : Int → Bool) (l : List Int) : Ld.Ok { L with scs := (Cj vars L.scs l).2 } := by
 unfold Cj
 split
 ·exact h
 ·split
  ·exact h
  ·split
   ·exact h
   ·split
    ·exact h
    ·rename_i hlt
     obtain ⟨i, x, hL, ho⟩ := GW h.ne (fun x => { x with pairs := Bw x.pairs (FM l) })
     have hx := PC (s := L.scs) (sc := x) (by rw [hL]; simp) (FM l)
     refine ⟨h.tbl, h.lab, ?_, ?_, h.asr, ?_⟩
     ·dsimp only
      rw [ho, Ct]
      have := h.hyps
      rw [hL, Ct] at this
      simpa [AK] using this
     ·dsimp only
      rw [ho]
      intro sc hsc
      rcases List.mem_append.1 hsc with hsc | hsc
      ·exact h.sc sc (by rw [hL]; exact List.mem_append_left _ hsc)
      ·simp at hsc
       subst hsc
       exact ⟨by dsimp only; omega, (h.sc x (by rw [hL]; simp)).2⟩
     ·dsimp only; rw [ho]; simp
theorem Ld.Ok.decl {L : Ld} (h : L.Ok) (x : Hy) (hx : x.expr.length ≤ 200) {T : Tbl} (hT : T.Ok) (hl : T.labels.length = L.tbl.labels.length + 1) (m : List (ByteArray × Hy)) : Ld.Ok { L with scs := FE L.scs x, labels := L.labels + 1, tbl := T, hyps := m } := by
 unfold FE
 obtain ⟨i, y, hL, ho⟩ := GW h.ne (fun y => { y with hyps := y.hyps ++ [x] })
 refine ⟨hT, by dsimp only; rw [hl, h.lab], ?_, ?_, by have := h.asr; dsimp only; omega, ?_⟩
 ·dsimp only
  rw [ho, Ct]
  have := h.hyps
  rw [hL, Ct] at this
  simp [AK] at this ⊢
  omega
 ·dsimp only
  rw [ho]
  intro sc hsc
  rcases List.mem_append.1 hsc with hsc | hsc
  ·exact h.sc sc (by rw [hL]; exact List.mem_append_left _ hsc)
  ·simp at hsc
   subst hsc
   have := h.sc y (by rw [hL]; simp)
   refine ⟨this.1, fun z hz => ?_⟩
   rcases List.mem_append.1 hz with hz | hz
   ·exact this.2 z hz
   ·simp at hz; subst hz; exact hx
 ·dsimp only; rw [ho]; simp
theorem Ld.Ok.lab1 {L : Ld} (h : L.Ok) {T : Tbl} (hT : T.Ok) (hl : T.labels.length = L.tbl.labels.length + 1) (m : List (ByteArray × Hy)) : Ld.Ok { L with labels := L.labels + 1, tbl := T, hyps := m } :=
 ⟨hT, by dsimp only; rw [hl, h.lab], by have := h.hyps; dsimp only; omega, h.sc, by have := h.asr; dsimp only; omega, h.ne⟩
theorem AO {α β : Type} {x : Ex α} {f : α → Ex β} {b : β} (h : x.bind f = .ok b) : ∃ a, x = .ok a ∧ f a = .ok b := by
 cases x with
 | error e => cases h
 | ok a => exact ⟨a, rfl, h⟩
theorem E6 {t : Tk} {e : Nat} {u : Unit} (h : Bl t e = .ok u) : e = 0 := by
 unfold Bl at h
 split at h
 ·assumption
 ·cases h
theorem Cs (L : Ld) : ∀ (ws : List Tk) (e r : List Int), e.length ≤ 200 → L.exprGo ws e = .ok r → r.length ≤ 200
 | [], e, r, he, h => by rw [Ld.exprGo] at h; cases h; exact he
 | w :: ws, e, r, he, h => by
  rw [Ld.exprGo] at h
  split at h
  ·cases h
  ·rename_i hne
   obtain ⟨n, -, h⟩ := AO h
   have hl : (e ++ [n]).length ≤ 200 := by simp; omega
   split at h
   ·split at h
    ·cases h
    ·split at h
     ·exact Cs L ws _ r hl h
     ·cases h
   ·exact Cs L ws _ r hl h
theorem zq118 {P : Prop} (h : P := by
 obtain ⟨n, -, h⟩ := AO h
 split at h
 ·cases h
 ·have := EE L ws _ r h
  simp at this ⊢
  omega) : P := h
theorem EE (L : Ld) : ∀ (ws : List Tk) (e r : List Int), L.floatGo ws e = .ok r → r.length = e.length + ws.length
 | [], e, r, h => by rw [Ld.floatGo] at h; cases h; simp
 | w :: ws, e, r, h => by
  rw [Ld.floatGo] at h
  split at h
  ·rename_i he
   subst he
   exact zq118
  ·exact zq118
def St.Good (s : St) : Prop := s.kind = 3 → s.whole = true → s.words.length = 2
theorem JZ : ∀ (ws : List Tk) {L L' : Ld}, L.Ok → L.constGo ws = .ok L' → L'.Ok
 | [], L, L', h, hx => by rw [Ld.constGo] at hx; cases hx; exact h
 | w :: ws, L, L', h, hx => by
  rw [Ld.constGo] at hx
  obtain ⟨_, -, hx⟩ := AO hx
  exact JZ ws (h.setTbl (h.tbl.const w.text) (Fq _ _)) hx
theorem Ms : ∀ (ws : List Tk) {L L' : Ld}, L.Ok → L.varGo ws = .ok L' → L'.Ok
 | [], L, L', h, hx => by rw [Ld.varGo] at hx; cases hx; exact h
 | w :: ws, L, L', h, hx => by
  rw [Ld.varGo] at hx
  obtain ⟨_, -, hx⟩ := AO hx
  exact Ms ws (h.setTbl (h.tbl.var w.text) (GI _ _)) hx
theorem EI {L M : Ld} (h : L.Ok) {s : St} {x : Hy} (hx : L.hyp s x = .ok M) : M.Ok ∧ M.tbl = (L.tbl.label x.label).2 ∧ M.scs = L.scs ∧ (L.tbl.label x.label).1 = 0 ∧ M = { L with labels := L.labels + 1, tbl := (L.tbl.label x.label).2, hyps := Bd x.label x L.hyps } := by
 unfold Ld.hyp at hx
 obtain ⟨_, h1, hx⟩ := AO hx
 have h0 := E6 h1
 cases hx
 exact ⟨h.lab1 (h.tbl.label _) (G7 h0).1 _, rfl, rfl, h0, rfl⟩
theorem N3 {L L' : Ld} (h : L.Ok) {s : St} (hg : s.Good) (hx : L.act s = .ok L') : L'.Ok := by
 unfold Ld.act at hx
 split at hx
 ·obtain ⟨_, -, hx⟩ := AO hx
  cases hx
  exact (h.setTbl h.tbl.openS (LQ _)).openB
 ·split at hx
  ·obtain ⟨_, -, hx⟩ := AO hx
   cases hx
   exact (h.setTbl h.tbl.close (LW _)).closeB
  ·split at hx
   ·split at hx
    ·cases hx
    ·exact JZ _ h hx
   ·split at hx
    ·exact Ms _ h hx
    ·split at hx
     ·obtain ⟨v, -, hx⟩ := AO hx
      split at hx
      ·obtain ⟨_, -, hx⟩ := AO hx
       cases hx
       exact h.dist _ _
      ·cases hx; exact h
     ·split at hx
      ·obtain ⟨e, he, hx⟩ := AO hx
       split at hx
       ·obtain ⟨M, hM, hx⟩ := AO hx
        obtain ⟨_, h1, hx⟩ := AO hx
        have h0 := E6 h1
        cases hx
        obtain ⟨h2, h3, h4, h5, rfl⟩ := EI h hM
        unfold BW at h0 ⊢
        split at h0
        ·simp at h0
        ·split at h0
         ·simp at h0
         ·split at h0
          ·simp at h0
          ·rename_i a b c
           rw [if_neg a, if_neg b, if_neg c]
           exact h.decl _ (by simp) (h.tbl.label _) (G7 h5).1 _
       ·cases hx; exact h
      ·split at hx
       ·obtain ⟨e, he, hx⟩ := AO hx
        split at hx
        ·obtain ⟨M, hM, hx⟩ := AO hx
         obtain ⟨_, h1, hx⟩ := AO hx
         have h0 := E6 h1
         cases hx
         obtain ⟨h2, h3, h4, h5, rfl⟩ := EI h hM
         unfold Fw at h0 ⊢
         split at h0
         ·rename_i a
          exact absurd h0 a
         ·rename_i a
          rw [if_neg a]
          exact h.decl _ (Cs L _ _ _ (by simp) he) (h.tbl.label _) (G7 h5).1 _
        ·cases hx; exact h
       ·split at hx
        ·obtain ⟨e, he, hx⟩ := AO hx
         split at hx
         ·unfold Ld.assert at hx
          dsimp only at hx
          obtain ⟨_, -, hx⟩ := AO hx
          obtain ⟨_, h1, hx⟩ := AO hx
          have h0 := E6 h1
          cases hx
          exact ⟨h.tbl.label _, by dsimp only; rw [(G7 h0).1, h.lab], by have := h.hyps; dsimp only; omega, h.sc, by have := h.asr; simp; omega, h.ne⟩
         ·cases hx; exact h
        ·cases hx; exact h
theorem QZ {L L' : Ld} (h : L.Ok) {s : St} (hg : s.Good) (hx : L.take s = .ok L') : L'.Ok := by
 unfold Ld.take at hx
 split at hx
 ·obtain ⟨_, -, hx⟩ := AO hx
  exact N3 h hg hx
 ·exact N3 h hg hx
end Go.Proofs.YtbfbgfpghkijdaaGreatDoor
