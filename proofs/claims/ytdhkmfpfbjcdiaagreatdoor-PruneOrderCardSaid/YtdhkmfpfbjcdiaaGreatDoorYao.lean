/- lemmalaw texts, part 15. -/
import Derived.Test.YtdhkmfpfbjcdiaaGreatDoorYan
set_option maxRecDepth 100000
set_option linter.unusedVariables false
set_option linter.unusedSimpArgs false
set_option maxHeartbeats 32000000
namespace Go.Proofs.YtdhkmfpfbjcdiaaGreatDoor
open Go.RowKit
def hyCells : List Hy → List Value → List Value
 | h :: l, v :: m => [.string h.label, .bool h.floating, .int .i64 h.var, v] ++ hyCells l m
 | _, _ => []
theorem hyCells_snoc (h : Hy) (v : Value) : ∀ (l : List Hy) (m : List Value), m.length = l.length → hyCells (l ++ [h]) (m ++ [v]) = hyCells l m ++ [.string h.label, .bool h.floating, .int .i64 h.var, v]
 | [], [], _ => by simp [hyCells]
 | x :: l, y :: m, e => by simp [hyCells, hyCells_snoc h v l m (by simpa using e)]
 | [], _ :: _, e => by simp at e
 | _ :: _, [], e => by simp at e
theorem hyCells_at : ∀ (l : List Hy) (m : List Value) (k : Nat) (h : k < l.length) (h2 : k < m.length), ((hyCells l m).drop (k * 4)).take 4 = [.string l[k].label, .bool l[k].floating, .int .i64 l[k].var, m[k]]
 | x :: l, y :: m, 0, _, _ => by simp [hyCells]
 | x :: l, y :: m, k + 1, h, h2 => by
  have := hyCells_at l m k (by simpa using h) (by simpa using h2)
  rw [show (k + 1) * 4 = 4 + k * 4 by omega, ← List.drop_drop]
  have e : (hyCells (x :: l) (y :: m)).drop 4 = hyCells l m := by simp [hyCells]
  rw [e]
  simpa using this
structure HypsIn (w : World) (M : List Nat) (v : Value) (evs : List Value) (l : List Hy) : Prop where
 row : Row w 150 4 v l.length (hyCells l evs)
 exprs : All2 (fun h ev => Ints w M ev h.expr) l evs
 flo : ∀ h ∈ l, h.floating = true → h.expr ≠ []
theorem HypsIn.move {w w' : World} {M M' : List Nat} (m : Move M M' w w') {v : Value} {evs : List Value} {l : List Hy} (h : HypsIn w M v evs l) (hv : ∀ b, v.ownBlock = some b → w'.heap[b]? = w.heap[b]?) : HypsIn w' M' v evs l := by
 refine ⟨⟨h.row.1, ?_⟩, h.exprs.imp (fun _ _ hx => Fix.move hx m), h.flo⟩
 rcases h.row.2 with h1 | ⟨g, cap, cur, rfl, h2, h3, h4⟩
 ·exact .inl h1
 ·exact .inr ⟨g, cap, cur, rfl, h2, (hv g rfl).trans h3, h4⟩
theorem HypsIn.same {w w' : World} {M : List Nat} {v : Value} {evs : List Value} {l : List Hy} (h : HypsIn w M v evs l) (hs : Same [] w w') : HypsIn w' M v evs l := h.move (Move.of_same hs) (fun b hb => hs.block b (h.row.lt hb) (by simp))
theorem HypsIn.at {w : World} {M : List Nat} {v : Value} {evs : List Value} {l : List Hy} (h : HypsIn w M v evs l) {k : Nat} (hk : k < l.length) :
  ∃ g c ev, v = .slice (some ⟨g, 0, none⟩) l.length c ∧ evs[k]? = some ev ∧ Ints w M ev l[k].expr ∧ w.cell? ⟨g, k * 4, none⟩ = some (.string l[k].label) ∧ w.cell? ⟨g, k * 4 + 1, none⟩ = some (.bool l[k].floating) ∧ w.cell? ⟨g, k * 4 + 2, none⟩ = some (.int .i64 l[k].var) ∧ w.cell? ⟨g, k * 4 + 3, none⟩ = some ev ∧ g < w.heap.size := by
 have hel : k < evs.length := by rw [h.exprs.len]; exact hk
 obtain ⟨ev, hev, hin⟩ := h.exprs.get (List.getElem?_eq_getElem hk)
 have he : evs[k] = ev := by rw [List.getElem?_eq_getElem hel] at hev; exact Option.some.inj hev
 have h4 := hyCells_at l evs k hk hel
 obtain ⟨g, c, hv, hcell⟩ := h.row.elem hk (ys := [.string l[k].label, .bool l[k].floating, .int .i64 l[k].var, evs[k]]) rfl h4 (by decide)
 refine ⟨g, c, ev, hv, hev, hin, (hcell 0 (by decide)).1, (hcell 1 (by decide)).1, (hcell 2 (by decide)).1, by rw [← he]; exact (hcell 3 (by decide)).1, World.block_lt_of_cell? _ _ (hcell 0 (by decide)).1⟩
structure ScP where
 hv : Value
 pv : Value
 evs : List Value
structure ScIn (w : World) (M : List Nat) (sc : Sc) (p : ScP) : Prop where
 hyps : HypsIn w M p.hv p.evs sc.hyps
 pairs : Fix w M 113 2 p.pv sc.pairs.length (prCells sc.pairs)
structure SA where
 vs : Value
 inner : List ScP
def scCells (l : List ScP) : List Value := l.flatMap fun p => [p.hv, p.pv]
def SA.blocks (A : SA) (s : Nat) : List Nat := s :: (A.vs.ownBlock.toList ++ A.inner.flatMap fun p => p.hv.ownBlock.toList)
def fnV (t : Nat) : Value := .func (.func 27) #[.pointer (some ⟨t, 0, none⟩)] #[]
structure StkAt (w : World) (s t : Nat) (A : SA) (M : List Nat) (scs : List Sc) : Prop where
 blk : w.heap[s]? = some (.cells #[fnV t, A.vs] 131 (0, 0))
 row : Row w 203 2 A.vs scs.length (scCells A.inner)
 inn : All2 (ScIn w M) scs A.inner
 sub : ∀ b ∈ A.blocks s, b ∈ M
 apart : ∀ (i j : Nat) (p q : ScP) (b : Nat), A.inner[i]? = some p → A.inner[j]? = some q → p.hv.ownBlock = some b → q.hv.ownBlock = some b → i = j
 len : scs.length ≤ 17
 ne : scs ≠ []
theorem StkAt.facts {w : World} {s t : Nat} {A : SA} {M : List Nat} {scs : List Sc} (h : StkAt w s t A M scs) : ∃ As cs, A.vs = .slice As scs.length cs ∧ w.cell? ⟨s, 0, none⟩ = some (fnV t) ∧ w.cell? ⟨s, 1, none⟩ = some (.slice As scs.length cs) ∧ (∀ i, w.frozen? ⟨s, i, none⟩ = false) ∧ s < w.heap.size := by
 obtain ⟨As, cs, hv⟩ := h.row.shape
 exact ⟨As, cs, hv, blk_c h.blk, by rw [blk_cell h.blk, hv]; rfl, blk_free h.blk, blk_lt h.blk⟩
theorem StkAt.same {w w' : World} {s t : Nat} {A : SA} {M : List Nat} {scs : List Sc} (h : StkAt w s t A M scs) (hs : Same [] w w') : StkAt w' s t A M scs :=
 ⟨hs.get h.blk (by simp), h.row.same hs (by simp), h.inn.imp (fun sc p hp => ⟨hp.hyps.move (Move.of_same hs) (fun b hb => hs.block b (hp.hyps.row.lt hb) (by simp)), hp.pairs.move (Move.of_same hs)⟩), h.sub, h.apart, h.len, h.ne⟩
theorem scCells_at : ∀ (l : List ScP) (k : Nat) (h : k < l.length), ((scCells l).drop (k * 2)).take 2 = [l[k].hv, l[k].pv]
 | x :: l, 0, _ => by simp [scCells]
 | x :: l, k + 1, h => by
  have := scCells_at l k (by simpa using h)
  rw [show (k + 1) * 2 = 2 + k * 2 by omega, ← List.drop_drop]
  have e : (scCells (x :: l)).drop 2 = scCells l := by simp [scCells]
  rw [e]
  simpa using this
theorem StkAt.scope {w : World} {s t : Nat} {A : SA} {M : List Nat} {scs : List Sc} (h : StkAt w s t A M scs) {k : Nat} (hk : k < scs.length) :
  ∃ g c p, A.vs = .slice (some ⟨g, 0, none⟩) scs.length c ∧ A.inner[k]? = some p ∧ ScIn w M scs[k] p ∧ w.cell? ⟨g, k * 2, none⟩ = some p.hv ∧ w.cell? ⟨g, k * 2 + 1, none⟩ = some p.pv ∧ (∀ i, w.frozen? ⟨g, i, none⟩ = false) ∧ g < w.heap.size := by
 have hl : k < A.inner.length := by rw [h.inn.len]; exact hk
 obtain ⟨p, hp, hin⟩ := h.inn.get (List.getElem?_eq_getElem hk)
 have hpe : A.inner[k] = p := by rw [List.getElem?_eq_getElem hl] at hp; exact Option.some.inj hp
 obtain ⟨g, c, hv, hc⟩ := h.row.elem hk (ys := [p.hv, p.pv]) rfl (by rw [scCells_at _ _ hl, hpe]) (by decide)
 have h0 := hc 0 (by decide)
 have h1 := hc 1 (by decide)
 refine ⟨g, c, p, hv, hp, hin, h0.1, h1.1, ?_, World.block_lt_of_cell? _ _ h0.1⟩
 have hr := h.row
 rw [hv] at hr
 obtain ⟨cur, hg⟩ := hr.blk
 exact blk_free hg
theorem Depth_calls (w : World) (s t : Nat) (A : SA) (M : List Nat) (scs : List Sc) (h : StkAt w s t A M scs) : Calls Tryz.prog 117 #[.pointer (some ⟨s, 0, none⟩)] w fun e w' => e = .returned (.int .i64 ((scs.length : Int) - 1)) ∧ w = w' := by
 obtain ⟨As, cs, hv, c0, c1, cf, hl⟩ := h.facts
 have hlen := h.len
 clear h hv
 go_enter Tryz.func117, Tryz.ntmps117
 go_wp2
 go_ret
 exact ⟨rfl, rfl⟩
theorem headD_eq : ∀ (l : List Int) (h : 0 < l.length), l.headD 0 = l[0]
 | _ :: _, _ => rfl
theorem typeOf_drop (l : List Hy) (v : Int) (k : Nat) (hk : k < l.length) : typeOf (l.drop k) v = if l[k].floating = true ∧ l[k].var = v then some (l[k].expr.headD 0) else typeOf (l.drop (k + 1)) v := by
 rw [List.drop_eq_getElem_cons hk, typeOf]
def TypeR (o : Option Int) (w : World) (e : Ending) (w' : World) : Prop := e = .returned (.tuple #[.int .i64 (o.getD 0), .bool o.isSome]) ∧ Same [] w w'
def TypeI (w : World) (l : List Hy) (v : Int) (u : Value) (W : World) : Prop := ∃ k : Nat, k ≤ l.length ∧ u = .int .i64 k ∧ Same [] w W ∧ typeOf l v = typeOf (l.drop k) v
theorem typeOf_calls (w : World) (g o : Nat) (M : List Nat) (hv : Value) (evs : List Value) (l : List Hy) (h : HypsIn w M hv evs l) (hc : w.cell? ⟨g, o, none⟩ = some hv) (v : Int) (hn : l.length ≤ 1000000) :
  Calls Tryz.prog 161 #[.pointer (some ⟨g, o, none⟩), .int .i64 v] w (TypeR (typeOf l v) w) := by
 obtain ⟨Ah, ch, rfl⟩ := h.row.shape
 have H := Kd h
 clear h
 go_enter Tryz.func161, Tryz.ntmps161
 go_wp2
 have h0 : TypeI w l v (.int .i64 0) w := ⟨0, Nat.zero_le _, rfl, Same.refl _ _, rfl⟩
 have H0 := Kd h0
 clear h0
 go_loopw [13] (fun u wr => TypeI w l v u wr) (fun u _ => l.length - (intOf u).toNat)
 case atStart => exact H0.out
 case round =>
  obtain ⟨k, hk, rfl, hsm, heq⟩ := hrel
  by_cases hlt : k < l.length
  ·obtain ⟨g2, c2, ev, hv2, hev, hints, t0, t1, t2, t3, hgl⟩ := (H.out.same hsm).at hlt
   cases hv2
   obtain ⟨Ae, ce, rfl⟩ := hints.row.shape
   have hstep := typeOf_drop l v k hlt
   have Hsm := Kd hsm
   by_cases hf : l[k].floating = true ∧ l[k].var = v
   ·rw [if_pos hf] at hstep
    obtain ⟨hf1, hf2⟩ := hf
    have hne := H.out.flo l[k] (List.getElem_mem hlt) hf1
    have hpos : 0 < l[k].expr.length := List.length_pos_iff.2 hne
    obtain ⟨ge, ce', hve, s0, hgel⟩ := ints_cell hints.row hpos
    cases hve
    have hhd : l[k].expr.headD 0 = l[k].expr[0] := headD_eq _ hpos
    have Hres : Hid (typeOf l v = some l[k].expr[0]) := Kd (by rw [heq, hstep, hhd])
    rw [hf1] at t1
    rw [hf2] at t2
    clear hstep hf1 hf2 hne hhd heq hsm hints H0
    go_wp2
    go_ret2
    rw [TypeR, Hres.out]
    exact ⟨rfl, Hsm.out.trans (Same.alloc _ _ _)⟩
   ·rw [if_neg hf] at hstep
    have Hres := Kd (heq.trans hstep)
    cases hfl : l[k].floating with
    | false =>
     rw [hfl] at t1
     clear hstep heq hsm hints H0 hf hfl
     go_wp2
     go_roundw
     case rel => exact ⟨k + 1, hlt, by go_num, Hsm.out.trans (Same.alloc _ _ _), Hres.out⟩
     case measure => simp [intOf]; omega
    | true =>
     have hv3 : (l[k].var == v) = false := by
      rw [beq_eq_false_iff_ne]
      exact fun e => hf ⟨hfl, e⟩
     rw [hfl] at t1
     clear hstep heq hsm hints H0 hf hfl
     go_wp2
     go_roundw
     case rel => exact ⟨k + 1, hlt, by go_num, Hsm.out.trans (Same.alloc _ _ _), Hres.out⟩
     case measure => simp [intOf]; omega
  ·have hkk : k = l.length := by omega
   subst hkk
   rw [List.drop_length] at heq
   have Heq := Kd heq
   have Hsm := Kd hsm
   clear heq hsm H0
   go_wp2
   go_ret2
   rw [TypeR, Heq.out]
   exact ⟨rfl, Hsm.out⟩
theorem typeS_drop (l : List Sc) (v : Int) (k : Nat) (hk : k < l.length) : typeS (l.drop k) v = match typeOf l[k].hyps v with | some t => some t | none => typeS (l.drop (k + 1)) v := by
 rw [List.drop_eq_getElem_cons hk, typeS]
 cases typeOf l[k].hyps v <;> rfl
def Small (scs : List Sc) : Prop := ∀ sc ∈ scs, sc.hyps.length ≤ 100000 ∧ sc.pairs.length ≤ 1000 ∧ ∀ h ∈ sc.hyps, h.expr.length ≤ 1000
def TypeSI (w : World) (scs : List Sc) (v : Int) (u : Value) (W : World) : Prop := ∃ k : Nat, k ≤ scs.length ∧ u = .int .i64 k ∧ Same [] w W ∧ typeS scs v = typeS (scs.drop k) v
theorem Type_calls (w : World) (s t : Nat) (A : SA) (M : List Nat) (scs : List Sc) (h : StkAt w s t A M scs) (hsm : Small scs) (v : Int) : Calls Tryz.prog 131 #[.pointer (some ⟨s, 0, none⟩), .int .i64 v] w (TypeR (typeS scs v) w) := by
 obtain ⟨As, cs, hv, c0, c1, cf, hl⟩ := h.facts
 have hlen := h.len
 have H := Kd h
 have Hv := Kd hv
 have Hsml := Kd hsm
 clear h hv hsm
 go_enter Tryz.func131, Tryz.ntmps131
 go_wp2
 have h0 : TypeSI w scs v (.int .i64 0) w := ⟨0, Nat.zero_le _, rfl, Same.refl _ _, rfl⟩
 have H0 := Kd h0
 clear h0
 go_loopw [14] (fun u wr => TypeSI w scs v u wr) (fun u _ => scs.length - (intOf u).toNat)
 case atStart => exact H0.out
 case round =>
  obtain ⟨k, hk, rfl, hsm, heq⟩ := hrel
  by_cases hlt : k < scs.length
  ·have Hk := Kd (H.out.same hsm)
   obtain ⟨As', cs', hv', -, d1, df, hl'⟩ := Hk.out.facts
   obtain ⟨g, c, p, hvs, hp, hin, s0, s1, sf, hgl⟩ := Hk.out.scope hlt
   rw [hvs] at hv'
   cases hv'
   have hstep := typeS_drop scs v k hlt
   have htc := typeOf_calls wr g (k * 2) M p.hv p.evs scs[k].hyps hin.hyps s0 v (by have := (Hsml.out scs[k] (List.getElem_mem hlt)).1; omega)
   have Hsm := Kd hsm
   cases hty : typeOf scs[k].hyps v with
   | some ty =>
    rw [hty] at hstep htc
    unfold TypeR at htc
    dsimp only [Option.getD, Option.isSome] at htc hstep
    have Hres := Kd (heq.trans hstep)
    clear hstep heq hsm hin hvs hp hty H0
    go_wp2_with (go_at_call 161; refine htc.mono ?_; rintro e W3 ⟨rfl, hs3⟩)
    go_ret2
    rw [TypeR, Hres.out]
    exact ⟨rfl, Hsm.out.trans hs3⟩
   | none =>
    rw [hty] at hstep htc
    unfold TypeR at htc
    dsimp only [Option.getD, Option.isSome] at htc hstep
    have Hres := Kd (heq.trans hstep)
    clear hstep heq hsm hin hvs hp hty H0
    go_wp2_with (go_at_call 161; refine htc.mono ?_; rintro e W3 ⟨rfl, hs3⟩; have Hs3 := Kd hs3; clear hs3)
    go_roundw
    case rel => exact ⟨k + 1, hlt, by go_num, Hsm.out.trans Hs3.out, Hres.out⟩
    case measure => simp [intOf]; omega
  ·have hkk : k = scs.length := by omega
   subst hkk
   rw [List.drop_length] at heq
   have Heq := Kd heq
   have Hsm := Kd hsm
   clear heq hsm H0
   go_wp2
   go_ret2
   rw [TypeR, Heq.out]
   exact ⟨rfl, Hsm.out⟩
theorem inner_calls (w : World) (s t : Nat) (A : SA) (M : List Nat) (scs : List Sc) (h : StkAt w s t A M scs) : Calls Tryz.prog 128 #[.pointer (some ⟨s, 0, none⟩)] w fun e w' => ∃ g c, A.vs = .slice (some ⟨g, 0, none⟩) scs.length c ∧ e = .returned (.pointer (some ⟨g, (scs.length - 1) * 2, none⟩)) ∧ Same [] w w' := by
 have hne : 0 < scs.length := List.length_pos_iff.2 h.ne
 obtain ⟨g, c, p, hv, hp, hin, s0, s1, sf, hgl⟩ := h.scope (k := scs.length - 1) (by omega)
 obtain ⟨As, cs, hv', c0, c1, cf, hl⟩ := h.facts
 rw [hv] at hv'
 cases hv'
 have hlen := h.len
 have Hv := Kd hv
 clear h hv hp hin
 go_enter Tryz.func128, Tryz.ntmps128
 go_wp2
 refine region_canon (.read 0 (.read 1 (.read 2 (.read 3 (.read 4 (.read 5 (.read 6 (.read 7 (.read 8 (.read 9 (.read 10 (.read 11 .done)))))))))))) (by kernel_rfl) (by kernel_rfl) ?_
 iterate 12 (refine canon_read rfl (fun K hK => ?_); go_simp; (try go_bits); (try (rw [if_pos (by omega)]; go_simp)); refine hK _ ?_; clear hK K)
 refine canon_done ?_
 go_wp2
 go_ret
 refine ⟨g, c, Hv.out, ?_, Same.drew _ _⟩
 go_simp
theorem declare_calls (w : World) (g o : Nat) (hv : Value) (n : Nat) (xs : List Value) (hr : Row w 150 4 hv n xs) (hc : w.cell? ⟨g, o, none⟩ = some hv) (hf : ∀ i, w.frozen? ⟨g, i, none⟩ = false) (hg : hv.ownBlock ≠ some g) (hn : n ≤ 1000000)
  (l : ByteArray) (fl : Bool) (vr : Int) (ev : Value) (Ae : Option Addr) (ne ce : Nat) (hev : ev = .slice Ae ne ce) :
  Calls Tryz.prog 133 #[.pointer (some ⟨g, o, none⟩), .agg #[.string l, .bool fl, .int .i64 vr, ev]] w fun e w' => e = .returned (.tuple #[]) ∧ ∃ v1 w1, Row w1 150 4 v1 (n + 1) (xs ++ [.string l, .bool fl, .int .i64 vr, ev]) ∧ Same hv.ownBlock.toList w w1 ∧ (v1.ownBlock = hv.ownBlock ∨ ∃ b, v1.ownBlock = some b ∧ w.heap.size ≤ b) ∧ w' = w1.setCell ⟨g, o, none⟩ v1 := by
 obtain ⟨Ah, ch, rfl⟩ := hr.shape
 have hgl := World.block_lt_of_cell? _ _ hc
 have Hr := Kd hr
 have Hg := Kd hg
 subst hev
 clear hr hg
 go_enter Tryz.func133, Tryz.ntmps133
 go_wp2
 refine region_canon (.read 0 (.read 1 (.read 2 (.read 3 (.read 4 (.read 5 (.one 6 [0, 1, 2, 3, 4] (.one 7 [0] (.read 8 (.read 9 (.one 10 [] .done))))))))))) (by kernel_rfl) (by kernel_rfl) ?_
 iterate 6 (refine canon_read rfl (fun K hK => ?_); go_simp; (try go_bits); (try (rw [if_pos (by omega)]; go_simp)); refine hK _ ?_; clear hK K)
 refine canon_oneL rfl ?_
 go_wp2
 refine EQ.A ?_
 refine canon_oneL rfl ?_
 refine wp_push (W := (w.alloc (Obj.cells #[.string l, .bool fl, .int .i64 vr, .slice Ae ne ce] 150)).drew) rfl _ _ 44 rfl 150 4 56 _ Tryz.underlying44 Tryz.infoHyp rfl (by decide) (.slice Ah n ch) _ _ rfl (Hr.out.same ((Same.alloc [] w _).trans (Same.drew [] _)) (by simp)) [.string l, .bool fl, .int .i64 vr, .slice Ae ne ce] (by rw [size_drew', size_alloc']; rfl) rfl (by simp [Value.oneCell']) (by omega) (by decide) ?_
 intro v3 w3 hrow3 hsm3 hor3
 obtain ⟨A3, c3', rfl⟩ := hrow3.shape
 have hsm03 := ((Same.alloc _ w _).trans (Same.drew _ _)).trans hsm3
 have hgn : g ∉ (Value.slice Ah n ch).ownBlock.toList := by simpa using Hg.out
 have d3 := hsm03.cell hc hgn
 have df : ∀ i, w3.frozen? ⟨g, i, none⟩ = false := fun i => by rw [World.frozen?_of_block (hsm03.block g hgl hgn)]; exact hf i
 go_wp2
 refine EQ.A ?_
 iterate 2 (refine canon_read rfl (fun K hK => ?_); go_simp; (try go_bits); (try (rw [if_pos (by omega)]; go_simp)); refine hK _ ?_; clear hK K)
 refine canon_oneL rfl ?_
 go_wp2
 refine EQ.A ?_
 refine canon_done ?_
 go_wp2
 refine bodyPost_end (results_none rfl _ _ _) rfl ?_
 exact ⟨rfl, .slice A3 (n + 1) c3', w3, hrow3, hsm03, hor3.imp id (fun ⟨b, h1, h2⟩ => ⟨b, h1, by rw [size_drew', size_alloc'] at h2; omega⟩), rfl⟩
theorem apart_calls (w : World) (g o : Nat) (pv : Value) (l : List Pr) (hr : Row w 113 2 pv l.length (prCells l)) (hc : w.cell? ⟨g, o, none⟩ = some pv) (hf : ∀ i, w.frozen? ⟨g, i, none⟩ = false)
  (qv : Value) (m : List Pr) (hq : Row w 113 2 qv m.length (prCells m)) (hn : l.length + m.length ≤ 1000000) :
  Calls Tryz.prog 129 #[.pointer (some ⟨g, o, none⟩), qv] w fun e w' => e = .returned (.tuple #[]) ∧ ∃ v1 w1, Row w1 113 2 v1 (unionP l m).length (prCells (unionP l m)) ∧ Same [] w w1 ∧ (∀ b, v1.ownBlock = some b → w.heap.size ≤ b) ∧ w' = w1.setCell ⟨g, o, none⟩ v1 := by
 have hu := Union_calls pv qv l m w hr hq hn
 obtain ⟨Ap, cp, rfl⟩ := hr.shape
 obtain ⟨Aq, cq, rfl⟩ := hq.shape
 have hgl := World.block_lt_of_cell? _ _ hc
 clear hr hq
 go_enter Tryz.func129, Tryz.ntmps129
 go_wp2_with (go_at_call 126; go_must (refine hu.mono ?_; rintro e W1 ⟨v1, rfl, hr1, hs1, hv1⟩; obtain ⟨A1, c1, rfl⟩ := hr1.shape; have d1 := hs1.cell hc (by simp); have df : ∀ i, W1.frozen? ⟨g, i, none⟩ = false := fun i => by rw [World.frozen?_of_block (hs1.block g hgl (by simp))]; exact hf i))
 refine bodyPost_end (results_none rfl _ _ _) rfl ?_
 exact ⟨rfl, .slice A1 (unionP l m).length c1, W1, hr1, hs1, hv1, rfl⟩
theorem insP_len (p : Pr) : ∀ s : List Pr, (insP p s).length ≤ s.length + 1
 | [] => by simp [insP]
 | q :: r => by
  have := insP_len p r
  unfold insP
  split
  ·simp
  ·split <;> simp <;> omega
theorem foldP_len (ps : List Pr) : ∀ s : List Pr, (ps.foldl putP s).length ≤ s.length + ps.length := by
 induction ps with
 | nil => intro s; simp
 | cons p ps ih =>
  intro s
  have h1 := ih (putP s p)
  have h2 : (putP s p).length ≤ s.length + 1 := by
   unfold putP
   split
   ·omega
   ·exact insP_len _ _
  simp only [List.foldl_cons, List.length_cons]
  omega
theorem unionP_len (a b : List Pr) : (unionP a b).length ≤ a.length + b.length := by
 have h1 := foldP_len b (a.foldl putP [])
 have h2 := foldP_len a []
 simp only [List.length_nil] at h2
 unfold unionP
 omega
theorem activeS_snoc (l : List Sc) (x : Sc) : activeS (l ++ [x]) = unionP (activeS l) x.pairs := by simp [activeS]
theorem activeS_take (scs : List Sc) (k : Nat) (hk : k < scs.length) : activeS (scs.take (k + 1)) = unionP (activeS (scs.take k)) scs[k].pairs := by
 rw [List.take_succ_eq_append_getElem hk, activeS_snoc]
theorem activeS_len (scs : List Sc) (h : Small scs) : ∀ k, k ≤ scs.length → (activeS (scs.take k)).length ≤ 1000 * k
 | 0, _ => by simp [activeS]
 | k + 1, hk => by
  have h1 := activeS_len scs h k (by omega)
  rw [activeS_take _ _ hk]
  have h2 := unionP_len (activeS (scs.take k)) scs[k].pairs
  have h3 := (h scs[k] (List.getElem_mem _)).2.1
  omega
def ActI (w : World) (scs : List Sc) (v u : Value) (W : World) : Prop := ∃ k : Nat, k ≤ scs.length ∧ u = .int .i64 k ∧ Row W 113 2 v (activeS (scs.take k)).length (prCells (activeS (scs.take k))) ∧ Same [] w W ∧ (∀ b, v.ownBlock = some b → w.heap.size ≤ b)
theorem active_calls (w : World) (s t : Nat) (A : SA) (M : List Nat) (scs : List Sc) (h : StkAt w s t A M scs) (hsm : Small scs) : Calls Tryz.prog 127 #[.pointer (some ⟨s, 0, none⟩)] w (PairsR (activeS scs) w) := by
 obtain ⟨As, cs, hv, c0, c1, cf, hl⟩ := h.facts
 have hlen := h.len
 have H := Kd h
 have Hv := Kd hv
 have Hsml := Kd hsm
 clear h hv hsm
 go_enter Tryz.func127, Tryz.ntmps127
 go_wp2
 have h0 : ActI w scs (.slice none 0 0) (.int .i64 0) w := ⟨0, Nat.zero_le _, rfl, World.ownsRow_nil _ _ _ _, Same.refl _ _, by simp [Value.ownBlock]⟩
 have H0 := Kd h0
 clear h0
 go_loopw [3, 11] (fun v u wr => ActI w scs v u wr) (fun _ u _ => scs.length - (intOf u).toNat)
 case atStart => exact H0.out
 case round =>
  obtain ⟨k, hk, rfl, hrow, hsm, hfr⟩ := hrel
  by_cases hlt : k < scs.length
  ·obtain ⟨Ao, co, rfl⟩ := hrow.shape
   have Hk := Kd (H.out.same hsm)
   obtain ⟨g, c, p, hvs, hp, hin, s0, s1, sf, hgl⟩ := Hk.out.scope hlt
   rw [Hv.out] at hvs
   cases hvs
   have hu := fun (W : World) (hW : Same [] wr W) => Union_calls _ _ _ _ W (hrow.same hW (by simp)) (hin.pairs.row.same hW (by simp)) (by
    have h1 := activeS_len scs Hsml.out k hk
    have h2 := (Hsml.out scs[k] (List.getElem_mem hlt)).2.1
    omega)
   rw [← activeS_take scs k hlt] at hu
   obtain ⟨Ah, ch, hhv⟩ := hin.hyps.row.shape
   obtain ⟨Ap, cp, hpv⟩ := hin.pairs.row.shape
   rw [hhv] at s0
   rw [hpv] at s1 hu
   have Hsm := Kd hsm
   have Hfr := Kd hfr
   clear hsm hfr hrow hin hp hhv hpv H0
   go_wp2_with (go_at_call 126; go_must (refine (hu _ (Same.alloc _ _ _)).mono ?_; rintro e W3 ⟨v3, rfl, hr3, hs3, hv3⟩))
   go_roundw
   case rel => exact ⟨k + 1, hlt, by go_num, hr3, Hsm.out.trans ((Same.alloc _ _ _).trans hs3), fun b hb => by have h1 := hv3 b hb; have h2 := Hsm.out.size; rw [size_alloc'] at h1; omega⟩
   case measure => simp [intOf]; omega
  ·have hkk : k = scs.length := by omega
   subst hkk
   rw [List.take_length] at hrow
   obtain ⟨Ao, co, rfl⟩ := hrow.shape
   have Hrow := Kd hrow
   have Hsm := Kd hsm
   have Hfr := Kd hfr
   clear hrow hsm hfr H0
   go_wp2
   go_ret
   exact ⟨.slice Ao (activeS scs).length co, rfl, Hrow.out, Hsm.out, Hfr.out⟩
theorem scCells_snoc (l : List ScP) (p : ScP) : scCells (l ++ [p]) = scCells l ++ [p.hv, p.pv] := by simp [scCells]
theorem scCells_len (l : List ScP) : (scCells l).length = l.length * 2 := by
 induction l with
 | nil => rfl
 | cons x l ih => simp only [scCells, List.flatMap_cons, List.length_append, List.length_cons, List.length_nil] at ih ⊢; omega
theorem SA.mem_blocks {A : SA} {s b : Nat} : b ∈ A.blocks s ↔ b = s ∨ A.vs.ownBlock = some b ∨ ∃ p ∈ A.inner, p.hv.ownBlock = some b := by
 simp [SA.blocks]
theorem StkAt.lt {w : World} {s t : Nat} {A : SA} {M : List Nat} {scs : List Sc} (h : StkAt w s t A M scs) : ∀ b ∈ A.blocks s, b < w.heap.size := by
 intro b hb
 rcases SA.mem_blocks.1 hb with rfl | hb | ⟨p, hp, hb⟩
 ·exact blk_lt h.blk
 ·exact h.row.lt hb
 ·obtain ⟨i, hi⟩ := List.getElem?_of_mem hp
  have hil : i < scs.length := by rw [← h.inn.len]; exact (List.getElem?_eq_some_iff.1 hi).1
  obtain ⟨p', hp', hin⟩ := h.inn.get (List.getElem?_eq_getElem hil)
  rw [hi] at hp'
  cases hp'
  exact hin.hyps.row.lt hb
structure StkR (s t : Nat) (A : SA) (M : List Nat) (scs' : List Sc) (w w' : World) : Prop where
 ex : ∃ A', StkAt w' s t A' (A'.blocks s ++ M) scs' ∧ Same (A.blocks s) w w' ∧ ∀ b ∈ A'.blocks s, b ∈ A.blocks s ∨ w.heap.size ≤ b
theorem StkAt.moved {w w' : World} {s t : Nat} {A : SA} {M : List Nat} {scs : List Sc} (h : StkAt w s t A M scs) {l : List Nat} (hs : Same (A.blocks s) w w') (hl : ∀ b ∈ l, b ∈ A.blocks s ∨ w.heap.size ≤ b) : Move M (l ++ M) w w' :=
 ⟨fun b hb => by
  rcases List.mem_append.1 hb with hb | hb
  ·exact (hl b hb).imp (h.sub b) id
  ·exact .inl hb, hs.mono fun b hb => .inl (h.sub b hb)⟩
theorem StkAt.setLast {w w' : World} {s t : Nat} {A : SA} {M : List Nat} {init : List Sc} {sc : Sc} (h : StkAt w s t A M (init ++ [sc])) {g c : Nat} (hvs : A.vs = .slice (some ⟨g, 0, none⟩) (init.length + 1) c) {P : List ScP} {p : ScP} (hin : A.inner = P ++ [p])
  {p' : ScP} {sc' : Sc} (hrow : Row w' 203 2 A.vs (init.length + 1) (scCells (P ++ [p']))) (hs : Same (g :: p.hv.ownBlock.toList) w w') (hnew : p'.hv.ownBlock = p.hv.ownBlock ∨ ∃ b, p'.hv.ownBlock = some b ∧ w.heap.size ≤ b)
  (hsc : ∀ M', Move M M' w w' → (∀ b ∈ M', b ∈ M ∨ p'.hv.ownBlock = some b) → ScIn w' M' sc' p') : StkR s t A M (init ++ [sc']) w w' := by
 have hlen : (init ++ [sc]).length = init.length + 1 := by simp
 have hPl : P.length = init.length := by have := h.inn.len; rw [hin] at this; simpa using this
 have hsub : ∀ b ∈ g :: p.hv.ownBlock.toList, b ∈ A.blocks s := by
  intro b hb
  rw [SA.mem_blocks]
  rcases List.mem_cons.1 hb with rfl | hb
  ·exact .inr (.inl (by rw [hvs]; rfl))
  ·exact .inr (.inr ⟨p, by rw [hin]; simp, by simpa using hb⟩)
 have hs' : Same (A.blocks s) w w' := hs.mono fun b hb => .inl (hsub b hb)
 have hnb : ∀ b ∈ SA.blocks { A with inner := P ++ [p'] } s, b ∈ A.blocks s ∨ w.heap.size ≤ b := by
  intro b hb
  rw [SA.mem_blocks] at hb ⊢
  rcases hb with rfl | hb | ⟨q, hq, hb⟩
  ·exact .inl (.inl rfl)
  ·exact .inl (.inr (.inl hb))
  ·rcases List.mem_append.1 hq with hq | hq
   ·exact .inl (.inr (.inr ⟨q, by rw [hin]; exact List.mem_append_left _ hq, hb⟩))
   ·simp at hq; subst hq
    rcases hnew with he | ⟨b', hb', hle⟩
    ·exact .inl (.inr (.inr ⟨p, by rw [hin]; simp, he ▸ hb⟩))
    ·rw [hb'] at hb; cases hb; exact .inr hle
 have m := h.moved hs' hnb
 have hMM : ∀ b ∈ SA.blocks { A with inner := P ++ [p'] } s ++ M, b ∈ M ∨ p'.hv.ownBlock = some b := by
  intro b hb
  rcases List.mem_append.1 hb with hb | hb
  ·rcases SA.mem_blocks.1 hb with rfl | hc | ⟨q, hq, hc⟩
   ·exact .inl (h.sub _ (SA.mem_blocks.2 (.inl rfl)))
   ·exact .inl (h.sub _ (SA.mem_blocks.2 (.inr (.inl hc))))
   ·rcases List.mem_append.1 hq with hq | hq
    ·exact .inl (h.sub _ (SA.mem_blocks.2 (.inr (.inr ⟨q, by rw [hin]; exact List.mem_append_left _ hq, hc⟩))))
    ·simp at hq; subst hq; exact .inr hc
  ·exact .inl hb
 have hgrow : ∃ cur, w.heap[g]? = some (.cells cur 203 (0, 0)) := by have := h.row; rw [hvs, hlen] at this; exact this.blk
 obtain ⟨cur, hg⟩ := hgrow
 have hinn := h.inn
 rw [hin] at hinn
 have hP : All2 (ScIn w M) init P := by
  clear hrow hsc hs hs' hnb m
  have key : ∀ (l : List Sc) (Q : List ScP), Q.length = l.length → All2 (ScIn w M) (l ++ [sc]) (Q ++ [p]) → All2 (ScIn w M) l Q := by
   intro l
   induction l with
   | nil => intro Q hQ _; cases Q with
    | nil => trivial
    | cons _ _ => simp at hQ
   | cons x l ih => intro Q hQ hh; cases Q with
    | nil => simp at hQ
    | cons y Q => exact ⟨hh.1, ih Q (by simpa using hQ) hh.2⟩
  exact key init P hPl hinn
 have hblkp : ∀ (j : Nat) (q : ScP), P[j]? = some q → ∀ b, q.hv.ownBlock = some b → b ∉ g :: p.hv.ownBlock.toList := by
  intro j q hq b hb hm
  have hj : j < P.length := (List.getElem?_eq_some_iff.1 hq).1
  have hqi : A.inner[j]? = some q := by rw [hin, List.getElem?_append_left hj]; exact hq
  rcases List.mem_cons.1 hm with rfl | hm
  ·have hjl : j < init.length := by omega
   obtain ⟨q', hq', hinq⟩ := hP.get (List.getElem?_eq_getElem hjl)
   rw [hq] at hq'
   cases hq'
   exact hinq.hyps.row.ne hg (by decide) hb
  ·have hpi : A.inner[P.length]? = some p := by rw [hin]; simp
   have := h.apart j P.length q p b hqi hpi hb (by simpa using hm)
   omega
 refine ⟨{ A with inner := P ++ [p'] }, ⟨hs.get h.blk ?_, ?_, ?_, fun b hb => List.mem_append_left _ hb, ?_, ?_, by simp⟩, hs', hnb⟩
 ·intro hm
  rcases List.mem_cons.1 hm with rfl | hm
  ·have := h.blk; rw [hg] at this; simp at this
  ·have hpr := hinn.get (i := init.length) (a := sc) (by simp)
   obtain ⟨p2, hp2, hpin⟩ := hpr
   rw [← hPl] at hp2
   simp at hp2
   subst hp2
   exact hpin.hyps.row.ne h.blk (by decide) (by simpa using hm)
 ·simpa using hrow
 ·refine All2.snoc ?_ (hsc _ m hMM)
  have key : ∀ (l : List Sc) (Q : List ScP), All2 (ScIn w M) l Q → (∀ q ∈ Q, ∀ b, q.hv.ownBlock = some b → b ∉ g :: p.hv.ownBlock.toList) → All2 (ScIn w' (SA.blocks { A with inner := P ++ [p'] } s ++ M)) l Q := by
   intro l
   induction l with
   | nil => intro Q hh _; cases Q with
    | nil => trivial
    | cons _ _ => exact hh.elim
   | cons x l ih => intro Q hh hq; cases Q with
    | nil => exact hh.elim
    | cons y Q => exact ⟨⟨hh.1.hyps.move m (fun b hb => hs.block b (hh.1.hyps.row.lt hb) (hq y (List.mem_cons_self ..) b hb)), hh.1.pairs.move m⟩, ih Q hh.2 fun q hq' => hq q (List.mem_cons_of_mem _ hq')⟩
  refine key init P hP fun q hq b hb => ?_
  obtain ⟨j, hj⟩ := List.getElem?_of_mem hq
  exact hblkp j q hj b hb
 ·intro i j q r b hi hj hqb hrb
  dsimp only at hi hj
  have hcase : ∀ (i : Nat) (q : ScP), (P ++ [p'])[i]? = some q → (i < P.length ∧ P[i]? = some q) ∨ (i = P.length ∧ q = p') := by
   intro i q hi
   by_cases hl : i < P.length
   ·rw [List.getElem?_append_left hl] at hi; exact .inl ⟨hl, hi⟩
   ·rw [List.getElem?_append_right (by omega)] at hi
    have : i - P.length = 0 := by
     rcases Nat.eq_zero_or_pos (i - P.length) with h0 | h0
     ·exact h0
     ·rw [List.getElem?_eq_none (by simp; omega)] at hi; cases hi
    rw [this] at hi
    simp at hi
    exact .inr ⟨by omega, hi.symm⟩
  have hmix : ∀ (i : Nat) (q : ScP), i < P.length → P[i]? = some q → q.hv.ownBlock = some b → p'.hv.ownBlock = some b → False := by
   intro i q hil hiq hqb hpb
   have hqi : A.inner[i]? = some q := by rw [hin, List.getElem?_append_left hil]; exact hiq
   rcases hnew with he | ⟨b', hb', hle⟩
   ·have hpi : A.inner[P.length]? = some p := by rw [hin]; simp
    have := h.apart i P.length q p b hqi hpi hqb (he ▸ hpb)
    omega
   ·rw [hb'] at hpb
    cases hpb
    obtain ⟨q', hq', hinq⟩ := hP.get (i := i) (List.getElem?_eq_getElem (by omega))
    rw [hiq] at hq'
    cases hq'
    have := hinq.hyps.row.lt hqb
    omega
  rcases hcase i q hi with ⟨hil, hiq⟩ | ⟨rfl, rfl⟩
  ·rcases hcase j r hj with ⟨hjl, hjr⟩ | ⟨rfl, rfl⟩
   ·exact h.apart i j q r b (by rw [hin, List.getElem?_append_left hil]; exact hiq) (by rw [hin, List.getElem?_append_left hjl]; exact hjr) hqb hrb
   ·exact (hmix i q hil hiq hqb hrb).elim
  ·rcases hcase j r hj with ⟨hjl, hjr⟩ | ⟨rfl, rfl⟩
   ·exact (hmix j r hjl hjr hrb hqb).elim
   ·rfl
 ·have := h.len; simpa using this
end Go.Proofs.YtdhkmfpfbjcdiaaGreatDoor
