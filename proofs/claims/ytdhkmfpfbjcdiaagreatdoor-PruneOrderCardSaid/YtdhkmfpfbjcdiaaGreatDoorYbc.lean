/- lemmalaw texts, part 29. -/
import Derived.Test.YtdhkmfpfbjcdiaaGreatDoorYad
import Derived.Test.YtdhkmfpfbjcdiaaGreatDoorYba
import Derived.Test.YtdhkmfpfbjcdiaaGreatDoorYbb
set_option maxRecDepth 100000
set_option linter.unusedVariables false
set_option linter.unusedSimpArgs false
set_option maxHeartbeats 32000000
namespace Go.Proofs.YtdhkmfpfbjcdiaaGreatDoor
open Go.RowKit
theorem hm_at {w : World} {M : List Nat} (k : ByteArray) : ∀ {l : List (ByteArray × Hy)} {m : List (ByteArray × Value)}, All2 (HmIn w M) l m → (aget k l = none ∧ aget k m = none) ∨ ∃ x ev, aget k l = some x ∧ aget k m = some (.agg #[.string x.label, .bool x.floating, .int .i64 x.var, ev]) ∧ Ints w M ev x.expr
 | [], [], _ => .inl ⟨rfl, rfl⟩
 | (a, h) :: l, (b, v) :: m, hp => by
  obtain rfl : a = b := hp.1.1
  obtain ⟨ev, hv, hi⟩ := hp.1.2
  have := hm_at k hp.2
  unfold aget
  split
  ·dsimp only at hv
   exact .inr ⟨h, ev, rfl, by rw [hv], hi⟩
  ·exact this
 | [], _ :: _, hp => hp.elim
 | _ :: _, [], hp => hp.elim
theorem zeroHyp (w : World) : (zeroValue 150).run Tryz.prog w = .ok (.agg #[.string ByteArray.empty, .bool false, .int .i64 0, .slice none 0 0]) w := by kernel_rfl
theorem Taken_calls (w : World) (nb mf mh : Nat) (fs : List (ByteArray × Nat)) (hm : List (ByteArray × Value)) (hl : List (ByteArray × Hy)) (M : List Nat) (c5 : w.cell? ⟨nb, 5, none⟩ = some (.map (some mf))) (c6 : w.cell? ⟨nb, 6, none⟩ = some (.map (some mh)))
  (h1 : SMap w mf (natMap fs)) (h2 : SMap w mh hm) (h3 : All2 (HmIn w M) hl hm) (s : ByteArray) :
  Calls Tryz.prog 116 #[.pointer (some ⟨nb, 0, none⟩), .string s] w fun e w' => e = .returned (.bool ((aget s fs).isSome || (aget s hl).isSome)) ∧ Same [] w w' := by
 have k1 := h1.run_lookup Tryz.underlying80 Tryz.underlying9 (zero3 w) s true
 have k2 := h2.run_lookup Tryz.underlying81 Tryz.underlying9 (zeroHyp w) s true
 rw [aget_natMap, if_pos rfl] at k1
 rw [if_pos rfl] at k2
 rcases hm_at s h3 with ⟨g1, g2⟩ | ⟨x, ev, g1, g2, hi⟩
 ·rw [g2] at k2
  rw [g1]
  dsimp only [Option.getD, Option.isSome] at k2
  clear h1 h2 h3 g1 g2
  cases ha : aget s fs <;> rw [ha] at k1 <;> dsimp only [Option.map, Option.getD, Option.isSome] at k1 <;> clear ha
  all_goals
   go_enter Tryz.func116, Tryz.ntmps116
   go_wp2
   go_ret
   exact ⟨rfl, Same.alloc _ _ _⟩
 ·rw [g2] at k2
  rw [g1]
  obtain ⟨Ae, ce, rfl⟩ := hi.row.shape
  dsimp only [Option.getD, Option.isSome] at k2
  clear h1 h2 h3 g1 g2 hi
  cases ha : aget s fs <;> rw [ha] at k1 <;> dsimp only [Option.map, Option.getD, Option.isSome] at k1 <;> clear ha
  all_goals
   go_enter Tryz.func116, Tryz.ntmps116
   go_wp2
   go_ret
   exact ⟨rfl, Same.alloc _ _ _⟩
theorem LdAt.taken {w : World} {F : LF} {V : LV} {L : Ld} (h : LdAt w F V L) (s : ByteArray) (W : World) (hW : Same [] w W) : Calls Tryz.prog 116 #[.pointer (some ⟨F.nb, 0, none⟩), .string s] W fun e w' => e = .returned (.bool (L.taken s)) ∧ Same [] W w' :=
 Taken_calls W F.nb F.mf F.mh L.finds V.hm L.hyps (V.blocks F) (hW.cell (blk_c h.nbb) (by simp)) (hW.cell (blk_c h.nbb) (by simp)) (h.finds.same hW (by simp)) (h.hyps.same hW (by simp)) (h.same hW).hin s
def UnitX (x : Ex Unit) (w : World) (e : Ending) (w' : World) : Prop := match x with
 | .ok _ => e = .returned (.tuple #[]) ∧ Same [] w w'
 | .error (t, n) => StopR t n w e w'
theorem llabel_calls (w : World) (F : LF) (V : LV) (L : Ld) (h : LdAt w F V L) (t : Tk) (hs : t.text.size ≤ maxLen) : Calls Tryz.prog 62 #[.pointer (some ⟨F.l, 0, none⟩), tkV t] w (UnitX (L.label t) w) := by
 have hnm := fun W => Name_calls t.text W hs
 have htk := fun W hW => h.taken t.text W hW
 have hst := fun W n => stop_calls W t n
 have l0 := blk_c (i := 0) (v := .pointer (some ⟨F.nb, 0, none⟩)) h.lb
 have l2 := blk_c (i := 2) (v := .int .i64 L.labels) h.lb
 have ll := blk_lt h.lb
 unfold tkV at hst ⊢
 unfold Ld.label
 clear h
 cases hn : nameOK t.text with
 | false =>
  rw [hn] at hnm
  rw [if_pos rfl]
  clear hn htk
  go_enter Tryz.func62, Tryz.ntmps62
  go_wp2_with (first
   | (go_at_call 115; go_must (refine (hnm _).mono ?_; rintro e' W2 ⟨rfl, hw2⟩; obtain rfl := hw2.symm))
   | (go_at_call 68; go_must (refine (hst _ 21).mono ?_; rintro e w' ⟨b, rfl, hf, hs⟩)))
  exact ⟨rfl, b, rfl, hf, (Same.alloc _ _ _).trans hs⟩
 | true =>
  rw [hn] at hnm
  rw [if_neg (by decide)]
  cases ht : L.taken t.text with
  | true =>
   rw [ht] at htk
   rw [if_pos rfl]
   clear hn ht
   go_enter Tryz.func62, Tryz.ntmps62
   go_wp2_with (go_at_call 115; go_must (refine (hnm _).mono ?_; rintro e' W2 ⟨rfl, hw2⟩; obtain rfl := hw2))
   refine region_canon (.read 0 (.read 1 (.read 2 (.read 3 (.read 4 (.read 5 (.one 6 [] (.read 7 (.done))))))))) (by kernel_rfl) (by kernel_rfl) ?_
   iterate 6 (refine canon_read rfl (fun K hK => ?_); go_simp; (try go_bits); (try (rw [if_pos (by omega)]; go_simp)); refine hK _ ?_; clear hK K)
   refine canon_oneL rfl ?_
   go_wp2_with (go_at_call 116; go_must (refine (htk _ ((Same.alloc [] _ _).trans (Same.drew [] _))).mono ?_; rintro e3 W3 ⟨rfl, hs3⟩; have hB3 := hs3.get (blk_new w (.cells #[.string t.text, .int .i64 t.at_.off, .int .i64 t.at_.line, .int .i64 t.at_.col] 54)) (by simp); obtain ⟨k0, k1, k2, k3, kf⟩ := blk4 hB3; have bl3 := blk_lt hB3; have Hs3 := Kd (((Same.alloc [] w (.cells #[.string t.text, .int .i64 t.at_.off, .int .i64 t.at_.line, .int .i64 t.at_.col] 54)).trans (Same.drew [] _)).trans hs3); have l03 := Hs3.out.cell l0 (by simp); have l23 := Hs3.out.cell l2 (by simp); have ll3 := Nat.lt_of_lt_of_le ll Hs3.out.size; clear hs3 hB3))
   refine EQ.A ?_
   iterate 1 (refine canon_read rfl (fun K hK => ?_); go_simp; (try go_bits); (try (rw [if_pos (by omega)]; go_simp)); refine hK _ ?_; clear hK K)
   refine canon_done ?_
   go_wp2_with (go_at_call 68; go_must (refine (hst _ 20).mono ?_; rintro e w' ⟨b, rfl, hf, hs⟩))
   exact ⟨rfl, b, rfl, hf, Hs3.out.trans hs⟩
  | false =>
   rw [ht] at htk
   rw [if_neg (by decide)]
   clear hn ht
   by_cases hl : 1024 ≤ L.labels
   ·rw [if_pos hl]
    go_enter Tryz.func62, Tryz.ntmps62
    go_wp2_with (go_at_call 115; go_must (refine (hnm _).mono ?_; rintro e' W2 ⟨rfl, hw2⟩; obtain rfl := hw2))
    refine region_canon (.read 0 (.read 1 (.read 2 (.read 3 (.read 4 (.read 5 (.one 6 [] (.read 7 (.done))))))))) (by kernel_rfl) (by kernel_rfl) ?_
    iterate 6 (refine canon_read rfl (fun K hK => ?_); go_simp; (try go_bits); (try (rw [if_pos (by omega)]; go_simp)); refine hK _ ?_; clear hK K)
    refine canon_oneL rfl ?_
    go_wp2_with (go_at_call 116; go_must (refine (htk _ ((Same.alloc [] _ _).trans (Same.drew [] _))).mono ?_; rintro e3 W3 ⟨rfl, hs3⟩; have hB3 := hs3.get (blk_new w (.cells #[.string t.text, .int .i64 t.at_.off, .int .i64 t.at_.line, .int .i64 t.at_.col] 54)) (by simp); obtain ⟨k0, k1, k2, k3, kf⟩ := blk4 hB3; have bl3 := blk_lt hB3; have Hs3 := Kd (((Same.alloc [] w (.cells #[.string t.text, .int .i64 t.at_.off, .int .i64 t.at_.line, .int .i64 t.at_.col] 54)).trans (Same.drew [] _)).trans hs3); have l03 := Hs3.out.cell l0 (by simp); have l23 := Hs3.out.cell l2 (by simp); have ll3 := Nat.lt_of_lt_of_le ll Hs3.out.size; clear hs3 hB3))
    refine EQ.A ?_
    iterate 1 (refine canon_read rfl (fun K hK => ?_); go_simp; (try go_bits); (try (rw [if_pos (by omega)]; go_simp)); refine hK _ ?_; clear hK K)
    refine canon_done ?_
    go_wp2_with (go_at_call 68; go_must (refine (hst _ 22).mono ?_; rintro e w' ⟨b, rfl, hf, hs⟩))
    exact ⟨rfl, b, rfl, hf, Hs3.out.trans hs⟩
   ·rw [if_neg hl]
    go_enter Tryz.func62, Tryz.ntmps62
    go_wp2_with (go_at_call 115; go_must (refine (hnm _).mono ?_; rintro e' W2 ⟨rfl, hw2⟩; obtain rfl := hw2))
    refine region_canon (.read 0 (.read 1 (.read 2 (.read 3 (.read 4 (.read 5 (.one 6 [] (.read 7 (.done))))))))) (by kernel_rfl) (by kernel_rfl) ?_
    iterate 6 (refine canon_read rfl (fun K hK => ?_); go_simp; (try go_bits); (try (rw [if_pos (by omega)]; go_simp)); refine hK _ ?_; clear hK K)
    refine canon_oneL rfl ?_
    go_wp2_with (go_at_call 116; go_must (refine (htk _ ((Same.alloc [] _ _).trans (Same.drew [] _))).mono ?_; rintro e3 W3 ⟨rfl, hs3⟩; have hB3 := hs3.get (blk_new w (.cells #[.string t.text, .int .i64 t.at_.off, .int .i64 t.at_.line, .int .i64 t.at_.col] 54)) (by simp); obtain ⟨k0, k1, k2, k3, kf⟩ := blk4 hB3; have bl3 := blk_lt hB3; have Hs3 := Kd (((Same.alloc [] w (.cells #[.string t.text, .int .i64 t.at_.off, .int .i64 t.at_.line, .int .i64 t.at_.col] 54)).trans (Same.drew [] _)).trans hs3); have l03 := Hs3.out.cell l0 (by simp); have l23 := Hs3.out.cell l2 (by simp); have ll3 := Nat.lt_of_lt_of_le ll Hs3.out.size; clear hs3 hB3))
    refine EQ.A ?_
    iterate 1 (refine canon_read rfl (fun K hK => ?_); go_simp; (try go_bits); (try (rw [if_pos (by omega)]; go_simp)); refine hK _ ?_; clear hK K)
    refine canon_done ?_
    go_wp2
    refine bodyPost_end (results_none rfl _ _ _) rfl ?_
    exact ⟨rfl, Hs3.out⟩
end Go.Proofs.YtdhkmfpfbjcdiaaGreatDoor
namespace Go.Proofs.YtdhkmfpfbjcdiaaGreatDoor
def QP (Q : Exit → Act → World → Prop) : Exit → Act → World → Prop
 | .normal, a, w => Q .normal a w
 | .panic c, a, w => ∀ a', a'.defers = a.defers → Q (.panic c) a' w
 | _, _, _ => False
theorem steps2_wpP {P : Program} {ops : Array Oper} {Q : Exit → Act → World → Prop} (hs : Region.noSelect ops = true) : Steps2 ops (wpOp P ops (QP Q)) (YR P ops) := {
 y_put i v a w d x h := by
  unfold YR
  constructor
  ·rintro ⟨o, ho, h1⟩
   refine ⟨o, ho, ?_⟩
   rw [looks_of ho] at h
   unfold ReadAt at h1 ⊢
   rw [execOp_put o (fun cs b => Region.noSelect_spec hs i o cs b ho) a d x h, wanted_put o a d x h] at h1
   exact h1
  ·rintro ⟨o, ho, h1⟩
   refine ⟨o, ho, ?_⟩
   rw [looks_of ho] at h
   unfold ReadAt at h1 ⊢
   rw [execOp_put o (fun cs b => Region.noSelect_spec hs i o cs b ho) a d x h, wanted_put o a d x h]
   exact h1
 read i v a w K hi hy hK := by
  obtain ⟨o, ho, h1⟩ := hy
  rw [dst_of ho] at hK
  unfold wpOp
  simp only [ho]
  unfold ReadAt at h1
  split
  ·rename_i hw
   rw [if_pos hw] at h1
   refine .inl ?_
   unfold Oper.wp
   cases hr : (execOp a.eval o).run P w with
   | halt x w' => rw [hr] at h1; exact h1.elim
   | ok n w' =>
    rw [hr] at h1
    cases n with
    | value u => obtain ⟨rfl, rfl⟩ := h1; exact hK
    | _ => exact (show False from h1).elim
  ·rename_i hw
   rw [if_neg hw] at h1
   subst h1
   exact hK
 eff i K K' U a w hi hap hS hKK hdef := by
  have ho : ops[i]? = some ops[i] := Array.getElem?_eq_getElem hi
  obtain ⟨o, ho⟩ : ∃ o, ops[i]? = some o := ⟨_, ho⟩
  obtain ⟨he, hw⟩ := exec_puts ho (fun cs b => Region.noSelect_spec hs i o cs b ho) U a hap
  rw [dst_of ho] at hKK
  unfold wpOp at hS ⊢
  simp only [ho] at hS ⊢
  rw [hw] at hS
  split
  ·rename_i hww
   rw [if_pos hww] at hS
   have hout : ¬ LetsOut (QP Q) := fun ⟨a, w, h⟩ => h
   rcases hS with hS | ⟨_, hS⟩
   case inr => exact absurd hS hout
   refine .inl ?_
   unfold Oper.wp at hS ⊢
   rw [he] at hS
   have hd0 := puts_defers ops U a
   cases hr : (execOp a.eval o).run P w with
   | halt x w' =>
    rw [hr] at hS
    cases x <;> first | exact (show False from hS).elim | exact fun a' ha' => hS a' (ha'.trans hd0.symm)
   | ok n w' =>
    rw [hr] at hS
    cases n with
    | value u => exact hKK u w' hS
    | skip => exact hKK undef w' hS
    | defer d =>
     have h1 := hdef _ _ hS
     rw [put_defers'] at h1
     have h2 : (d :: (puts ops U a).defers).length = a.defers.length := congrArg List.length h1
     rw [hd0] at h2
     simp at h2
    | enter f args =>
     refine Calls.mono hS (fun e w'' h => ?_)
     cases e with
     | returned v => exact hKK v w'' h
     | panicked c => exact fun a' ha' => h a' (ha'.trans hd0.symm)
     | outgrown => exact absurd h hout
    | row row args => exact Rows.mono hS (fun v w'' h => hKK v w'' h)
    | _ => exact (show False from hS).elim
  ·rename_i hww
   rw [if_neg hww] at hS
   exact hKK undef w hS }
def CanonP (P : Program) (ops : Array Oper) (Q : Exit → Act → World → Prop) (t : OTree) (pd : List (Nat × Value)) (a : Act) (w : World) : Prop := Canon ops (wpOp P ops (QP Q)) (YR P ops) (Q .normal) t pd a w
theorem region_canonP {P : Program} {id : Nat} {l : List Oper} {Q : Exit → Act → World → Prop} {a : Act} {w : World} (t : OTree) (hm : P.follows .mixedOrders = true) (hB : (Region.noSelect l.toArray && canonB l.toArray t) = true)
  (h : CanonP P l.toArray Q t [] a w.drew) : (Code.region id l.toArray true).wp P Q a w := by
 rw [Bool.and_eq_true] at hB
 obtain ⟨hs, hB⟩ := hB
 unfold canonB at hB
 rw [Bool.and_eq_true] at hB
 have h1 : AnyS l.toArray (wpOp P l.toArray (QP Q)) (QP Q .normal) l.toArray.size (Array.replicate l.toArray.size false) a w.drew :=
  any_of_canon (QN := Q .normal) (steps2_wpP hs) hB.2 _ t [] [] _ a [] _ (oinv_start _) hB.1 (by
   unfold left
   rw [List.countP_eq_length.2 (fun i _ => by rw [getD_replicate_false]; rfl)]
   simp) (by simp) (by simp) h
 refine Code.wp_mono (fun e a w h => ?_) (wp_region_any hm (anyS_wpAny _ _ _ _ h1))
 cases e <;> first | exact h a rfl | exact (show False from h).elim | exact h
section
variable {P : Program} {ops : Array Oper} {Q : Exit → Act → World → Prop} {a : Act} {w : World} {pd : List (Nat × Value)} {t : OTree} {i : Nat} {o : Oper}
theorem canonP_done (h : Q .normal a w) : CanonP P ops Q .done pd a w := h
theorem canonP_read (ho : ops[i]? = some o) (h : ∀ K : Value → Prop, (∀ v, CanonP P ops Q t ((i, v) :: pd) (a.put o.dst v) w → K v) → ReadAt P ops o a w K) : CanonP P ops Q (.read i t) pd a w := by
 have h1 := h (fun v => CanonP P ops Q t ((i, v) :: pd) (a.put o.dst v) w ∧ ReadAt P ops o a w (fun u => u = v))
 have key : ∃ v, ReadAt P ops o a w (fun u => u = v) ∧ CanonP P ops Q t ((i, v) :: pd) (a.put o.dst v) w := by
  have h2 := h (fun v => CanonP P ops Q t ((i, v) :: pd) (a.put o.dst v) w) (fun _ h => h)
  unfold ReadAt at h2 ⊢
  split
  ·rename_i hw
   rw [if_pos hw] at h2
   cases hr : (execOp a.eval o).run P w with
   | halt x w' => rw [hr] at h2; exact (show False from h2).elim
   | ok n w' =>
    rw [hr] at h2
    cases n with
    | value u => obtain ⟨rfl, h3⟩ := h2; exact ⟨u, ⟨rfl, rfl⟩, h3⟩
    | _ => exact (show False from h2).elim
  ·rename_i hw
   rw [if_neg hw] at h2
   exact ⟨undef, rfl, h2⟩
 obtain ⟨v, hv, hc⟩ := key
 refine ⟨v, ⟨o, ho, hv⟩, ?_⟩
 rw [dst_of ho]
 exact hc
def EP (P : Program) (ops : Array Oper) (Q : Exit → Act → World → Prop) (L : List Nat) (t : OTree) (pd : List (Nat × Value)) (ds : List Deferred) : Exit → Act → World → Prop
 | .normal, a, w => a.defers = ds ∧ Reruns P ops L pd a w ∧ CanonP P ops Q t pd a w
 | .panic c, a, w => a.defers = ds ∧ ∀ a', a'.defers = ds → Q (.panic c) a' w
 | _, _, _ => False
theorem EP.mk {L : List Nat} {ds : List Deferred} (h1 : a.defers = ds) (h2 : Reruns P ops L pd a w) (h3 : CanonP P ops Q t pd a w) : EP P ops Q L t pd ds .normal a w := ⟨h1, h2, h3⟩
theorem EP.A {L : List Nat} {ds : List Deferred} (h3 : CanonP P ops Q t pd a w) (h1 : a.defers = ds := by exact rfl) (h2 : Reruns P ops L pd a w := by repeat (first | exact rr_nil | (refine rr_skip rfl ?_) | (refine rr_cons rfl (by go_simp; (try go_bits); (try (rw [if_pos (by omega)]; go_simp)); (try trivial)) ?_))) : EP P ops Q L t pd ds .normal a w := ⟨h1, h2, h3⟩
theorem effP_of {L : List Nat} (ho : ops[i]? = some o) (h : wpList P ops (EP P ops Q L t pd a.defers) [o] a w) :
  wpOp P ops (QP Q) i (fun a' w' => a'.defers = a.defers ∧ (∀ p ∈ pd, p.1 ∈ L → YR P ops p.1 p.2 a' w') ∧ CanonP P ops Q t pd a' w') a w := by
 have hout : ¬ LetsOut (EP P ops Q L t pd a.defers) := fun ⟨a, w, h⟩ => h
 unfold wpOp
 simp only [ho]
 unfold wpList at h
 have conv : ∀ a' w', EP P ops Q L t pd a.defers .normal a' w' → a'.defers = a.defers ∧ (∀ p ∈ pd, p.1 ∈ L → YR P ops p.1 p.2 a' w') ∧ CanonP P ops Q t pd a' w' := fun a' w' h => ⟨h.1, reruns_all h.2.1, h.2.2⟩
 split
 ·rename_i hw
  rw [if_pos hw] at h
  rcases h with h | ⟨_, h⟩
  case inr => exact absurd h hout
  refine .inl ?_
  unfold Oper.wp at h ⊢
  cases hr : (execOp a.eval o).run P w with
  | halt x w' =>
   rw [hr] at h
   cases x <;> first | exact (show False from h).elim | exact fun a' ha' => h.2 a' ha'
  | ok n w' =>
   rw [hr] at h
   cases n with
   | value u => exact conv _ _ h
   | skip => exact conv _ _ h
   | defer d => exact conv _ _ h
   | enter f args =>
    refine Calls.mono h (fun e w'' h => ?_)
    cases e with
    | returned v => exact conv _ _ h
    | panicked c => exact fun a' ha' => h.2 a' ha'
    | outgrown => exact absurd h hout
   | row row args => exact Rows.mono h (fun v w'' h => conv _ _ h)
   | _ => exact (show False from h).elim
 ·rename_i hw
  rw [if_neg hw] at h
  exact conv _ _ h
theorem canonP_one {L : List Nat} (ho : ops[i]? = some o) (h : wpList P ops (EP P ops Q L t pd a.defers) [o] a w) : CanonP P ops Q (.one i L t) pd a w := effP_of ho h
theorem canonP_oneL {l r : List Oper} {L : List Nat} (ho : l.drop i = o :: r) (h : wpList P l.toArray (EP P l.toArray Q L t pd a.defers) [o] a w) : CanonP P l.toArray Q (.one i L t) pd a w :=
 canonP_one (by rw [List.getElem?_toArray, ← List.head?_drop, ho]; rfl) h
end
end Go.Proofs.YtdhkmfpfbjcdiaaGreatDoor
namespace Go.Proofs.YtdhkmfpfbjcdiaaGreatDoor
open Go.RowKit
def stV (s : St) (wv pv : Value) : Value := .agg #[.int .i64 s.kind, .string s.label.text, .int .i64 s.label.at_.off, .int .i64 s.label.at_.line, .int .i64 s.label.at_.col, .string s.key.text, .int .i64 s.key.at_.off, .int .i64 s.key.at_.line, .int .i64 s.key.at_.col, .bool s.proving, wv, pv, .string s.end_.text, .int .i64 s.end_.at_.off, .int .i64 s.end_.at_.line, .int .i64 s.end_.at_.col]
def stO (s : St) (wv pv : Value) : Obj := .cells #[.int .i64 s.kind, .string s.label.text, .int .i64 s.label.at_.off, .int .i64 s.label.at_.line, .int .i64 s.label.at_.col, .string s.key.text, .int .i64 s.key.at_.off, .int .i64 s.key.at_.line, .int .i64 s.key.at_.col, .bool s.proving, wv, pv, .string s.end_.text, .int .i64 s.end_.at_.off, .int .i64 s.end_.at_.line, .int .i64 s.end_.at_.col] 73
theorem stO_cells {w : World} {b : Nat} {s : St} {wv pv : Value} (h : w.heap[b]? = some (stO s wv pv)) : w.cell? ⟨b, 0, none⟩ = some (.int .i64 s.kind) ∧ w.cell? ⟨b, 1, none⟩ = some (.string s.label.text) ∧ w.cell? ⟨b, 2, none⟩ = some (.int .i64 s.label.at_.off) ∧ w.cell? ⟨b, 3, none⟩ = some (.int .i64 s.label.at_.line) ∧ w.cell? ⟨b, 4, none⟩ = some (.int .i64 s.label.at_.col) ∧
  w.cell? ⟨b, 5, none⟩ = some (.string s.key.text) ∧ w.cell? ⟨b, 6, none⟩ = some (.int .i64 s.key.at_.off) ∧ w.cell? ⟨b, 7, none⟩ = some (.int .i64 s.key.at_.line) ∧ w.cell? ⟨b, 8, none⟩ = some (.int .i64 s.key.at_.col) ∧ w.cell? ⟨b, 9, none⟩ = some (.bool s.proving) ∧ w.cell? ⟨b, 10, none⟩ = some wv ∧ w.cell? ⟨b, 11, none⟩ = some pv ∧
  w.cell? ⟨b, 12, none⟩ = some (.string s.end_.text) ∧ w.cell? ⟨b, 13, none⟩ = some (.int .i64 s.end_.at_.off) ∧ w.cell? ⟨b, 14, none⟩ = some (.int .i64 s.end_.at_.line) ∧ w.cell? ⟨b, 15, none⟩ = some (.int .i64 s.end_.at_.col) ∧ ∀ i, w.frozen? ⟨b, i, none⟩ = false := by
 unfold stO at h
 exact ⟨blk_c h, blk_c h, blk_c h, blk_c h, blk_c h, blk_c h, blk_c h, blk_c h, blk_c h, blk_c h, blk_c h, blk_c h, blk_c h, blk_c h, blk_c h, blk_c h, blk_free h⟩
theorem need_ok (w : World) (t : Tk) (n : Nat) (h : n = 0) : Calls Tryz.prog 63 #[tkV t, .int .i64 n] w fun e w' => e = .returned (.tuple #[]) ∧ Same [] w w' := by
 refine (need_calls w t n).mono fun e w' hr => ?_
 rw [NeedR, if_pos h] at hr
 exact hr
theorem need_bad (w : World) (t : Tk) (n : Nat) (h : n ≠ 0) : Calls Tryz.prog 63 #[tkV t, .int .i64 n] w (StopR t n w) := by
 refine (need_calls w t n).mono fun e w' hr => ?_
 rw [NeedR, if_neg h] at hr
 exact hr
def hyV (x : Hy) (ev : Value) : Value := .agg #[.string x.label, .bool x.floating, .int .i64 x.var, ev]
theorem lhyp_calls (w : World) (F : LF) (V : LV) (L : Ld) (h : LdAt w F V L) (hl : L.labels ≤ 1000000) (s : St) (Aw Ap : Option Addr) (nw cw np cp : Nat) (x : Hy) (hs : x.label.size ≤ maxLen) (ev : Value) (hv : Ints w (V.blocks F) ev x.expr) :
  Calls Tryz.prog 74 #[.pointer (some ⟨F.l, 0, none⟩), stV s (.slice Aw nw cw) (.slice Ap np cp), hyV x ev] w (LdX F V (L.hyp s x) w) := by
 have l0 := blk_c (i := 0) (v := .pointer (some ⟨F.nb, 0, none⟩)) h.lb
 have l2 := blk_c (i := 2) (v := .int .i64 L.labels) h.lb
 have lf := blk_free h.lb
 have ll := blk_lt h.lb
 have n2 := blk_c (i := 2) (v := .pointer (some ⟨F.t, 0, none⟩)) h.nbb
 have n6 := blk_c (i := 6) (v := .map (some F.mh)) h.nbb
 have nl := blk_lt h.nbb
 obtain ⟨Ae, ce, rfl⟩ := hv.row.shape
 have hlt := h.lt
 have H := Kd h
 have Hv := Kd hv
 have Hlt := Kd hlt
 unfold stV hyV
 clear h hv hlt
 go_enter Tryz.func74, Tryz.ntmps74
 go_wp2
 obtain ⟨W2, hW2⟩ : ∃ W2, ((w.setCell ⟨F.l, 2, none⟩ (.int .i64 ((L.labels : Int) + 1))).alloc (stO s (.slice Aw nw cw) (.slice Ap np cp))).alloc (.cells #[.string x.label, .bool x.floating, .int .i64 x.var, .slice Ae x.expr.length ce] 150) = W2 := ⟨_, rfl⟩
 have hW2' := hW2
 unfold stO at hW2'
 rw [hW2']
 have key : LdAt W2 F V { L with labels := L.labels + 1 } ∧ Move (V.blocks F) (V.blocks F) w W2 ∧ W2.heap[w.heap.size]? = some (stO s (.slice Aw nw cw) (.slice Ap np cp)) ∧ W2.heap[w.heap.size + 1]? = some (.cells #[.string x.label, .bool x.floating, .int .i64 x.var, .slice Ae x.expr.length ce] 150 (0, 0)) := by
  have hb1 := blk_set H.out.lb 2 (.int .i64 ((L.labels : Int) + 1))
  obtain ⟨h1, m1⟩ := H.out.setLabels (n := L.labels + 1) (by simpa using hb1) (Same.setCell w _ _ (S := [F.l]) (by simp))
  have hz := size_set' w ⟨F.l, 2, none⟩ (.int .i64 ((L.labels : Int) + 1))
  have hs2 : Same [] (w.setCell ⟨F.l, 2, none⟩ (.int .i64 ((L.labels : Int) + 1))) W2 := by rw [← hW2]; exact (Same.alloc _ _ _).trans (Same.alloc _ _ _)
  refine ⟨h1.same hs2, m1.trans (Move.of_same hs2), ?_, ?_⟩
  ·rw [← hW2, ← hz]
   exact blk_old (blk_new _ _) _
  ·have := blk_new ((w.setCell ⟨F.l, 2, none⟩ (.int .i64 ((L.labels : Int) + 1))).alloc (stO s (.slice Aw nw cw) (.slice Ap np cp))) (.cells #[.string x.label, .bool x.floating, .int .i64 x.var, .slice Ae x.expr.length ce] 150)
   rw [size_alloc', hz, hW2] at this
   exact this
 obtain ⟨hL2, hm2, hS2, hX2⟩ := key
 clear hW2 hW2' l0 l2 lf ll n2 n6 nl
 have l0 := blk_c (i := 0) (v := .pointer (some ⟨F.nb, 0, none⟩)) hL2.lb
 have ll := blk_lt hL2.lb
 have n2 := blk_c (i := 2) (v := .pointer (some ⟨F.t, 0, none⟩)) hL2.nbb
 have n6 := blk_c (i := 6) (v := .map (some F.mh)) hL2.nbb
 have nl := blk_lt hL2.nbb
 obtain ⟨s0, s1, s2, s3, s4, s5, s6, s7, s8, s9, s10, s11, s12, s13, s14, s15, sf⟩ := stO_cells hS2
 obtain ⟨x0, x1, x2, x3, xf⟩ := blk4 hX2
 have sl := blk_lt hS2
 have xl := blk_lt hX2
 have hlb := fun (W : World) (hW : Same [] W2 W) => symLabel_calls W F.t V.TA L.tbl (hL2.tbl.same hW (by simp)) x.label hs
 have hnok := fun W n hn => need_ok W s.label n hn
 have hnbad := fun W n hn => need_bad W s.label n hn
 unfold tkV at hnok hnbad
 have HL2 := Kd hL2
 have Hm2 := Kd hm2
 have HS2 := Kd hS2
 have HX2 := Kd hX2
 clear hL2 hm2 hS2 hX2
 refine region_canonP (.read 0 (.read 1 (.read 2 (.read 3 (.read 4 (.read 5 (.read 6 (.read 7 (.read 8 (.read 9 (.read 10 (.one 11 [0, 1] (.one 12 [] (.done)))))))))))))) (by kernel_rfl) (by kernel_rfl) ?_
 iterate 11 (refine canonP_read rfl (fun K hK => ?_); go_simp; (try go_bits); (try (rw [if_pos (by omega)]; go_simp)); refine hK _ ?_; clear hK K)
 refine canonP_oneL rfl ?_
 go_wp2_with (go_at_call 132; go_must (refine (hlb _ (Same.drew [] _)).mono ?_; rintro e3 W3 ⟨rfl, TA3, hT3, hm3⟩))
 obtain ⟨hL3, hmv3⟩ := (HL2.out.same (Same.drew [] W2)).setTbl hT3 hm3
 dsimp only at hL3 hmv3
 have hmv03 := (Hm2.out.trans (Move.of_same (Same.drew [] W2))).trans hmv3
 have hS3 := hm3.same.get ((Same.drew [] W2).get HS2.out (by simp)) (fun hm => by have := HL2.out.tbl.lt _ hm; have h3 := Hlt.out _ (LV.mem.2 (.inr (.inr (.inr (.inr (.inr (.inr (.inl hm)))))))); omega)
 have hX3 := hm3.same.get ((Same.drew [] W2).get HX2.out (by simp)) (fun hm => by have := HL2.out.tbl.lt _ hm; have h3 := Hlt.out _ (LV.mem.2 (.inr (.inr (.inr (.inr (.inr (.inr (.inl hm)))))))); omega)
 clear hT3 hm3 l0 ll n2 n6 nl x0 x1 x2 x3 xf xl s0 s1 s2 s3 s4 s5 s6 s7 s8 s9 s10 s11 s12 s13 s14 s15 sf sl
 have l0 := blk_c (i := 0) (v := .pointer (some ⟨F.nb, 0, none⟩)) hL3.lb
 have ll := blk_lt hL3.lb
 have n6 := blk_c (i := 6) (v := .map (some F.mh)) hL3.nbb
 have nl := blk_lt hL3.nbb
 obtain ⟨x0, x1, x2, x3, xf⟩ := blk4 hX3
 obtain ⟨s0, s1, s2, s3, s4, s5, s6, s7, s8, s9, s10, s11, s12, s13, s14, s15, sf⟩ := stO_cells hS3
 have sl := blk_lt hS3
 have xl := blk_lt hX3
 have HL3 := Kd hL3
 have Hmv3 := Kd hmv03
 have HX3 := Kd hX3
 clear hL3 hmv3 hmv03 hX3 hS3
 refine EP.A ?_
 refine canonP_oneL rfl ?_
 by_cases hz : (L.tbl.label x.label).1 = 0
 ·have hr : L.hyp s x = .ok { L with labels := L.labels + 1, tbl := (L.tbl.label x.label).2, hyps := aput x.label x L.hyps } := by unfold Ld.hyp needE; rw [if_pos hz]; rfl
  rw [hr]
  have HZ := Kd hz
  clear hz
  go_wp2_with (go_at_call 63; go_must (refine (hnok _ _ HZ.out).mono ?_; rintro e4 W4 ⟨rfl, hs4⟩))
  have hL4 := HL3.out.same hs4
  have hX4 := hs4.get HX3.out (by simp)
  have Hmv4 := Kd (Hmv3.out.trans (Move.of_same hs4))
  clear hs4 l0 ll n6 nl x0 x1 x2 x3 xf xl s0 s1 s2 s3 s4 s5 s6 s7 s8 s9 s10 s11 s12 s13 s14 s15 sf sl
  refine EP.A ?_
  refine canonP_done ?_
  have l0 := blk_c (i := 0) (v := .pointer (some ⟨F.nb, 0, none⟩)) hL4.lb
  have ll := blk_lt hL4.lb
  have n6 := blk_c (i := 6) (v := .map (some F.mh)) hL4.nbb
  have nl := blk_lt hL4.nbb
  obtain ⟨x0, x1, x2, x3, xf⟩ := blk4 hX4
  have xl := blk_lt hX4
  have HL4 := Kd hL4
  clear hL4 hX4
  go_wp2
  refine region_canon (.read 0 (.read 1 (.read 2 (.read 3 (.read 4 (.read 5 (.read 6 (.read 7 (.read 8 (.read 9 (.one 10 [] (.done)))))))))))) (by kernel_rfl) (by kernel_rfl) ?_
  iterate 10 (refine canon_read rfl (fun K hK => ?_); go_simp; (try go_bits); (try (rw [if_pos (by omega)]; go_simp)); refine hK _ ?_; clear hK K)
  refine canon_oneL rfl ?_
  refine wp_sput (HL4.out.hyps.same (Same.drew [] _) (by simp)) Tryz.underlying81 Tryz.underlying9 rfl _ _ _ rfl x.label (.agg #[.string x.label, .bool x.floating, .int .i64 x.var, .slice Ae x.expr.length ce]) (by go_simp) (by go_simp) (by go_simp) ?_
  intro W5 hm5 hs5
  have hL5 := HL4.out.same (Same.drew [] W4)
  have hv4 : Ints W4.drew (LV.blocks { V with TA := TA3 } F) (.slice Ae x.expr.length ce) x.expr := Hv.out.move (Hmv4.out.trans (Move.of_same (Same.drew [] W4)))
  obtain ⟨hL6, hm6⟩ := hL5.setHyp x.label x hv4 hm5 hs5
  have Hm6 := Kd ((Hmv4.out.trans (Move.of_same (Same.drew [] W4))).trans hm6)
  have HL6 := Kd hL6
  clear hL5 hv4 hL6 hm6
  go_wp2
  refine EQ.A ?_
  refine canon_done ?_
  go_wp2
  refine bodyPost_end (results_none rfl _ _ _) rfl ?_
  exact ⟨rfl, _, HL6.out, Hm6.out⟩
 ·have hr : L.hyp s x = .error (s.label, (L.tbl.label x.label).1) := by unfold Ld.hyp needE; rw [if_neg hz]; rfl
  rw [hr]
  have HZ := Kd hz
  clear hz
  go_wp2_with (go_at_call 63; go_must (refine (hnbad _ _ HZ.out).mono ?_; rintro e4 W4 ⟨b, rfl, hf, hs4⟩))
  refine ⟨rfl, fun a' ha' => ⟨ha', ?_⟩⟩
  exact ⟨b, rfl, hf, Hmv3.out.same.then (hs4.mono (T := V.blocks F) (by simp)) fun _ hx => .inl hx⟩
structure LRd where
 out : List (Int × Tk)
 n : Nat
 within : Bool
def LRd.tell (r : LRd) (n : Int) (t : Tk) : LRd := ⟨r.out ++ [(n, t)], 0, false⟩
def LRd.broken (r : LRd) (t : Tk) : LRd := if r.within = true then r.tell (-3) t else r
def meaningN (c : Nat) : Int := if c = 90 then -1 else if c = 63 then -2 else -3
def LRd.letter (r : LRd) (c : Nat) (t : Tk) : LRd :=
 if 85 ≤ c ∧ c ≤ 89 then ⟨r.out, min (r.n * 5 + (c - 85) + 1) 1125899906842624, true⟩
 else if 65 ≤ c ∧ c ≤ 84 then r.tell ((min (r.n * 20 + (c - 65)) 1125899906842624 : Nat) : Int) t
 else (r.broken t).tell (meaningN c) t
def codeCells (l : List (Int × Tk)) : List Value := l.flatMap fun p => .int .i64 p.1 :: p.2.cells
theorem codeCells_snoc (l : List (Int × Tk)) (n : Int) (t : Tk) : codeCells (l ++ [(n, t)]) = codeCells l ++ [.int .i64 n, .string t.text, .int .i64 t.at_.off, .int .i64 t.at_.line, .int .i64 t.at_.col] := by simp [codeCells, Tk.cells, Ps.cells]
structure LrAt (w : World) (r : Nat) (v : Value) (R : LRd) : Prop where
 blk : w.heap[r]? = some (.cells #[v, .int .i64 R.n, .bool R.within] 251 (0, 0))
 row : Row w 278 5 v R.out.length (codeCells R.out)
theorem LrAt.same {w w' : World} {r : Nat} {v : Value} {R : LRd} (h : LrAt w r v R) (hs : Same [] w w') : LrAt w' r v R := ⟨hs.get h.blk (by simp), h.row.same hs (by simp)⟩
def LrR (r : Nat) (v : Value) (R' : LRd) (w w' : World) : Prop := ∃ v', LrAt w' r v' R' ∧ Same (r :: v.ownBlock.toList) w w' ∧ (v'.ownBlock = v.ownBlock ∨ ∃ b, v'.ownBlock = some b ∧ w.heap.size ≤ b)
theorem LrR.then {r : Nat} {v v1 : Value} {R' : LRd} {w w1 w' : World} (hs : Same (r :: v.ownBlock.toList) w w1) (ho : v1.ownBlock = v.ownBlock ∨ ∃ b, v1.ownBlock = some b ∧ w.heap.size ≤ b) (h : LrR r v1 R' w1 w') : LrR r v R' w w' := by
 obtain ⟨v', h1, h2, h3⟩ := h
 refine ⟨v', h1, hs.then h2 fun x hx => ?_, ?_⟩
 ·rcases List.mem_cons.1 hx with rfl | hx
  ·exact .inl (List.mem_cons_self ..)
  ·have hx' := Option.mem_toList.1 hx
   rcases ho with ho | ⟨b, hb, hle⟩
   ·exact .inl (List.mem_cons_of_mem _ (Option.mem_toList.2 (by rw [← ho]; exact hx')))
   ·have he : some b = some x := hb.symm.trans hx'
    cases he
    exact .inr hle
 ·rcases h3 with h3 | ⟨b, hb, hle⟩
  ·rw [h3]; exact ho
  ·exact .inr ⟨b, hb, Nat.le_trans hs.size hle⟩
theorem Tryz.infoCode : (Tryz.prog.info? 278).map (fun i => (i.zero, i.size, i.bytes)) = some (some (.agg #[.int .i64 0, .string ByteArray.empty, .int .i64 0, .int .i64 0, .int .i64 0]), 5, 48) := by kernel_rfl
theorem tell_calls (w : World) (r : Nat) (v : Value) (R : LRd) (h : LrAt w r v R) (hn : R.out.length ≤ 2000000000000) (n : Int) (t : Tk) : Calls Tryz.prog 181 #[.pointer (some ⟨r, 0, none⟩), .int .i64 n, tkV t] w fun e w' => e = .returned (.tuple #[]) ∧ LrR r v (R.tell n t) w w' := by
 obtain ⟨Av, cv, rfl⟩ := h.row.shape
 have c0 := blk_c (i := 0) (v := .slice Av R.out.length cv) h.blk
 have rl := blk_lt h.blk
 have hne := h.row.ne h.blk (by decide)
 have H := Kd h
 have Hne := Kd hne
 unfold tkV
 clear h hne
 go_enter Tryz.func181, Tryz.ntmps181
 go_wp2
 refine region_canon (.read 0 (.read 1 (.read 2 (.read 3 (.read 4 (.read 5 (.read 6 (.read 7 (.one 8 [0, 1, 2, 3, 4] (.one 9 [0] (.read 10 (.read 11 (.one 12 [] (.done)))))))))))))) (by kernel_rfl) (by kernel_rfl) ?_
 iterate 8 (refine canon_read rfl (fun K hK => ?_); go_simp; (try go_bits); (try (rw [if_pos (by omega)]; go_simp)); refine hK _ ?_; clear hK K)
 refine canon_oneL rfl ?_
 go_wp2
 refine EQ.A ?_
 refine canon_oneL rfl ?_
 refine wp_push (W := (w.alloc (.cells #[.string t.text, .int .i64 t.at_.off, .int .i64 t.at_.line, .int .i64 t.at_.col] 54)).drew) rfl _ _ 159 rfl 278 5 48 _ Tryz.underlying159 Tryz.infoCode rfl (by decide) (.slice Av R.out.length cv) _ _ (by go_simp) (H.out.row.same ((Same.alloc [] w _).trans (Same.drew [] _)) (by simp)) [.int .i64 n, .string t.text, .int .i64 t.at_.off, .int .i64 t.at_.line, .int .i64 t.at_.col] (by go_simp) rfl (by simp [Value.oneCell']) (by omega) (by decide) ?_
 intro v3 w3 hr3 hs3 ho3
 obtain ⟨A3, c3, rfl⟩ := hr3.shape
 have hs03 := ((Same.alloc _ w _).trans (Same.drew _ _)).trans hs3
 have hb3 := hs03.get H.out.blk (by simpa using Hne.out)
 have d0 := blk_c (i := 0) (v := .slice Av R.out.length cv) hb3
 have d1 := blk_c (i := 1) (v := .int .i64 R.n) hb3
 have d2 := blk_c (i := 2) (v := .bool R.within) hb3
 have df := blk_free hb3
 have dl := blk_lt hb3
 have Hb3 := Kd hb3
 have Hr3 := Kd hr3
 have Hs3 := Kd hs03
 have Ho3 := Kd ho3
 clear hs3 hs03 hr3 ho3 hb3
 go_wp2
 refine EQ.A ?_
 iterate 2 (refine canon_read rfl (fun K hK => ?_); go_simp; (try go_bits); (try (rw [if_pos (by omega)]; go_simp)); refine hK _ ?_; clear hK K)
 refine canon_oneL rfl ?_
 go_wp2
 refine EQ.A ?_
 refine canon_done ?_
 go_wp2
 refine bodyPost_end (results_none rfl _ _ _) rfl ?_
 refine ⟨rfl, .slice A3 (R.out.length + 1) c3, ⟨?_, ?_⟩, (Hs3.out.mono fun x hx => .inl (List.mem_cons_of_mem _ hx)).trans (((Same.setCell _ _ _ (by simp)).trans (Same.setCell _ _ _ (by simp))).trans (Same.setCell _ _ _ (by simp))), ?_⟩
 ·have hx := blk_set (blk_set (blk_set Hb3.out 0 (.slice A3 (R.out.length + 1) c3)) 1 (.int .i64 0)) 2 (.bool false)
  simpa [LRd.tell] using hx
 ·unfold LRd.tell
  dsimp only
  rw [codeCells_snoc, List.length_append]
  have hn3 : ∀ b, (Value.slice A3 (R.out.length + 1) c3).ownBlock = some b → b ∉ [r] := fun b hb hm => by
   have := List.mem_singleton.1 hm
   subst this
   exact Hr3.out.ne Hb3.out (by decide) hb
  exact ((Hr3.out.same (Same.setCell _ _ _ (S := [r]) (by simp)) hn3).same (Same.setCell _ _ _ (S := [r]) (by simp)) hn3).same (Same.setCell _ _ _ (S := [r]) (by simp)) hn3
 ·exact Ho3.out.imp id fun ⟨b, h1, h2⟩ => ⟨b, h1, by rw [size_drew', size_alloc'] at h2; omega⟩
end Go.Proofs.YtdhkmfpfbjcdiaaGreatDoor
