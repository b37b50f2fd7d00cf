/- lemmalaw texts, part 43. -/
import Derived.Test.YtbfbgfpghkijdaaGreatDoorYax
import Derived.Test.YtbfbgfpghkijdaaGreatDoorYay
import Derived.Test.YtbfbgfpghkijdaaGreatDoorYaz
import Derived.Test.YtbfbgfpghkijdaaGreatDoorYbo
import Derived.Test.YtbfbgfpghkijdaaGreatDoorYbp
import Derived.Lib.OthersKept
import Derived.Laws.RangeString
set_option maxRecDepth 100000
set_option linter.unusedVariables false
set_option linter.unusedSimpArgs false
set_option maxHeartbeats 32000000
namespace Go.Proofs.YtbfbgfpghkijdaaGreatDoor
open Go.RowKit
theorem zq84 {P : Prop} (h : P := by
 rw [ha] at hlk
 dsimp only [Option.map, Option.getD, Option.isSome] at hlk ⊢
 clear h ha
 go_enter Tryz.func23, Tryz.ntmps23
 go_wp2
 go_ret2
 exact ⟨rfl, rfl⟩) : P := h
theorem Mu (w : World) (nb : Nat) (P : BP) (B : Bs) (h : FG w nb P B) (l : ByteArray) : Calls Tryz.prog 23 #[.pointer (some ⟨nb, 0, none⟩), .string l] w fun e w' => e = .returned (.tuple #[.int .i64 ((AJ l B.ld.finds).getD 0 : Nat), .bool (AJ l B.ld.finds).isSome]) ∧ w' = w := by
 have n5 := Ai (i := 5) (v := .map (some P.mf)) h.blk
 have hlk := h.finds.run_lookup Tryz.underlying84 Tryz.underlying9 (Dp w) l true
 rw [Bu, if_pos rfl] at hlk
 cases ha : AJ l B.ld.finds with
 | none =>
  exact zq84
 | some n =>
  exact zq84
def hy0 : Value := .agg #[.string ⟨#[]⟩, .bool false, .int .i64 0, .slice none 0 0]
def Q8 (o : Option Hy) (w : World) (e : Ending) (w' : World) : Prop := ∃ a b c A n k, e = .returned (.tuple #[.agg #[.string a, .bool b, .int .i64 c, .slice A n k], .bool o.isSome]) ∧ Ad [] w w'
theorem Qb (w : World) : (zeroValue 49).run Tryz.prog w = .ok (.agg #[.string ⟨#[]⟩, .bool false, .int .i64 0, .slice none 0 0]) w := Oq w
theorem N0 (w : World) (nb : Nat) (P : BP) (B : Bs) (h : FG w nb P B) (hb : ∀ p ∈ B.ld.hyps, p.2.expr.length ≤ 1000000) (s : ByteArray) : Calls Tryz.prog 142 #[.pointer (some ⟨nb, 0, none⟩), .string s] w (Q8 (AJ s B.ld.hyps) w) := by
 have n6 := Ai (i := 6) (v := .map (some P.mh)) h.blk
 have nl := Af h.blk
 have hlk := fun (o : Obj) => (h.hyps.same (Ad.alloc [] w o) (by simp)).run_lookup Tryz.underlying85 Tryz.underlying9 (Qb _) s true
 rcases P8 s h.hin with ⟨g1, g2⟩ | ⟨x, ev, g1, g2, hi⟩
 ·simp only [if_true, g2, Option.getD_none, Option.isSome_none] at hlk
  rw [g1]
  have hcl := fun (W : World) => Cb (.slice none 0 0) [] W (Seg.nil _) (by simp)
  clear h g1 g2 hb
  go_enter Tryz.func142, Tryz.ntmps142
  go_upto_region 2 with fail
  have hB4 : ((w.alloc (.cells #[.string ⟨#[]⟩, .bool false, .int .i64 0, .slice none 0 0] 49)).alloc (Obj.cells #[.string ⟨#[]⟩, .bool false, .int .i64 0, .slice none 0 0] 49)).heap[w.heap.size]? = some (.cells #[.string ⟨#[]⟩, .bool false, .int .i64 0, .slice none 0 0] 49 (0, 0)) := AR (Aj _ _) _
  have hB6 := Aj (w.alloc (.cells #[.string ⟨#[]⟩, .bool false, .int .i64 0, .slice none 0 0] 49)) (Obj.cells #[.string ⟨#[]⟩, .bool false, .int .i64 0, .slice none 0 0] 49)
  rw [AA] at hB6
  have hs0 : Ad [] w ((w.alloc (.cells #[.string ⟨#[]⟩, .bool false, .int .i64 0, .slice none 0 0] 49)).alloc (Obj.cells #[.string ⟨#[]⟩, .bool false, .int .i64 0, .slice none 0 0] 49)) := (Ad.alloc [] _ _).trans (Ad.alloc [] _ _)
  generalize (w.alloc (.cells #[.string ⟨#[]⟩, .bool false, .int .i64 0, .slice none 0 0] 49)).alloc (Obj.cells #[.string ⟨#[]⟩, .bool false, .int .i64 0, .slice none 0 0] 49) = W0 at hB4 hB6 hs0 ⊢
  have e6 := BV hB6
  have l6 := Af hB6
  have HB4 := Kd hB4
  have HB6 := Kd hB6
  have Hs0 := Kd hs0
  obtain ⟨e60, e61, e62, e63, e6f⟩ := e6
  clear hB4 hB6 hs0
  go_wp2_with (go_at_call 51; go_must (refine (hcl _).mono ?_; rintro e1 W1 ⟨v1, rfl, hr1, hs1, hf1⟩; obtain ⟨A1, c1, rfl⟩ := hr1.shape; clear e60 e61 e62 e63 e6f l6; obtain ⟨e60, e61, e62, e63, e6f⟩ := BV (hs1.get HB6.out (by simp)); have l6 := Af (hs1.get HB6.out (by simp)); obtain ⟨e40, e41, e42, e43, e4f⟩ := BV (hs1.get HB4.out (by simp)); have l4 := Af (hs1.get HB4.out (by simp)); have HB41 := Kd (hs1.get HB4.out (by simp)); have Hs1 := Kd hs1; clear hr1 hs1 hf1))
  have hy := AI (AI (AI (AI ((AG (w := W1) ⟨w.heap.size + 1, 3, none⟩ (.slice A1 0 c1) (b := w.heap.size) (by simp)).trans HB41.out) 0 (.string ⟨#[]⟩)) 1 (.bool false)) 2 (.int .i64 0)) 3 (.slice A1 0 c1)
  simp only [List.setIfInBounds_toArray, List.set_cons_succ, List.set_cons_zero] at hy
  obtain ⟨y0, y1, y2, y3, yf⟩ := BV hy
  refine bodyPost_ret_by (v := .tuple #[.agg #[(.string ⟨#[]⟩), (.bool false), (.int .i64 0), (.slice A1 0 c1)], .bool false]) (by simp [results, Tryz.f142, go_sem, y0, y1, y2, y3]) rfl ?_
  have hsf := (((((Hs0.out.trans Hs1.out).setNew ⟨w.heap.size + 1, 3, none⟩ (.slice A1 0 c1) (Nat.le_succ _)).setNew ⟨w.heap.size, 0, none⟩ (.string ⟨#[]⟩) (Nat.le_refl _)).setNew ⟨w.heap.size, 1, none⟩ (.bool false) (Nat.le_refl _)).setNew ⟨w.heap.size, 2, none⟩ (.int .i64 0) (Nat.le_refl _)).setNew ⟨w.heap.size, 3, none⟩ (.slice A1 0 c1) (Nat.le_refl _)
  exact ⟨⟨#[]⟩, false, 0, A1, 0, c1, rfl, hsf⟩
 ·simp only [if_true, g2, Option.getD_some, Option.isSome_some] at hlk
  rw [g1]
  have hxb : x.expr.length ≤ 1000000 := by
   have key : ∀ l : List (ByteArray × Hy), AJ s l = some x → (s, x) ∈ l := by
    exact zq72
   exact hb _ (key _ g1)
  have hcl := fun (W : World) (hW : Ad [] w W) => Cb ev x.expr W ((Seg.of_row hi.row).same hW) hxb
  obtain ⟨Ae, ce, rfl⟩ := hi.row.shape
  clear h g1 g2 hb hi
  go_enter Tryz.func142, Tryz.ntmps142
  go_upto_region 2 with fail
  have hB4 : ((w.alloc (.cells #[.string ⟨#[]⟩, .bool false, .int .i64 0, .slice none 0 0] 49)).alloc (Obj.cells #[.string x.label, .bool x.floating, .int .i64 x.var, .slice Ae x.expr.length ce] 49)).heap[w.heap.size]? = some (.cells #[.string ⟨#[]⟩, .bool false, .int .i64 0, .slice none 0 0] 49 (0, 0)) := AR (Aj _ _) _
  have hB6 := Aj (w.alloc (.cells #[.string ⟨#[]⟩, .bool false, .int .i64 0, .slice none 0 0] 49)) (Obj.cells #[.string x.label, .bool x.floating, .int .i64 x.var, .slice Ae x.expr.length ce] 49)
  rw [AA] at hB6
  have hs0 : Ad [] w ((w.alloc (.cells #[.string ⟨#[]⟩, .bool false, .int .i64 0, .slice none 0 0] 49)).alloc (Obj.cells #[.string x.label, .bool x.floating, .int .i64 x.var, .slice Ae x.expr.length ce] 49)) := (Ad.alloc [] _ _).trans (Ad.alloc [] _ _)
  generalize (w.alloc (.cells #[.string ⟨#[]⟩, .bool false, .int .i64 0, .slice none 0 0] 49)).alloc (Obj.cells #[.string x.label, .bool x.floating, .int .i64 x.var, .slice Ae x.expr.length ce] 49) = W0 at hB4 hB6 hs0 ⊢
  have e6 := BV hB6
  have l6 := Af hB6
  have HB4 := Kd hB4
  have HB6 := Kd hB6
  have Hs0 := Kd hs0
  obtain ⟨e60, e61, e62, e63, e6f⟩ := e6
  clear hB4 hB6 hs0
  go_wp2_with (go_at_call 51; go_must (refine (hcl _ Hs0.out).mono ?_; rintro e1 W1 ⟨v1, rfl, hr1, hs1, hf1⟩; obtain ⟨A1, c1, rfl⟩ := hr1.shape; clear e60 e61 e62 e63 e6f l6; obtain ⟨e60, e61, e62, e63, e6f⟩ := BV (hs1.get HB6.out (by simp)); have l6 := Af (hs1.get HB6.out (by simp)); obtain ⟨e40, e41, e42, e43, e4f⟩ := BV (hs1.get HB4.out (by simp)); have l4 := Af (hs1.get HB4.out (by simp)); have HB41 := Kd (hs1.get HB4.out (by simp)); have Hs1 := Kd hs1; clear hr1 hs1 hf1))
  have hy := AI (AI (AI (AI ((AG (w := W1) ⟨w.heap.size + 1, 3, none⟩ (.slice A1 x.expr.length c1) (b := w.heap.size) (by simp)).trans HB41.out) 0 (.string x.label)) 1 (.bool x.floating)) 2 (.int .i64 x.var)) 3 (.slice A1 x.expr.length c1)
  simp only [List.setIfInBounds_toArray, List.set_cons_succ, List.set_cons_zero] at hy
  obtain ⟨y0, y1, y2, y3, yf⟩ := BV hy
  refine bodyPost_ret_by (v := .tuple #[.agg #[(.string x.label), (.bool x.floating), (.int .i64 x.var), (.slice A1 x.expr.length c1)], .bool true]) (by simp [results, Tryz.f142, go_sem, y0, y1, y2, y3]) rfl ?_
  have hsf := (((((Hs0.out.trans Hs1.out).setNew ⟨w.heap.size + 1, 3, none⟩ (.slice A1 x.expr.length c1) (Nat.le_succ _)).setNew ⟨w.heap.size, 0, none⟩ (.string x.label) (Nat.le_refl _)).setNew ⟨w.heap.size, 1, none⟩ (.bool x.floating) (Nat.le_refl _)).setNew ⟨w.heap.size, 2, none⟩ (.int .i64 x.var) (Nat.le_refl _)).setNew ⟨w.heap.size, 3, none⟩ (.slice A1 x.expr.length c1) (Nat.le_refl _)
  exact ⟨_, _, _, A1, _, c1, rfl, hsf⟩
structure LRd where
 out : List (Int × Tk)
 n : Nat
 within : Bool
def LRd.tell (r : LRd) (n : Int) (t : Tk) : LRd := ⟨r.out ++ [(n, t)], 0, false⟩
def LRd.broken (r : LRd) (t : Tk) : LRd := if r.within = true then r.tell (-3) t else r
def PU (c : Nat) : Int := if c = 90 then -1 else if c = 63 then -2 else -3
def LRd.letter (r : LRd) (c : Nat) (t : Tk) : LRd :=
 if 85 ≤ c ∧ c ≤ 89 then ⟨r.out, min (r.n * 5 + (c - 85) + 1) 1125899906842624, true⟩
 else if 65 ≤ c ∧ c ≤ 84 then r.tell ((min (r.n * 20 + (c - 65)) 1125899906842624 : Nat) : Int) t
 else (r.broken t).tell (PU c) t
def KZ (l : List (Int × Tk)) : List Value := l.flatMap fun p => .int .i64 p.1 :: p.2.cells
structure OD (w : World) (r : Nat) (v : Value) (R : LRd) : Prop where
 blk : w.heap[r]? = some (.cells #[v, .int .i64 R.n, .bool R.within] 243 (0, 0))
 row : Row w 187 5 v R.out.length (KZ R.out)
theorem OD.same {w w' : World} {r : Nat} {v : Value} {R : LRd} (h : OD w r v R) (hs : Ad [] w w') : OD w' r v R := ⟨hs.get h.blk (by simp), h.row.same hs (by simp)⟩
def LrR (r : Nat) (v : Value) (R' : LRd) (w w' : World) : Prop := ∃ v', OD w' r v' R' ∧ Ad (r :: v.ownBlock.toList) w w' ∧ (v'.ownBlock = v.ownBlock ∨ ∃ b, v'.ownBlock = some b ∧ w.heap.size ≤ b)
theorem LrR.then {r : Nat} {v v1 : Value} {R' : LRd} {w w1 w' : World} (hs : Ad (r :: v.ownBlock.toList) w w1) (ho : v1.ownBlock = v.ownBlock ∨ ∃ b, v1.ownBlock = some b ∧ w.heap.size ≤ b) (h : LrR r v1 R' w1 w') : LrR r v R' w w' := by
 obtain ⟨v', h1, h2, h3⟩ := h
 refine ⟨v', h1, hs.then h2 fun x hx => ?_, ?_⟩
 ·rcases List.mem_cons.1 hx with rfl | hx
  ·exact .inl (List.mem_cons_self ..)
  ·have hx' := Option.mem_toList.1 hx
   rcases ho with ho | ⟨b, hb, hle⟩
   ·exact .inl (List.mem_cons_of_mem _ (Option.mem_toList.2 (by rw [← ho]; exact hx')))
   ·have he : some b = some x := hb.symm.trans hx'
    cases he
    exact .inr hle
 ·rcases h3 with h3 | ⟨b, hb, hle⟩
  ·rw [h3]; exact ho
  ·exact .inr ⟨b, hb, Nat.le_trans hs.size hle⟩
theorem OD.keep {w w' : World} {r : Nat} {v : Value} {R : LRd} (h : OD w r v R) (hs : Ad [] w w') : LrR r v R w w' := ⟨v, h.same hs, hs.mono (by simp), .inl rfl⟩
def Nu (t : Tk) : Prop := ∀ (i : Nat) (h : i < t.text.size), (t.text[i]'h).toNat < 128
def LRd.word (R : LRd) (t : Tk) : LRd := t.text.data.toList.foldl (fun R c => R.letter c.toNat t) R
def LRd.words (R : LRd) (ws : List Tk) : LRd := ws.foldl LRd.word R
def LRd.zero : LRd := ⟨[], 0, false⟩
def LRd.take (R : LRd) (t : Tk) (k : Nat) : LRd := (t.text.data.toList.take k).foldl (fun R c => R.letter c.toNat t) R
end Go.Proofs.YtbfbgfpghkijdaaGreatDoor
namespace Go.Proofs.YtbfbgfpghkijdaaGreatDoor
def RR (t : ByteArray) (a k : Nat) : Prop := ∀ i, a ≤ i → i < k → (t[i]!).toNat < 128
theorem IY {t : ByteArray} {a k : Nat} (h : RR t a k) (hk : k ≤ t.size) (q : Ps) : Nu ⟨t.extract a k, q⟩ := by
 intro i hi
 have hi' : i < (t.extract a k).size := hi
 rw [ByteArray.size_extract] at hi'
 show ((t.extract a k)[i]'hi).toNat < 128
 rw [ByteArray.getElem_extract]
 have := h (a + i) (by omega) (by omega)
 rwa [getElem!_pos t (a + i) (by omega)] at this
theorem Jt (q : Ps) : Nu ⟨⟨#[]⟩, q⟩ := fun i h => absurd h (Nat.not_lt_zero i)
theorem Jk (p : Ps) (c : UInt8) : (p.next c).off = p.off + 1 := by unfold Ps.next; split <;> rfl
theorem zq124 {P : Prop} (h : P := by
 obtain ⟨h1, h2⟩ := hw h0
 have := IY h2 (by omega) w.at_
 rw [← h1] at this
 exact this) : P := h
theorem Ez (t : ByteArray) : ∀ (n k : Nat) (p : Ps) (w : Tk), k + n = t.size → p.off = k → (w.text.size ≠ 0 → w.text = t.extract w.at_.off k ∧ RR t w.at_.off k) → ∀ x ∈ Cl t n k p w, Nu x.word
 | 0, k, p, w, hk, hp, hw, x, hx => by
  unfold Cl at hx
  split at hx
  ·cases hx
  ·rename_i h0
   simp at hx
   subst hx
   exact zq124
 | n + 1, k, p, w, hk, hp, hw, x, hx => by
  unfold Cl at hx
  dsimp only at hx
  split at hx
  ·simp at hx; subst hx; exact Jt _
  split at hx
  ·simp at hx; subst hx; exact Jt _
  split at hx
  ·rename_i h2
   have h3 : (t[k]!).toNat < 128 := by
    unfold CM at h2
    split at h2
    ·omega
    ·split at h2 <;> omega
   refine Ez t n (k + 1) _ _ (by omega) (by rw [Jk, hp]) (fun _ => ⟨rfl, ?_⟩) x hx
   intro i hi hik
   dsimp only at hi
   by_cases hik2 : i = k
   ·subst hik2; exact h3
   ·split at hi
    ·omega
    ·rename_i h0
     exact (hw h0).2 i hi (by omega)
  split at hx
  ·rename_i h0
   exact Ez t n (k + 1) _ _ (by omega) (by rw [Jk, hp]) (fun h => absurd h0 h) x hx
  ·rename_i h0
   rcases List.mem_cons.1 hx with rfl | hx
   ·exact zq124
   ·exact Ez t n (k + 1) _ _ (by omega) (by rw [Jk, hp]) (fun h => absurd rfl h) x hx
def TkN (t : Tk) : Prop := TkP t ∧ Nu t
theorem TkN.none : TkN Tk.none := ⟨TkP.none, Jt _⟩
theorem DM (Q : Tk → Prop) : ∀ (l : List It) (out : List Tk) (op : Option Tk), (∀ x ∈ l, Q x.word) → (∀ x ∈ out, Q x) → ∀ x ∈ (BX l out op).1, Q x
 | [], out, op, hl, ho, x, hx => by unfold BX at hx; exact ho x hx
 | y :: r, out, op, hl, ho, x, hx => by
  have hr : ∀ x ∈ r, Q x.word := fun x hx => hl x (List.mem_cons_of_mem _ hx)
  unfold BX at hx
  split at hx
  ·exact ho x hx
  ·split at hx
   ·split at hx
    ·exact DM Q r _ _ hr ho x hx
    ·split at hx
     ·exact ho x hx
     ·exact DM Q r _ _ hr ho x hx
   ·split at hx
    ·exact DM Q r _ _ hr ho x hx
    ·split at hx
     ·exact ho x hx
     ·split at hx
      ·exact ho x hx
      ·refine DM Q r _ _ hr (fun z hz => ?_) x hx
       exact zq103
theorem JU (t : ByteArray) : ∀ x ∈ (BM t).1, Nu x := DM Nu _ _ _ (Ez t t.size 0 _ _ (by omega) rfl (fun h => absurd rfl h)) (by simp)
structure SQ (Q : Tk → Prop) (s : St) : Prop where
 words : ∀ w ∈ s.words, Q w
 proof : ∀ w ∈ s.proof, Q w
 label : Q s.label
 key : Q s.key
 end_ : Q s.end_
structure RQ (Q : Tk → Prop) (R : Rd) : Prop where
 out : ∀ s ∈ R.out, SQ Q s
 now : ∀ s, R.now = some s → SQ Q s
 lab : ∀ t, R.label = some t → Q t
section
variable {Q : Tk → Prop}
theorem RN {o : Option Tk} (hn : Q Tk.none) (h : ∀ t, o = some t → Q t) : Q (o.getD Tk.none) := by
 cases o with
 | none => exact hn
 | some t => exact h t rfl
theorem RQ.between (hq : Q Tk.none) {R : Rd} (h : RQ Q R) {t : Tk} (ht : Q t) (hn : R.now = none) : RQ Q (R.between t).2 := by
 unfold Rd.between
 split
 ·split
  ·exact h
  ·exact ⟨h.out, h.now, fun u hu => by cases hu; exact ht⟩
 ·dsimp only
  split
  ·exact h
  ·split
   ·exact h
   ·have hS : ∀ e, Q e → SQ Q ⟨DR t.text + 1, R.label.getD Tk.none, t, false, [], [], e⟩ := fun e he => ⟨by simp, by simp, RN hq h.lab, ht, he⟩
    split
    ·refine ⟨fun s hs => ?_, fun s hs => (by dsimp only at hs; rw [hn] at hs; cases hs), fun u hu => by cases hu⟩
     rcases List.mem_append.1 hs with hs | hs
     ·exact h.out s hs
     ·simp at hs; subst hs; exact hS t ht
    ·refine ⟨h.out, fun s hs => ?_, fun u hu => by cases hu⟩
     cases hs
     exact hS _ hq
theorem RQ.within {R : Rd} (h : RQ Q R) {s : St} {t : Tk} (ht : Q t) (hn : R.now = some s) : RQ Q (R.within s t).2 := by
 have h1 := h.now s hn
 unfold Rd.within
 split
 ·split
  ·refine ⟨h.out, fun u hu => ?_, h.lab⟩
   cases hu
   refine ⟨h1.words, fun w hw => ?_, h1.label, h1.key, h1.end_⟩
   exact zq120
  ·split
   ·exact h
   ·refine ⟨h.out, fun u hu => ?_, h.lab⟩
    cases hu
    refine ⟨fun w hw => ?_, h1.proof, h1.label, h1.key, h1.end_⟩
    exact zq121
 ·split
  ·split
   ·exact h
   ·refine ⟨h.out, fun u hu => ?_, h.lab⟩
    cases hu
    exact ⟨h1.words, h1.proof, h1.label, h1.key, h1.end_⟩
  ·split
   ·split
    ·exact h
    ·refine ⟨fun u hu => ?_, fun u hu => (by cases hu), h.lab⟩
     rcases List.mem_append.1 hu with hu | hu
     ·exact h.out u hu
     ·simp at hu
      subst hu
      exact ⟨h1.words, h1.proof, h1.label, h1.key, ht⟩
   ·exact h
theorem RQ.step (hq : Q Tk.none) {R : Rd} (h : RQ Q R) {t : Tk} (ht : Q t) : RQ Q (R.step t).2 := by
 unfold Rd.step
 split
 ·rename_i hn; exact h.between hq ht hn
 ·rename_i s hn; exact h.within ht hn
theorem Nf (hq : Q Tk.none) : ∀ (ws : List Tk) (R : Rd), RQ Q R → (∀ w ∈ ws, Q w) → RQ Q (DY ws R).1
 | [], R, h, _ => h
 | t :: ws, R, h, hw => by
  have hs := h.step hq (hw t (List.mem_cons_self ..))
  unfold DY
  split
  ·exact Nf hq ws _ hs fun w h => hw w (List.mem_cons_of_mem _ h)
  ·exact hs
theorem RQ.all {R : Rd} (h : RQ Q R) : ∀ s ∈ R.all, SQ Q s := by
 unfold Rd.all
 split
 ·exact h.out
 ·rename_i y hn
  intro u hu
  rcases List.mem_append.1 hu with hu | hu
  ·exact h.out u hu
  ·have := List.mem_singleton.1 hu
   subst this
   exact h.now _ hn
theorem NM (hq : Q Tk.none) (t : ByteArray) (h : ∀ x ∈ (BM t).1, Q x) : ∀ s ∈ (Bo t).1, SQ Q s := by
 have h0 : RQ Q ⟨[], none, none, 9, false⟩ := ⟨by simp, by simp, by simp⟩
 have h2 := (Nf hq (BM t).1 _ h0 h).all
 exact zq115
end
theorem Pk (a b : List Pr) : (Bw a b).length ≤ a.length + b.length := by
 unfold Bw
 have h1 := Ed a []
 have h2 := Ed b (a.foldl Fk [])
 simp at h1
 omega
theorem K9 : ∀ (s : List Sc) (out : List Pr), (∀ sc ∈ s, sc.pairs.length ≤ 256) → (s.foldl (fun out x => Bw out x.pairs) out).length ≤ out.length + 256 * s.length
 | [], out, _ => by simp
 | x :: s, out, h => by
  rw [List.foldl_cons]
  have h1 := K9 s (Bw out x.pairs) fun sc hsc => h sc (List.mem_cons_of_mem _ hsc)
  have h2 := Pk out x.pairs
  have h3 := h x List.mem_cons_self
  rw [List.length_cons]
  omega
theorem NA (s : List Sc) (h : ∀ sc ∈ s, sc.pairs.length ≤ 256) : (AL s).length ≤ 256 * s.length := by
 have := K9 s [] h
 simpa [AL] using this
theorem Fm (f : Sc → Sc) : ∀ l, (Dm f l).length = l.length
 | [] => rfl
 | [s] => rfl
 | s :: x :: r => by
  have := Fm f (x :: r)
  show (s :: Dm f (x :: r)).length = _
  rw [List.length_cons, this]
  rfl
structure Ld.Nice (L : Ld) : Prop where
 ok : L.Ok
 depth : L.scs.length ≤ 17
 small : ∀ a ∈ L.asserts, GT a
 pl : ∀ a ∈ L.asserts, a.proof.length ≤ 16384
 q : ∀ a ∈ L.asserts, ∀ t ∈ a.proof, TkN t
theorem Ld.Nice.new : Ld.new.Nice := ⟨Ld.Ok.new, by simp [Ld.new], by simp [Ld.new], by simp [Ld.new], by simp [Ld.new]⟩
theorem Ld.Nice.keep {L M : Ld} (h : L.Nice) (ok : M.Ok) (hs : M.scs.length ≤ L.scs.length) (ha : M.asserts = L.asserts) : M.Nice :=
 ⟨ok, Nat.le_trans hs h.depth, by rw [ha]; exact h.small, by rw [ha]; exact h.pl, by rw [ha]; exact h.q⟩
theorem HD : ∀ (ws : List Tk) {L L' : Ld}, L.constGo ws = .ok L' → L'.scs = L.scs ∧ L'.asserts = L.asserts
 | [], L, L', hx => by rw [Ld.constGo] at hx; cases hx; exact ⟨rfl, rfl⟩
 | w :: ws, L, L', hx => by
  rw [Ld.constGo] at hx
  obtain ⟨_, -, hx⟩ := AO hx
  have := HD ws hx
  exact this
theorem JV : ∀ (ws : List Tk) {L L' : Ld}, L.varGo ws = .ok L' → L'.scs = L.scs ∧ L'.asserts = L.asserts
 | [], L, L', hx => by rw [Ld.varGo] at hx; cases hx; exact ⟨rfl, rfl⟩
 | w :: ws, L, L', hx => by
  rw [Ld.varGo] at hx
  obtain ⟨_, -, hx⟩ := AO hx
  have := JV ws hx
  exact this
theorem Pu (vars : Int → Bool) (s : List Sc) (l : List Int) : (Cj vars s l).2.length = s.length := by
 unfold Cj
 (repeat' split) <;> simp [Fm]
theorem Nq (vars : Int → Bool) (s : List Sc) (b : ByteArray) (t v : Int) : (BW vars s b t v).2.length = s.length := by
 unfold BW FE
 (repeat' split) <;> simp [Fm]
theorem Qv (vars : Int → Bool) (s : List Sc) (b : ByteArray) (e : List Int) : (Fw vars s b e).2.length = s.length := by
 unfold Fw FE
 (repeat' split) <;> simp [Fm]
theorem Gq {s : List Sc} {x : Hy} (h : x ∈ AK s) : ∃ sc ∈ s, x ∈ sc.hyps := by
 unfold AK at h
 exact List.mem_flatMap.1 h
theorem PZ (l : List Pr) (v : List Int) : (E4 l v).length ≤ l.length := by
 unfold E4
 have h1 := Ed (l.filter fun p => v.contains p.1 && v.contains p.2) []
 have h2 := List.length_filter_le (fun p : Pr => v.contains p.1 && v.contains p.2) l
 simp only [List.length_nil] at h1
 omega
theorem MS {L L' : Ld} (h : L.Nice) {s : St} (hg : s.Good) (hpl : s.proof.length ≤ 16384) (hq : ∀ t ∈ s.proof, TkN t) (hx : L.act s = .ok L') : L'.Nice := by
 have hok := N3 h.ok hg hx
 unfold Ld.act at hx
 split at hx
 ·obtain ⟨_, -, hx⟩ := AO hx
  cases hx
  refine ⟨hok, ?_, h.small, h.pl, h.q⟩
  have := h.depth
  dsimp only
  unfold EH
  split
  ·exact this
  ·simp; omega
 ·split at hx
  ·obtain ⟨_, -, hx⟩ := AO hx
   cases hx
   refine h.keep hok ?_ rfl
   dsimp only
   unfold Dz
   split
   ·exact Nat.le_refl _
   ·simp
  ·split at hx
   ·split at hx
    ·cases hx
    ·obtain ⟨h1, h2⟩ := HD _ hx
     exact h.keep hok (by rw [h1]; exact Nat.le_refl _) h2
   ·split at hx
    ·obtain ⟨h1, h2⟩ := JV _ hx
     exact h.keep hok (by rw [h1]; exact Nat.le_refl _) h2
    ·split at hx
     ·obtain ⟨v, -, hx⟩ := AO hx
      split at hx
      ·obtain ⟨_, -, hx⟩ := AO hx
       cases hx
       exact h.keep hok (by dsimp only; rw [Pu]; exact Nat.le_refl _) rfl
      ·cases hx; exact h
     ·split at hx
      ·obtain ⟨e, he, hx⟩ := AO hx
       split at hx
       ·obtain ⟨M, hM, hx⟩ := AO hx
        obtain ⟨_, h1, hx⟩ := AO hx
        cases hx
        obtain ⟨h2, h3, h4, h5, rfl⟩ := EI h.ok hM
        exact h.keep hok (by dsimp only; rw [Nq]; exact Nat.le_refl _) rfl
       ·cases hx; exact h
      ·split at hx
       ·obtain ⟨e, he, hx⟩ := AO hx
        split at hx
        ·obtain ⟨M, hM, hx⟩ := AO hx
         obtain ⟨_, h1, hx⟩ := AO hx
         cases hx
         obtain ⟨h2, h3, h4, h5, rfl⟩ := EI h.ok hM
         exact h.keep hok (by dsimp only; rw [Qv]; exact Nat.le_refl _) rfl
        ·cases hx; exact h
       ·split at hx
        ·obtain ⟨e, he, hx⟩ := AO hx
         split at hx
         ·unfold Ld.assert at hx
          dsimp only at hx
          obtain ⟨_, -, hx⟩ := AO hx
          obtain ⟨_, h1, hx⟩ := AO hx
          cases hx
          have hsc := h.ok.sc
          have hhy := h.ok.hyps
          have hle := h.ok.le
          have hdep := h.depth
          have hact := NA L.scs fun sc hsc' => (hsc sc hsc').1
          have hhe : ∀ x ∈ AK L.scs, x.expr.length ≤ 100000 := fun x hx => by
           obtain ⟨sc, h1, h2⟩ := Gq hx
           have := (hsc sc h1).2 x h2
           omega
          have hfl : (BZ L.tbl.isVar L.scs e).length ≤ (AK L.scs).length := List.length_filter_le _ _
          have hfp : (B2 L.tbl.isVar L.scs e).length ≤ (AL L.scs).length := PZ _ _
          have hgl := Cs L _ _ _ (by simp) he
          refine ⟨hok, h.depth, fun a ha => ?_, fun a ha => ?_, fun a ha => ?_⟩
          ·rcases List.mem_append.1 ha with ha | ha
           ·exact h.small a ha
           ·simp at ha
            subst ha
            exact ⟨by dsimp only; omega, fun x hx => hhe x (List.mem_filter.1 hx).1, by dsimp only; omega, by dsimp only; omega, by dsimp only; omega, hhe, by dsimp only; omega, by dsimp only; omega⟩
          ·rcases List.mem_append.1 ha with ha | ha
           ·exact h.pl a ha
           ·simp at ha; subst ha; exact hpl
          ·rcases List.mem_append.1 ha with ha | ha
           ·exact h.q a ha
           ·simp at ha; subst ha; exact hq
         ·cases hx; exact h
        ·cases hx; exact h
theorem Iz {L L' : Ld} (h : L.Nice) {s : St} (hg : s.Good) (hpl : s.proof.length ≤ 16384) (hq : ∀ t ∈ s.proof, TkN t) (hx : L.take s = .ok L') : L'.Nice := by
 unfold Ld.take at hx
 split at hx
 ·obtain ⟨_, -, hx⟩ := AO hx
  exact MS h hg hpl hq hx
 ·exact MS h hg hpl hq hx
theorem Im : ∀ (ss : List St) {L L' : Ld}, L.Nice → (∀ s ∈ ss, s.Good ∧ s.proof.length ≤ 16384 ∧ ∀ t ∈ s.proof, TkN t) → L.takeAll ss = .ok L' → L'.Nice
 | [], L, L', h, _, hx => by rw [Ld.takeAll] at hx; cases hx; exact h
 | s :: ss, L, L', h, hs, hx => by
  rw [Ld.takeAll] at hx
  obtain ⟨M, hM, hx⟩ := AO hx
  obtain ⟨h1, h2, h3⟩ := hs s List.mem_cons_self
  exact Im ss (Iz h h1 h2 h3 hM) (fun s hs' => hs s (List.mem_cons_of_mem _ hs')) hx
structure Bs.Nice (B : Bs) : Prop where
 n : B.ld.asserts.length ≤ 1024
 small : ∀ a ∈ B.ld.asserts, GT a
 pl : ∀ a ∈ B.ld.asserts, a.proof.length ≤ 16384
 tkp : ∀ a ∈ B.ld.asserts, ∀ t ∈ a.proof, TkP t
 asc : ∀ a ∈ B.ld.asserts, ∀ t ∈ a.proof, Nu t
theorem zq98 {P : Prop} (h : P := by
 split at h
 ·cases h
 ·split at h
  ·cases h
  ·cases h; rfl) : P := h
theorem K7 {t : ByteArray} {B : Bs} (h : CB t = .ok B) : B.Nice ∧ B.ld.Nice := by
 unfold CB at h
 split at h
 ·cases h
 ·rename_i L hL
  have hN : L.Nice := Im _ Ld.Nice.new (fun s hs => by
   obtain ⟨h1, h2⟩ := (EV t).1 s hs
   have h3 := NM (Q := TkN) TkN.none t (fun x hx => ⟨Fx t x hx, JU t x hx⟩) s hs
   exact ⟨h2, h1.pl, h3.proof⟩) hL
  have hB : B.ld = L := by
   exact zq98
  rw [hB]
  refine ⟨?_, hN⟩
  have e : B.ld.asserts = L.asserts := by rw [hB]
  refine ⟨by rw [e]; have := hN.ok.asr; have := hN.ok.le; omega, by rw [e]; exact hN.small, by rw [e]; exact hN.pl, by rw [e]; exact fun a ha t ht => (hN.q a ha t ht).1, by rw [e]; exact fun a ha t ht => (hN.q a ha t ht).2⟩
end Go.Proofs.YtbfbgfpghkijdaaGreatDoor
