/- lemmalaw texts, part 3. -/
import Derived.Test.YtdhkmfpfbjcdiaaGreatDoorYab
import Derived.RangeFuncNested
import Derived.RangeFuncBound
import Derived.RangeFuncCalls
import Derived.RangeFuncLeaves
import Derived.OwnWalkIn
import Derived.TacticsInMore
import Derived.LoopNIn
import Derived.LoopIn
set_option maxRecDepth 100000
set_option linter.unusedVariables false
set_option linter.unusedSimpArgs false
set_option maxHeartbeats 32000000
namespace Go.Proofs.YtdhkmfpfbjcdiaaGreatDoor
open Go.RowKit
@[go_sem] theorem wide_fn (f : FuncId) : Fence.wide.fn f = True := rfl
@[go_sem] theorem wide_depth : Fence.wide.depth = Option.none := rfl
def Stays (lo p : Nat) (w w' : World) : Prop := w.heap.size ≤ w'.heap.size ∧ ∀ b, lo ≤ b → b < lo + p → w'.heap[b]? = w.heap[b]?
theorem Stays.trans {lo p : Nat} {a b c : World} (h : Stays lo p a b) (k : Stays lo p b c) : Stays lo p a c :=
 ⟨Nat.le_trans h.1 k.1, fun i h1 h2 => (k.2 i h1 h2).trans (h.2 i h1 h2)⟩
theorem Stays.of_same {lo p : Nat} {S : List Nat} {w w' : World} (h : Same S w w') (hS : ∀ b ∈ S, b < lo ∨ lo + p ≤ b) (hl : lo + p ≤ w.heap.size) : Stays lo p w w' :=
 ⟨h.size, fun b h1 h2 => h.block b (by omega) (fun hm => by have := hS b hm; omega)⟩
def Tells {α : Type} (P : Program) (p : Nat) (g : FuncId) (lb : Array Value) (encs : α → Array Value) (Kp : World → Prop) (xs : List α) (W : World) : Prop :=
 ∀ (l : Nat) (J Jx : List α → World → Prop), J [] W → (∀ pre W1, J pre W1 → Kp W1) →
  (∀ pre S W1 W2, J pre W1 → Same S W1 W2 → (∀ b ∈ S, W.heap.size ≤ b ∧ b < W.heap.size + p) → J pre W2) →
  (∀ pre S W1 W2, Jx pre W1 → Same S W1 W2 → (∀ b ∈ S, W.heap.size ≤ b ∧ b < W.heap.size + p) → Jx pre W2) →
  (∀ pre x suf W1, xs = pre ++ x :: suf → J pre W1 → W.heap.size + p ≤ W1.heap.size → YieldAt Fence.wide 0 P l (encs x) W1 fun e W2 => Stays W.heap.size p W1 W2 ∧
   ((e = .returned (.bool true) ∧ J (pre ++ [x]) W2) ∨ (e = .returned (.bool false) ∧ Jx (pre ++ [x]) W2))) →
  CallsIn Fence.wide 0 P g (#[.func (.yield l) #[] #[]] ++ lb) W fun e W' => (∃ v, e = .returned v) ∧ (J xs W' ∨ ∃ pre suf, xs = pre ++ suf ∧ Jx pre W')
def RoundEnd {α : Type} (lo p : Nat) (I : List α → World → Prop) (Ix : Code → List α → World → Prop) (xs : List α) (W : World) : Exit → Act → World → Prop
 | .normal, _, W' => Stays lo p W W' ∧ I xs W'
 | .ret, _, W' => Stays lo p W W' ∧ Ix .ret xs W'
 | .exit id, _, W' => Stays lo p W W' ∧ Ix (.exit id) xs W'
 | .goto t, _, W' => Stays lo p W W' ∧ Ix (.goto t) xs W'
 | .panic _, _, _ => False
 | .outgrown, _, _ => False
theorem Same.put {w : World} {b : Nat} {o : Obj} (o' : Obj) (h : w.heap[b]? = some o) : Same [b] w (w.putObj b o') :=
 ⟨rfl, rfl, rfl, by simp, fun i _ hi => World.putObj_heap_other (by simpa using hi)⟩
theorem wp_tells {α : Type} {P : Program} {g : Operand} {ps : Array Tmp} {assign body : Code} {Q : Exit → Act → World → Prop} {a : Act} {w : World}
  {p : Nat} {gf : Nat} {lb : Array Value} {encs : α → Array Value} {Kp : World → Prop} {xs : List α}
  (hg : a.eval g = .func (.func gf) #[] lb) (eg : ∀ args w, (callFunc gf args).run P w = .ok (.enter gf args) w) (hps : ∀ x, (encs x).size = ps.size)
  (hseq : ∀ W, Same [] w W → Tells P p gf lb encs Kp xs W)
  (I : List α → World → Prop) (Ix : Code → List α → World → Prop) (h0 : I [] w) (hKp : ∀ pre W, I pre W → Kp W)
  (hI : ∀ pre S W1 W2, I pre W1 → Same S W1 W2 → (∀ b ∈ S, w.heap.size ≤ b ∧ b < w.heap.size + (2 + p)) → I pre W2)
  (hIx : ∀ c pre S W1 W2, Ix c pre W1 → Same S W1 W2 → (∀ b ∈ S, w.heap.size ≤ b ∧ b < w.heap.size + (2 + p)) → Ix c pre W2)
  (hround : ∀ (l : Nat) (pre : List α) (x : α) (suf : List α) (W : World), xs = pre ++ x :: suf → I pre W → w.heap.size + (2 + p) ≤ W.heap.size →
   assign.wpIn (Fence.wide.inRound l) 0 P (Exit.then (fun a₁ w₁ => (∀ b, w.heap.size ≤ b → b < w.heap.size + (2 + p) → w₁.heap[b]? = W.heap[b]?) ∧ W.heap.size ≤ w₁.heap.size ∧
    ∀ w₂, Same [w.heap.size + 1] w₁ w₂ → body.wpIn (Fence.wide.inRound l) 0 P (RoundEnd w.heap.size (2 + p) I Ix (pre ++ [x]) w₂) a₁ w₂) (fun _ _ _ => False))
    { tmps := (ps.zip (encs x)).foldl (fun t (p, v) => t.setIfInBounds p v) a.tmps, defers := [] } W)
  (hdone : ∀ (W : World), I xs W → W.heap[w.heap.size]? = some (.deferred (some [])) → Q .normal { a with defers := { target := .collected w.heap.size, args := #[] } :: a.defers } W)
  (hstop : ∀ (c : Code) (pre suf : List α) (W : World), xs = pre ++ suf → Ix c pre W → W.heap[w.heap.size]? = some (.deferred (some [])) →
   c.wpIn Fence.wide 0 P Q { a with defers := { target := .collected w.heap.size, args := #[] } :: a.defers } W) :
  (Code.rangeFunc g ps assign body).wpIn Fence.wide 0 P Q a w := by
 refine wpIn_rangeFunc ?_
 intro fn hfn
 have hwide : ¬ (Fence.wide.depth.isSome = true) := by simp [Fence.wide]
 obtain ⟨R, hR⟩ : ∃ R : LoopState → Option Code → Loop, R = fun st pe => { state := st, pending := pe, fn, tmps := a.tmps, params := ps, assign, body, defers := w.heap.size } := ⟨_, rfl⟩
 obtain ⟨W1, hW1⟩ : ∃ W1, (w.alloc (.deferred (some []))).alloc (.loop (R .ready none)) = W1 := ⟨_, rfl⟩
 have hs1 : W1.heap.size = w.heap.size + 2 := by rw [← hW1]; simp
 have hsame1 : Same [] w W1 := by rw [← hW1]; exact (Same.alloc _ _ _).trans (Same.alloc _ _ _)
 have hL1 : W1.heap[w.heap.size + 1]? = some (.loop (R .ready none)) := by
  rw [← hW1]
  have := blk_new (w.alloc (.deferred (some []))) (.loop (R .ready none))
  rwa [World.size_alloc] at this
 have hK1 : W1.heap[w.heap.size]? = some (.deferred (some [])) := by rw [← hW1]; exact blk_old (blk_new _ _) _
 refine ⟨w.heap.size + 1, [{ target := .collected w.heap.size, args := #[] }], W1, { target := .fn (.func gf) lb, args := #[.func (.yield (w.heap.size + 1)) #[] #[]] }, W1, gf,
  #[.func (.yield (w.heap.size + 1)) #[] #[]] ++ lb, W1, ?_, ?_, ?_, ?_, fun h => absurd h hwide, ?_⟩
 ·rw [← hW1, hR]; exact run_enterLoop_outer _ _ _ _ _
 ·simp only [resolve, hg]
  simp [go_sem]
 ·intro f' _; trivial
 ·simp [invoke, go_sem, eg]
 ·refine (hseq W1 hsame1 (w.heap.size + 1)
   (fun pre W => I pre W ∧ W.heap[w.heap.size + 1]? = some (.loop (R .ready none)) ∧ W.heap[w.heap.size]? = some (.deferred (some [])))
   (fun pre W => ∃ c, Ix c pre W ∧ W.heap[w.heap.size + 1]? = some (.loop (R .done (some c))) ∧ W.heap[w.heap.size]? = some (.deferred (some [])))
   ⟨hI _ _ _ _ h0 hsame1 (by simp), hL1, hK1⟩ (fun pre W h => hKp _ _ h.1) ?_ ?_ ?_).mono ?_
  ·rintro pre S A B ⟨hi, hl, hk⟩ hs hS
   exact ⟨hI _ _ _ _ hi hs (fun b hb => by have := hS b hb; omega), hs.get hl (fun hm => by have := hS _ hm; omega), hs.get hk (fun hm => by have := hS _ hm; omega)⟩
  ·rintro pre S A B ⟨c, hi, hl, hk⟩ hs hS
   exact ⟨c, hIx _ _ _ _ _ hi hs (fun b hb => by have := hS b hb; omega), hs.get hl (fun hm => by have := hS _ hm; omega), hs.get hk (fun hm => by have := hS _ hm; omega)⟩
  ·rintro pre x suf W hxs ⟨hi, hl, hk⟩ hsz
   have hy := run_yield (P := P) (args := encs x) hl (by rw [hR]; exact hps x)
   rw [hR] at hy
   refine ⟨fn, _, assign, body, hy, roundIn_of_wpIn hfn (wpIn_mono (hround _ pre x suf W hxs hi (by omega)) ?_)⟩
   rintro e a1 w1 hp
   cases e with
   | normal =>
    obtain ⟨hst, hsz1, hb⟩ := hp
    have hl1 : w1.heap[w.heap.size + 1]? = some (.loop (R .ready none)) := (hst _ (by omega) (by omega)).trans hl
    refine ⟨_, run_beginRound hl1 (by rw [hR]), wpIn_mono (hb _ (Same.put _ hl1)) ?_⟩
    have hl2 : (w1.putObj (w.heap.size + 1) (.loop { R .ready none with state := .busy })).heap[w.heap.size + 1]? = some (.loop { R .ready none with state := .busy }) := World.putObj_heap_same (blk_lt hl1)
    have hst0 : ∀ b, W1.heap.size ≤ b → b < W1.heap.size + p → (w1.putObj (w.heap.size + 1) (.loop { R .ready none with state := .busy })).heap[b]? = W.heap[b]? := fun b h1 h2 =>
     (World.putObj_heap_other (by omega)).trans (hst b (by omega) (by omega))
    have hk2 : (w1.putObj (w.heap.size + 1) (.loop { R .ready none with state := .busy })).heap[w.heap.size]? = some (.deferred (some [])) :=
     (World.putObj_heap_other (by omega)).trans ((hst _ (by omega) (by omega)).trans hk)
    have fin : ∀ (jump : Option Code) (W3 : World), Stays w.heap.size (2 + p) (w1.putObj (w.heap.size + 1) (.loop { R .ready none with state := .busy })) W3 →
      (Instr.endRound (w.heap.size + 1) jump).run P W3 = .ok (.bool jump.isNone) (W3.putObj (w.heap.size + 1) (.loop (R (if jump.isNone then .ready else .done) jump))) ∧
      (W3.putObj (w.heap.size + 1) (.loop (R (if jump.isNone then .ready else .done) jump))).heap[w.heap.size + 1]? = some (.loop (R (if jump.isNone then .ready else .done) jump)) ∧
      (W3.putObj (w.heap.size + 1) (.loop (R (if jump.isNone then .ready else .done) jump))).heap[w.heap.size]? = some (.deferred (some [])) ∧
      Stays W1.heap.size p W (W3.putObj (w.heap.size + 1) (.loop (R (if jump.isNone then .ready else .done) jump))) ∧
      Same [w.heap.size + 1] W3 (W3.putObj (w.heap.size + 1) (.loop (R (if jump.isNone then .ready else .done) jump))) := fun jump W3 hk3 => by
     have hl3 : W3.heap[w.heap.size + 1]? = some (.loop { R .ready none with state := .busy }) := (hk3.2 _ (by omega) (by omega)).trans hl2
     have he := run_endRound (P := P) jump hl3
     refine ⟨by rw [hR] at he ⊢; exact he, World.putObj_heap_same (blk_lt hl3), (World.putObj_heap_other (by omega)).trans ((hk3.2 _ (by omega) (by omega)).trans hk2), ⟨?_, ?_⟩, Same.put _ hl3⟩
     ·have := hk3.1
      simp at this ⊢
      omega
     ·intro b h1 h2
      exact (World.putObj_heap_other (by omega)).trans ((hk3.2 b (by omega) (by omega)).trans (hst0 b h1 h2))
    rintro e a3 W3 hp
    cases e with
    | normal =>
     obtain ⟨hk3, hi3⟩ := hp
     obtain ⟨hr, hl4, hk4, hs4, hsm⟩ := fin none W3 hk3
     exact ⟨_, _, hr, hs4, .inl ⟨rfl, hI _ _ _ _ hi3 hsm (by simp; omega), hl4, hk4⟩⟩
    | ret =>
     obtain ⟨hk3, hi3⟩ := hp
     obtain ⟨hr, hl4, hk4, hs4, hsm⟩ := fin (some .ret) W3 hk3
     exact ⟨_, _, hr, hs4, .inr ⟨rfl, .ret, hIx _ _ _ _ _ hi3 hsm (by simp; omega), hl4, hk4⟩⟩
    | exit id =>
     obtain ⟨hk3, hi3⟩ := hp
     obtain ⟨hr, hl4, hk4, hs4, hsm⟩ := fin (some (.exit id)) W3 hk3
     exact ⟨_, _, hr, hs4, .inr ⟨rfl, .exit id, hIx _ _ _ _ _ hi3 hsm (by simp; omega), hl4, hk4⟩⟩
    | goto t =>
     obtain ⟨hk3, hi3⟩ := hp
     obtain ⟨hr, hl4, hk4, hs4, hsm⟩ := fin (some (.goto t)) W3 hk3
     exact ⟨_, _, hr, hs4, .inr ⟨rfl, .goto t, hIx _ _ _ _ _ hi3 hsm (by simp; omega), hl4, hk4⟩⟩
    | panic ch => exact hp.elim
    | outgrown => exact hp.elim
   | ret => exact hp.elim
   | exit id => exact hp.elim
   | goto t => exact hp.elim
   | panic ch => exact hp.elim
   | outgrown => exact hp.elim
  ·rintro e W2 ⟨⟨v, rfl⟩, (⟨hi, hl, hk⟩ | ⟨pre, suf, hxs, c, hi, hl, hk⟩)⟩
   ·exact ⟨none, _, by have := run_endLoop (P := P) hl (by rw [hR]; simp); rw [hR] at this; exact this, hdone _ (hI _ _ _ _ hi (Same.put _ hl) (by simp; omega)) ((World.putObj_heap_other (by omega)).trans hk)⟩
   ·exact ⟨some c, _, by have := run_endLoop (P := P) hl (by rw [hR]; simp); rw [hR] at this; exact this, hstop c pre suf _ hxs (hIx _ _ _ _ _ hi (Same.put _ hl) (by simp; omega)) ((World.putObj_heap_other (by omega)).trans hk)⟩
structure It where
 word : Tk
 code : Int
def It.val (x : It) : Value := .agg #[.string x.word.text, .int .i64 x.word.at_.off, .int .i64 x.word.at_.line, .int .i64 x.word.at_.col, .int .i64 x.code]
def Ps.next (p : Ps) (c : UInt8) : Ps := if c.toNat = 10 then ⟨p.off + 1, p.line + 1, 1⟩ else ⟨p.off + 1, p.line, p.col + 1⟩
def itemsGo (t : ByteArray) : (n k : Nat) → (at_ : Ps) → (word : Tk) → List It
 | 0, _, _, word => if word.text.size = 0 then [] else [⟨word, 0⟩]
 | n + 1, k, p, word =>
  let c := t[k]!
  if k = 65536 then [⟨⟨⟨#[]⟩, p⟩, 13⟩]
  else if kindN c.toNat = 0 then [⟨⟨⟨#[]⟩, p⟩, 10⟩]
  else if kindN c.toNat = 2 then
   let q := if word.text.size = 0 then p else word.at_
   itemsGo t n (k + 1) (p.next c) ⟨t.extract q.off (k + 1), q⟩
  else if word.text.size = 0 then itemsGo t n (k + 1) (p.next c) word
  else ⟨word, 0⟩ :: itemsGo t n (k + 1) (p.next c) Tk.none
def itemsOf (t : ByteArray) : List It := itemsGo t t.size 0 ⟨0, 1, 1⟩ Tk.none
theorem itemsGo_succ (t : ByteArray) (k : Nat) (h : k < t.size) (p : Ps) (word : Tk) : itemsGo t (t.size - k) k p word =
  if k = 65536 then [⟨⟨⟨#[]⟩, p⟩, 13⟩]
  else if kindN t[k].toNat = 0 then [⟨⟨⟨#[]⟩, p⟩, 10⟩]
  else if kindN t[k].toNat = 2 then
   itemsGo t (t.size - (k + 1)) (k + 1) (p.next t[k]) ⟨t.extract (if word.text.size = 0 then p else word.at_).off (k + 1), if word.text.size = 0 then p else word.at_⟩
  else if word.text.size = 0 then itemsGo t (t.size - (k + 1)) (k + 1) (p.next t[k]) word
  else ⟨word, 0⟩ :: itemsGo t (t.size - (k + 1)) (k + 1) (p.next t[k]) Tk.none := by
 rw [show t.size - k = (t.size - (k + 1)) + 1 by omega]
 rw [itemsGo]
 simp only [getElem!_pos t k h]
def posBlk (p : Ps) : Obj := .cells #[.int .i64 p.off, .int .i64 p.line, .int .i64 p.col] 52 (0, 0)
def tokBlk (x : Tk) : Obj := .cells #[.string x.text, .int .i64 x.at_.off, .int .i64 x.at_.line, .int .i64 x.at_.col] 54 (0, 0)
theorem posBlk_cells {w : World} {b : Nat} {p : Ps} (h : w.heap[b]? = some (posBlk p)) : w.cell? ⟨b, 0, none⟩ = some (.int .i64 p.off) ∧ w.cell? ⟨b, 1, none⟩ = some (.int .i64 p.line) ∧ w.cell? ⟨b, 2, none⟩ = some (.int .i64 p.col) ∧ ∀ i, w.frozen? ⟨b, i, none⟩ = false :=
 ⟨blk_c h, blk_c h, blk_c h, blk_free h⟩
theorem tokBlk_cells {w : World} {b : Nat} {x : Tk} (h : w.heap[b]? = some (tokBlk x)) : w.cell? ⟨b, 0, none⟩ = some (.string x.text) ∧ w.cell? ⟨b, 1, none⟩ = some (.int .i64 x.at_.off) ∧ w.cell? ⟨b, 2, none⟩ = some (.int .i64 x.at_.line) ∧ w.cell? ⟨b, 3, none⟩ = some (.int .i64 x.at_.col) ∧ ∀ i, w.frozen? ⟨b, i, none⟩ = false :=
 ⟨blk_c h, blk_c h, blk_c h, blk_c h, blk_free h⟩
def ItemsInv (t : ByteArray) (J : List It → World → Prop) (n0 : Nat) (u : Value) (wr : World) : Prop :=
 ∃ (k : Nat) (p : Ps) (x : Tk) (pre : List It), k ≤ t.size ∧ k ≤ 65536 ∧ u = .int .i64 k ∧ J pre wr ∧ itemsOf t = pre ++ itemsGo t (t.size - k) k p x ∧
  wr.heap[n0]? = some (posBlk p) ∧ wr.heap[n0 + 1]? = some (tokBlk x) ∧ p.off = k ∧ p.line ≤ k + 1 ∧ p.col ≤ k + 1 ∧ (x.text.size ≠ 0 → x.at_.off ≤ k)
theorem items_tells (t : ByteArray) (B : Nat) (W : World) (ht : t.size ≤ maxLen) (hB : B < W.heap.size) :
  Tells Tryz.prog 2 154 #[.pointer (some ⟨B, 0, none⟩)] (fun x : It => #[x.val]) (fun w => w.cell? ⟨B, 0, none⟩ = some (.string t) ∧ Blanks w) (itemsOf t) W := by
 intro l J Jx h0 hKp hJ hJx hY
 unfold maxLen at ht
 have hK0 := hKp _ _ h0
 refine callsIn_of_wp Tryz.func154 rfl trivial ?_ rfl
 simp only [Tryz.ntmps154, List.size_toArray, List.length_cons, List.length_nil, Nat.reduceAdd, Nat.reduceSub, Array.replicate_succ, Array.replicate_zero, List.push_toArray, List.append_toArray, List.nil_append, List.cons_append]
 have hc0 := hK0.1
 gi_wp2
 gi_loopw [5, 6, 11] (fun _ _ u wr => ItemsInv t J W.heap.size u wr) (fun _ _ u _ => t.size - (intOf u).toNat)
 case atStart =>
  refine ⟨0, ⟨0, 1, 1⟩, Tk.none, [], Nat.zero_le _, by omega, rfl, ?_, rfl, ?_, ?_, rfl, by simp, by simp, by simp [Tk.none]⟩
  ·exact hJ _ _ _ _ h0 ((Same.alloc [] _ _).trans (Same.alloc [] _ _)) (by simp)
  ·exact blk_old (blk_new _ _) _
  ·have := blk_new (W.alloc (posBlk ⟨0, 1, 1⟩)) (tokBlk Tk.none)
   rw [World.size_alloc] at this
   exact this
 case round =>
  obtain ⟨k, p, x, pre, hk, hk6, rfl, hj, hxs, hb0, hb1, hp1, hp2, hp3, hx1⟩ := hrel
  have hK := hKp _ _ hj
  have hc := hK.1
  obtain ⟨a0, a1, a2, af⟩ := posBlk_cells hb0
  obtain ⟨b0, b1, b2, b3, bf⟩ := tokBlk_cells hb1
  by_cases hlt : k < t.size
  ·have hgo := itemsGo_succ t k hlt p x
   have h256 : t[k].toNat < 256 := t[k].toNat_lt
   have hke := (callsIn_wide (n := 0)).2 (kind_calls t[k] wr hK.2)
   have hsz : W.heap.size + 2 ≤ wr.heap.size := by have := blk_lt hb1; omega
   have hkt : (k + 1 : Int) ≤ t.size := by omega
   by_cases h65 : k = 65536
   ·rw [hgo, if_pos h65] at hxs
    obtain ⟨fn, tmps, assign, body, hy, hR⟩ := hY pre _ [] wr hxs hj hsz
    dsimp only [It.val] at hy
    have Hxs := Kd hxs
    have h65' : ((k : Int) == 65536) = true := beq_iff_eq.2 (by omega)
    clear hgo hxs hp1 h65
    gi_wp2
    refine hR.mono ?_
    rintro e W3 ⟨_, (⟨rfl, hJ3⟩ | ⟨rfl, hJx3⟩)⟩
    ·gi_wp2
     refine bodyPost_ret (results_none rfl _ _ _) rfl ?_
     exact ⟨⟨_, rfl⟩, .inl (by rw [Hxs.out]; exact hJ3)⟩
    ·gi_wp2
     refine bodyPost_ret (results_none rfl _ _ _) rfl ?_
     exact ⟨⟨_, rfl⟩, .inr ⟨_, [], by rw [List.append_nil]; exact Hxs.out, hJx3⟩⟩
   ·have h65' : ((k : Int) == 65536) = false := beq_eq_false_iff_ne.2 (by omega)
    rw [if_neg h65] at hgo
    have hk66 : k + 1 ≤ 65536 := by omega
    have hpo : (p.off : Int) ≤ k := by omega
    by_cases hk0 : kindN t[k].toNat = 0
    ·rw [hgo, if_pos hk0] at hxs
     obtain ⟨fn, tmps, assign, body, hy, hR⟩ := hY pre _ [] wr hxs hj hsz
     dsimp only [It.val] at hy
     have Hxs := Kd hxs
     rw [hk0] at hke
     clear hgo hxs hp1 h65 hk0
     gi_wp2_with (gi_at_call 155; refine hke.mono ?_; rintro e w' ⟨rfl, rfl⟩)
     refine hR.mono ?_
     rintro e W3 ⟨_, (⟨rfl, hJ3⟩ | ⟨rfl, hJx3⟩)⟩
     ·gi_wp2
      refine bodyPost_ret (results_none rfl _ _ _) rfl ?_
      exact ⟨⟨_, rfl⟩, .inl (by rw [Hxs.out]; exact hJ3)⟩
     ·gi_wp2
      refine bodyPost_ret (results_none rfl _ _ _) rfl ?_
      exact ⟨⟨_, rfl⟩, .inr ⟨_, [], by rw [List.append_nil]; exact Hxs.out, hJx3⟩⟩
    ·rw [if_neg hk0] at hgo
     by_cases hk2 : kindN t[k].toNat = 2
     ·rw [hgo, if_pos hk2] at hxs
      rw [hk2] at hke
      have Hxs := Kd hxs
      have Hp1 := Kd hp1
      have hn : ¬ t[k].toNat = 10 := by intro e; rw [e] at hk2; simp [kindN, blankB] at hk2
      have hn10 := Kd hn
      have hnl' : ((t[k].toNat : Int) == 10) = false := beq_eq_false_iff_ne.2 (by omega)
      clear hgo hxs hp1 h65 hk0 hk2 hn
      by_cases hz : x.text.size = 0
      ·have he : x.text.toList = [] := (tl_nil_iff _).2 hz
       have Hhz := Kd hz
       clear hz hx1
       gi_wp2_with (gi_at_call 155; refine hke.mono ?_; rintro e w' ⟨rfl, rfl⟩)
       refine ⟨⟨k + 1, p.next t[k], _, pre, by omega, by omega, by go_num, hJ _ [W.heap.size, W.heap.size + 1] _ _ hj ?_ (by simp), Hxs.out, ?_, ?_, ?_, ?_, ?_, ?_⟩, by simp [intOf]; omega⟩
       ·repeat (first | refine Same.set ?_ _ _ (by simp) | exact Same.refl _ _)
       ·simp [heap_setCell, hb0, posBlk, cellPut, Ps.next, hn10.out]
       ·simp [heap_setCell, hb1, tokBlk, cellPut, Hhz.out]
       ·simp [Ps.next, hn10.out, Hp1.out]
       ·simp [Ps.next, hn10.out]; omega
       ·simp [Ps.next, hn10.out]; omega
       ·intro _; rw [Hhz.out]; simp; omega
      ·have he : x.text.toList.isEmpty = false := by rw [tl_empty]; simp [hz]
       have hxo : (x.at_.off : Int) ≤ k := by have := hx1 hz; omega
       have Hhz := Kd hz
       clear hz hx1
       gi_wp2_with (gi_at_call 155; refine hke.mono ?_; rintro e w' ⟨rfl, rfl⟩)
       refine ⟨⟨k + 1, p.next t[k], _, pre, by omega, by omega, by go_num, hJ _ [W.heap.size, W.heap.size + 1] _ _ hj ?_ (by simp), Hxs.out, ?_, ?_, ?_, ?_, ?_, ?_⟩, by simp [intOf]; omega⟩
       ·repeat (first | refine Same.set ?_ _ _ (by simp) | exact Same.refl _ _)
       ·simp [heap_setCell, hb0, posBlk, cellPut, Ps.next, hn10.out]
       ·simp [heap_setCell, hb1, tokBlk, cellPut, Hhz.out]
       ·simp [Ps.next, hn10.out, Hp1.out]
       ·simp [Ps.next, hn10.out]; omega
       ·simp [Ps.next, hn10.out]; omega
       ·intro _; rw [if_neg Hhz.out]; simp; omega
     ·rw [hgo, if_neg hk2] at hxs
      have hk1 : kindN t[k].toNat = 1 := by unfold kindN at hk0 hk2 ⊢; split at hk0 <;> split at hk2 <;> simp_all
      rw [hk1] at hke
      have Hp1 := Kd hp1
      clear hgo hp1 h65 hk0 hk2 hk1
      by_cases hz : x.text.size = 0
      ·have he : x.text.toList = [] := (tl_nil_iff _).2 hz
       rw [if_pos hz] at hxs
       have Hxs := Kd hxs
       have Hhz := Kd hz
       clear hz hx1 hxs
       by_cases hnl : t[k].toNat = 10
       all_goals
        have Hn := Kd hnl
        first
         | have hnl' : ((t[k].toNat : Int) == 10) = true := beq_iff_eq.2 (by omega)
         | have hnl' : ((t[k].toNat : Int) == 10) = false := beq_eq_false_iff_ne.2 (by omega)
        clear hnl
        gi_wp2_with (gi_at_call 155; refine hke.mono ?_; rintro e w' ⟨rfl, rfl⟩)
        refine ⟨⟨k + 1, p.next t[k], _, pre, by omega, by omega, by go_num, hJ _ [W.heap.size, W.heap.size + 1] _ _ hj ?_ (by simp), Hxs.out, ?_, ?_, ?_, ?_, ?_, ?_⟩, by simp [intOf]; omega⟩
        ·repeat (first | refine Same.set ?_ _ _ (by simp) | exact Same.refl _ _)
        ·simp [heap_setCell, hb0, posBlk, cellPut, Ps.next, Hn.out]
        ·simp [heap_setCell, hb1, tokBlk, cellPut]
        ·simp [Ps.next, Hn.out, Hp1.out]
        ·simp [Ps.next, Hn.out]; omega
        ·simp [Ps.next, Hn.out] <;> omega
        ·intro hh; exact absurd Hhz.out hh
      ·have he : x.text.toList.isEmpty = false := by rw [tl_empty]; simp [hz]
       rw [if_neg hz] at hxs
       obtain ⟨fn, tmps, assign, body, hy, hR⟩ := hY pre _ _ wr hxs hj hsz
       dsimp only [It.val] at hy
       have Hxs := Kd hxs
       clear hz hx1 hxs
       gi_wp2_with (gi_at_call 155; refine hke.mono ?_; rintro e w' ⟨rfl, rfl⟩)
       refine hR.mono ?_
       rintro e W3 ⟨hst, (⟨rfl, hJ3⟩ | ⟨rfl, hJx3⟩)⟩
       ·have hb0' : W3.heap[W.heap.size]? = some (posBlk p) := (hst.2 _ (by omega) (by omega)).trans hb0
        have hb1' : W3.heap[W.heap.size + 1]? = some (tokBlk x) := (hst.2 _ (by omega) (by omega)).trans hb1
        obtain ⟨a0', a1', a2', af'⟩ := posBlk_cells hb0'
        obtain ⟨b0', b1', b2', b3', bf'⟩ := tokBlk_cells hb1'
        have Hb0 := Kd hb0'
        have Hb1 := Kd hb1'
        clear hst hb0 hb1 hb0' hb1' a0 a1 a2 af b0 b1 b2 b3 bf hR hj hke hc
        have hK3 := (hKp _ _ hJ3).1
        by_cases hnl : t[k].toNat = 10
        all_goals
         have Hn := Kd hnl
         first
          | have hnl' : ((t[k].toNat : Int) == 10) = true := beq_iff_eq.2 (by omega)
          | have hnl' : ((t[k].toNat : Int) == 10) = false := beq_eq_false_iff_ne.2 (by omega)
         clear hnl
         gi_wp2
         refine ⟨⟨k + 1, p.next t[k], Tk.none, pre ++ [⟨x, 0⟩], by omega, by omega, by go_num, hJ _ [W.heap.size, W.heap.size + 1] _ _ hJ3 ?_ (by simp), by rw [Hxs.out]; simp, ?_, ?_, ?_, ?_, ?_, ?_⟩, by simp [intOf]; omega⟩
         ·repeat (first | refine Same.set ?_ _ _ (by simp) | exact Same.refl _ _)
         ·simp [heap_setCell, Hb0.out, posBlk, cellPut, Ps.next, Hn.out]
         ·simp [heap_setCell, Hb1.out, tokBlk, cellPut, Tk.none]
         ·simp [Ps.next, Hn.out, Hp1.out]
         ·simp [Ps.next, Hn.out]; omega
         ·simp [Ps.next, Hn.out] <;> omega
         ·intro hh; exact absurd rfl hh
       ·gi_wp2
        refine bodyPost_ret (results_none rfl _ _ _) rfl ?_
        exact ⟨⟨_, rfl⟩, .inr ⟨_, _, by rw [Hxs.out, List.append_assoc]; rfl, hJx3⟩⟩
  ·have hkk : k = t.size := by omega
   have hx : itemsGo t (t.size - k) k p x = if x.text.size = 0 then [] else [⟨x, 0⟩] := by rw [show t.size - k = 0 by omega]; rfl
   by_cases hz : x.text.size = 0
   ·have he : x.text.toList = [] := (tl_nil_iff _).2 hz
    rw [hx, if_pos hz, List.append_nil] at hxs
    have Hxs := Kd hxs
    clear hx hxs hkk hp1
    gi_wp2
    go_end0
    exact ⟨⟨_, rfl⟩, .inl (by rw [Hxs.out]; exact hj)⟩
   ·have he : x.text.toList.isEmpty = false := by rw [tl_empty]; simp [hz]
    rw [hx, if_neg hz] at hxs
    obtain ⟨fn, tmps, assign, body, hy, hR⟩ := hY pre ⟨x, 0⟩ [] wr hxs hj (by have := blk_lt hb1; omega)
    dsimp only [It.val] at hy
    have Hxs := Kd hxs
    clear hx hxs hkk hp1
    gi_wp2
    refine hR.mono ?_
    rintro e W3 ⟨_, (⟨rfl, hJ3⟩ | ⟨rfl, hJx3⟩)⟩
    ·gi_wp2
     go_end0
     exact ⟨⟨_, rfl⟩, .inl (by rw [Hxs.out]; exact hJ3)⟩
    ·gi_wp2
     go_end0
     exact ⟨⟨_, rfl⟩, .inr ⟨_, [], by rw [List.append_nil]; exact Hxs.out, hJx3⟩⟩
end Go.Proofs.YtdhkmfpfbjcdiaaGreatDoor
