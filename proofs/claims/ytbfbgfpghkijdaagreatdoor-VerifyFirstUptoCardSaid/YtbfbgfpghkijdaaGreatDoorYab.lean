/- lemmalaw texts, part 2. -/
import Derived.Test.YtbfbgfpghkijdaaGreatDoorYaa
import Derived.RangeFuncNested
import Derived.RangeFuncBound
import Derived.RangeFuncCalls
import Derived.RangeFuncLeaves
import Derived.OwnWalkIn
import Derived.TacticsInMore
import Derived.LoopNIn
import Derived.LoopIn
set_option maxRecDepth 100000
set_option linter.unusedVariables false
set_option linter.unusedSimpArgs false
set_option maxHeartbeats 32000000
namespace Go.Proofs.YtbfbgfpghkijdaaGreatDoor
open Go.RowKit
def Eh (c : Nat) : Bool := c == 9 || c == 10 || c == 12 || c == 13 || c == 32
def CM (c : Nat) : Nat := if 33 ≤ c ∧ c ≤ 126 then 2 else if Eh c = true then 1 else 0
def BF (w : World) : Prop := ∀ c : Nat, c < 33 → w.cell? ⟨1, c, none⟩ = some (.bool (Eh c))
theorem BF.same {w w' : World} (h : BF w) (hs : Ad [] w w') : BF w' := fun c hc => hs.cell (h c hc) (by simp)
theorem BF.sameS {w w' : World} {S : List Nat} (h : BF w) (hs : Ad S w w') (hn : 1 ∉ S) : BF w' := fun c hc => hs.cell (h c hc) hn
theorem zq95 {P : Prop} (h : P := by
 have Hk := Kd this
 clear this
 go_enter Tryz.func148, Tryz.ntmps148
 go_wp2
 go_ret
 exact ⟨Fc (by rw [Hk.out]; rfl), rfl⟩) : P := h
theorem JQ (c : UInt8) (w : World) (hb : BF w) :
  Calls Tryz.prog 148 #[.int .u8 c.toNat] w fun e w' => e = .returned (.int .i64 (CM c.toNat)) ∧ w = w' := by
 have h0 : c.toNat < 256 := c.toNat_lt
 by_cases h1 : c.toNat < 33
 ·have hc := hb c.toNat h1
  have hk : CM c.toNat = if Eh c.toNat = true then 1 else 0 := by unfold CM; rw [if_neg (by omega)]
  have Hk := Kd hk
  clear hk hb
  cases hbl : Eh c.toNat
  all_goals
   rw [hbl] at hc
   have Hb := Kd hbl
   clear hbl
   go_enter Tryz.func148, Tryz.ntmps148
   go_wp2
   go_ret
   exact ⟨Fc (by rw [Hk.out, Hb.out]; rfl), rfl⟩
 ·have hk : CM c.toNat = if c.toNat ≤ 126 then 2 else 0 := by
   unfold CM Eh
   have e1 : (c.toNat == 9) = false := by simp; omega
   have e2 : (c.toNat == 10) = false := by simp; omega
   have e3 : (c.toNat == 12) = false := by simp; omega
   have e4 : (c.toNat == 13) = false := by simp; omega
   have e5 : (c.toNat == 32) = false := by simp; omega
   rw [e1, e2, e3, e4, e5]
   by_cases h2 : c.toNat ≤ 126
   ·rw [if_pos ⟨by omega, h2⟩, if_pos h2]
   ·rw [if_neg (by omega), if_neg h2]; rfl
  have Hk := Kd hk
  clear hk hb
  by_cases h2 : c.toNat ≤ 126
  ·have : CM c.toNat = 2 := by rw [Hk.out, if_pos h2]
   exact zq95
  ·have : CM c.toNat = 0 := by rw [Hk.out, if_neg h2]
   exact zq95
def Pt (c : UInt8) : Bool := decide (33 ≤ c.toNat ∧ c.toNat ≤ 126 ∧ c.toNat ≠ 36)
def Dl (s : ByteArray) : Bool := s.data.toList.all Pt && decide (s.size ≠ 0 ∧ s.size ≤ 32)
theorem zq94 {P : Prop} (h : P := by
 rw [← List.take_append_drop (k + 1) s.data.toList, List.all_append, hsn, List.all_append]
 simp only [List.all_cons]
 simp [h1]) : P := h
theorem zq102 {P : Prop} (h : P := by
 go_wp2_with (go_at_call 148; refine hke.mono ?_; rintro e w' ⟨rfl, rfl⟩)
 go_ret
 exact ⟨B9 H0.out.symm, rfl⟩) : P := h
theorem zq134 {P : Prop} (h : P := by
 have He := Kd hr
 clear hr
 go_wp2
 go_ret
 exact ⟨B9 He.out.symm, rfl⟩) : P := h
theorem Cm (s : ByteArray) (w : World) (hb : BF w) (hs : s.size ≤ maxLen) :
  Calls Tryz.prog 111 #[.string s] w fun e w' => e = .returned (.bool (Dl s)) ∧ w = w' := by
 unfold maxLen at hs
 have hlen : s.data.toList.length = s.size := by simp
 go_enter Tryz.func111, Tryz.ntmps111
 go_wp2
 go_loop [2, 3, 6] (fun _ _ i => ∃ k : Nat, k ≤ s.size ∧ i = .int .i64 k ∧ (s.data.toList.take k).all Pt = true) (fun _ _ i => s.size - (intOf i).toNat)
 case atStart => exact ⟨0, Nat.zero_le _, rfl, by simp⟩
 case round =>
  obtain ⟨k, hk, rfl, hall⟩ := hrel
  by_cases hlt : k < s.size
  ·have hke := JQ s[k] w hb
   have hsn : s.data.toList.take (k + 1) = s.data.toList.take k ++ [s[k]] := by
    rw [List.take_succ_eq_append_getElem (by simpa using hlt)]; rfl
   have Hsn := Kd hsn
   have h256 : s[k].toNat < 256 := s[k].toNat_lt
   have hsz : (k + 1 : Int) ≤ s.size := by omega
   by_cases h1 : Pt s[k] = true
   ·have h2 : 33 ≤ s[k].toNat ∧ s[k].toNat ≤ 126 ∧ s[k].toNat ≠ 36 := by simpa [Pt] using h1
    have hkd : (CM s[k].toNat : Int) = 2 := by unfold CM; rw [if_pos ⟨h2.1, h2.2.1⟩]; rfl
    rw [hkd] at hke
    have h3 : ((s[k].toNat : Int) == 36) = false := by simp; omega
    have H1 := Kd h1
    clear h1 h2 hkd hsn
    go_wp2_with (go_at_call 148; refine hke.mono ?_; rintro e w' ⟨rfl, rfl⟩)
    go_round
    case rel => exact ⟨k + 1, by omega, by go_num, by rw [Hsn.out, List.all_append, hall]; simp [H1.out]⟩
    case measure => simp [intOf]; omega
   ·have hb0 : Dl s = false := by
     have : s.data.toList.all Pt = false := by
      exact zq94
     simp [Dl, this]
    have H0 := Kd hb0
    clear hb0 hsn
    by_cases h2 : 33 ≤ s[k].toNat ∧ s[k].toNat ≤ 126
    ·have h3 : s[k].toNat = 36 := by
      simp [Pt] at h1
      exact h1 h2.1 h2.2
     have hkd : (CM s[k].toNat : Int) = 2 := by unfold CM; rw [if_pos h2]; rfl
     rw [hkd] at hke
     have h4 : ((s[k].toNat : Int) == 36) = true := beq_iff_eq.2 (by omega)
     clear h3
     clear h1 h2 hkd
     exact zq102
    ·have hkd : ((CM s[k].toNat : Int) == 2) = false := by
      unfold CM
      rw [if_neg h2]
      split <;> simp
     generalize hkn : CM s[k].toNat = kk at *
     have Hkn := Kd hkn
     clear h1 h2 hkn
     exact zq102
  ·have hkk : k = s.size := by omega
   have hfin : Dl s = decide (s.size ≠ 0 ∧ s.size ≤ 32) := by
    have : s.data.toList.take k = s.data.toList := List.take_of_length_le (by omega)
    rw [this] at hall
    simp only [Dl, hall, Bool.true_and]
   have Hf := Kd hfin
   clear hfin hkk hall
   by_cases hz : s.size = 0
   ·have he : s.toList = [] := (Dx s).2 hz
    have hr : Dl s = false := by rw [Hf.out]; simp [hz]
    exact zq134
   ·have he : s.toList.isEmpty = false := by rw [AM]; simp [hz]
    by_cases h32 : s.size ≤ 32
    all_goals
     have He : Hid (Dl s = decide (s.size ≤ 32)) := Kd (by rw [Hf.out]; simp [hz])
     go_wp2
     go_ret
     exact ⟨B9 (by rw [He.out]; simp; omega), rfl⟩
def Jg (c : UInt8) : Bool := decide ((97 ≤ c.toNat ∧ c.toNat ≤ 122) ∨ (65 ≤ c.toNat ∧ c.toNat ≤ 90) ∨ (48 ≤ c.toNat ∧ c.toNat ≤ 57) ∨ c.toNat = 46 ∨ c.toNat = 45 ∨ c.toNat = 95)
def CA (s : ByteArray) : Bool := s.data.toList.all Jg && decide (s.size ≠ 0 ∧ s.size ≤ 32)
theorem Oi (c : Nat) : (97 ≤ c ∧ c ≤ 122) ∨ (65 ≤ c ∧ c ≤ 90) ∨ (48 ≤ c ∧ c ≤ 57) ∨ c = 46 ∨ c = 45 ∨ c = 95 ∨ (c < 48 ∧ ¬ c = 46 ∧ ¬ c = 45 ∧ ¬ c = 95) ∨ (58 ≤ c ∧ c ≤ 64 ∧ ¬ c = 46 ∧ ¬ c = 45 ∧ ¬ c = 95) ∨ (91 ≤ c ∧ c ≤ 96 ∧ ¬ c = 46 ∧ ¬ c = 45 ∧ ¬ c = 95) ∨ (122 < c ∧ ¬ c = 46 ∧ ¬ c = 45 ∧ ¬ c = 95) := by omega
theorem zq93 {P : Prop} (h : P := by
 go_wp2
 exact ⟨⟨k + 1, by omega, by go_num, by rw [Hsn.out, List.all_append, hall]; simp [Hy.out]⟩, by simp [intOf]; omega⟩) : P := h
theorem JB (s : ByteArray) (w : World) (hs : s.size ≤ maxLen) :
  Calls Tryz.prog 108 #[.string s] w fun e w' => e = .returned (.bool (CA s)) ∧ w = w' := by
 unfold maxLen at hs
 have hlen : s.data.toList.length = s.size := by simp
 go_enter Tryz.func108, Tryz.ntmps108
 go_wp2
 go_loop [2, 3, 4, 7] (fun _ _ _ i => ∃ k : Nat, k ≤ s.size ∧ i = .int .i64 k ∧ (s.data.toList.take k).all Jg = true) (fun _ _ _ i => s.size - (intOf i).toNat)
 case atStart => exact ⟨0, Nat.zero_le _, rfl, by simp⟩
 case round =>
  obtain ⟨k, hk, rfl, hall⟩ := hrel
  by_cases hlt : k < s.size
  ·have hsn : s.data.toList.take (k + 1) = s.data.toList.take k ++ [s[k]] := by
    rw [List.take_succ_eq_append_getElem (by simpa using hlt)]; rfl
   have Hsn := Kd hsn
   have h256 : s[k].toNat < 256 := s[k].toNat_lt
   have Hb : Hid (Jg s[k] = decide ((97 ≤ s[k].toNat ∧ s[k].toNat ≤ 122) ∨ (65 ≤ s[k].toNat ∧ s[k].toNat ≤ 90) ∨ (48 ≤ s[k].toNat ∧ s[k].toNat ≤ 57) ∨ s[k].toNat = 46 ∨ s[k].toNat = 45 ∨ s[k].toNat = 95)) := Kd rfl
   have Hf : Hid (Jg s[k] = false → CA s = false) := Kd (fun h1 => by
    have : s.data.toList.all Jg = false := by
     exact zq94
    simp [CA, this])
   clear hsn
   rcases Oi s[k].toNat with h1 | h1 | h1 | h1 | h1 | h1 | ⟨h1, h2, h3, h4⟩ | ⟨h1, h1', h2, h3, h4⟩ | ⟨h1, h1', h2, h3, h4⟩ | ⟨h1, h2, h3, h4⟩
   case inl | inr.inl | inr.inr.inl =>
    have Hy : Hid (Jg s[k] = true) := Kd (by rw [Hb.out]; apply decide_eq_true; omega)
    exact zq93
   case inr.inr.inr.inl | inr.inr.inr.inr.inl | inr.inr.inr.inr.inr.inl =>
    have Hy : Hid (Jg s[k] = true) := Kd (by rw [Hb.out]; apply decide_eq_true; omega)
    clear Hb Hf
    exact zq93
   all_goals
    have Hn : Hid (CA s = false) := Kd (Hf.out (by rw [Hb.out]; apply decide_eq_false; omega))
    have e2 : ((s[k].toNat : Int) != 46) = true := by rw [bne_iff_ne]; omega
    have e3 : ((s[k].toNat : Int) != 45) = true := by rw [bne_iff_ne]; omega
    have e4 : ((s[k].toNat : Int) != 95) = true := by rw [bne_iff_ne]; omega
    clear Hb Hf h2 h3 h4
    go_wp2
    go_ret
    exact ⟨B9 Hn.out.symm, rfl⟩
  ·have hkk : k = s.size := by omega
   have hfin : CA s = decide (s.size ≠ 0 ∧ s.size ≤ 32) := by
    have : s.data.toList.take k = s.data.toList := List.take_of_length_le (by omega)
    rw [this] at hall
    simp only [CA, hall, Bool.true_and]
   have Hf := Kd hfin
   clear hfin hkk hall
   by_cases hz : s.size = 0
   ·have he : s.toList = [] := (Dx s).2 hz
    have hr : CA s = false := by rw [Hf.out]; simp [hz]
    exact zq134
   ·have he : s.toList.isEmpty = false := by rw [AM]; simp [hz]
    by_cases h32 : s.size ≤ 32
    all_goals
     have He : Hid (CA s = decide (s.size ≤ 32)) := Kd (by rw [Hf.out]; simp [hz])
     go_wp2
     go_ret
     exact ⟨B9 (by rw [He.out]; simp; omega), rfl⟩
@[go_sem] theorem R6 (f : FuncId) : Fence.wide.fn f = True := rfl
@[go_sem] theorem RD : Fence.wide.depth = Option.none := rfl
def Ch (lo p : Nat) (w w' : World) : Prop := w.heap.size ≤ w'.heap.size ∧ ∀ b, lo ≤ b → b < lo + p → w'.heap[b]? = w.heap[b]?
theorem Ch.trans {lo p : Nat} {a b c : World} (h : Ch lo p a b) (k : Ch lo p b c) : Ch lo p a c :=
 ⟨Nat.le_trans h.1 k.1, fun i h1 h2 => (k.2 i h1 h2).trans (h.2 i h1 h2)⟩
theorem Ch.of_same {lo p : Nat} {S : List Nat} {w w' : World} (h : Ad S w w') (hS : ∀ b ∈ S, b < lo ∨ lo + p ≤ b) (hl : lo + p ≤ w.heap.size) : Ch lo p w w' :=
 ⟨h.size, fun b h1 h2 => h.block b (by omega) (fun hm => by have := hS b hm; omega)⟩
def Rc {α : Type} (P : Program) (p : Nat) (g : FuncId) (lb : Array Value) (encs : α → Array Value) (Kp : World → Prop) (xs : List α) (W : World) : Prop :=
 ∀ (l : Nat) (J Jx : List α → World → Prop), J [] W → (∀ pre W1, J pre W1 → Kp W1) →
  (∀ pre S W1 W2, J pre W1 → Ad S W1 W2 → (∀ b ∈ S, W.heap.size ≤ b ∧ b < W.heap.size + p) → J pre W2) →
  (∀ pre S W1 W2, Jx pre W1 → Ad S W1 W2 → (∀ b ∈ S, W.heap.size ≤ b ∧ b < W.heap.size + p) → Jx pre W2) →
  (∀ pre x suf W1, xs = pre ++ x :: suf → J pre W1 → W.heap.size + p ≤ W1.heap.size → YieldAt Fence.wide 0 P l (encs x) W1 fun e W2 => Ch W.heap.size p W1 W2 ∧
   ((e = .returned (.bool true) ∧ J (pre ++ [x]) W2) ∨ (e = .returned (.bool false) ∧ Jx (pre ++ [x]) W2))) →
  CallsIn Fence.wide 0 P g (#[.func (.yield l) #[] #[]] ++ lb) W fun e W' => (∃ v, e = .returned v) ∧ (J xs W' ∨ ∃ pre suf, xs = pre ++ suf ∧ Jx pre W')
def MD {α : Type} (lo p : Nat) (I : List α → World → Prop) (Ix : Code → List α → World → Prop) (xs : List α) (W : World) : Exit → Act → World → Prop
 | .normal, _, W' => Ch lo p W W' ∧ I xs W'
 | .ret, _, W' => Ch lo p W W' ∧ Ix .ret xs W'
 | .exit id, _, W' => Ch lo p W W' ∧ Ix (.exit id) xs W'
 | .goto t, _, W' => Ch lo p W W' ∧ Ix (.goto t) xs W'
 | .panic _, _, _ => False
 | .outgrown, _, _ => False
theorem Ad.put {w : World} {b : Nat} {o : Obj} (o' : Obj) (h : w.heap[b]? = some o) : Ad [b] w (w.putObj b o') :=
 ⟨rfl, rfl, rfl, by simp, fun i _ hi => World.putObj_heap_other (by simpa using hi)⟩
theorem zq8 {P : Prop} (h : P := by
 rintro e a1 w1 hp
 cases e with
 | normal =>
  obtain ⟨hst, hsz1, hb⟩ := hp
  have hl1 : w1.heap[w.heap.size + 1]? = some (.loop (R .ready none)) := (hst _ (by omega) (by omega)).trans hl
  refine ⟨_, run_beginRound hl1 (by rw [hR]), wpIn_mono (hb _ (Ad.put _ hl1)) ?_⟩
  have hl2 : (w1.putObj (w.heap.size + 1) (.loop { R .ready none with state := .busy })).heap[w.heap.size + 1]? = some (.loop { R .ready none with state := .busy }) := World.putObj_heap_same (Af hl1)
  have hst0 : ∀ b, W1.heap.size ≤ b → b < W1.heap.size + p → (w1.putObj (w.heap.size + 1) (.loop { R .ready none with state := .busy })).heap[b]? = W.heap[b]? := fun b h1 h2 =>
   (World.putObj_heap_other (by omega)).trans (hst b (by omega) (by omega))
  have hk2 : (w1.putObj (w.heap.size + 1) (.loop { R .ready none with state := .busy })).heap[w.heap.size]? = some (.deferred (some [])) :=
   (World.putObj_heap_other (by omega)).trans ((hst _ (by omega) (by omega)).trans hk)
  have fin : ∀ (jump : Option Code) (W3 : World), Ch w.heap.size (2 + p) (w1.putObj (w.heap.size + 1) (.loop { R .ready none with state := .busy })) W3 →
    (Instr.endRound (w.heap.size + 1) jump).run P W3 = .ok (.bool jump.isNone) (W3.putObj (w.heap.size + 1) (.loop (R (if jump.isNone then .ready else .done) jump))) ∧
    (W3.putObj (w.heap.size + 1) (.loop (R (if jump.isNone then .ready else .done) jump))).heap[w.heap.size + 1]? = some (.loop (R (if jump.isNone then .ready else .done) jump)) ∧
    (W3.putObj (w.heap.size + 1) (.loop (R (if jump.isNone then .ready else .done) jump))).heap[w.heap.size]? = some (.deferred (some [])) ∧
    Ch W1.heap.size p W (W3.putObj (w.heap.size + 1) (.loop (R (if jump.isNone then .ready else .done) jump))) ∧
    Ad [w.heap.size + 1] W3 (W3.putObj (w.heap.size + 1) (.loop (R (if jump.isNone then .ready else .done) jump))) := fun jump W3 hk3 => by
   have hl3 : W3.heap[w.heap.size + 1]? = some (.loop { R .ready none with state := .busy }) := (hk3.2 _ (by omega) (by omega)).trans hl2
   have he := run_endRound (P := P) jump hl3
   refine ⟨by rw [hR] at he ⊢; exact he, World.putObj_heap_same (Af hl3), (World.putObj_heap_other (by omega)).trans ((hk3.2 _ (by omega) (by omega)).trans hk2), ⟨?_, ?_⟩, Ad.put _ hl3⟩
   ·have := hk3.1
    simp at this ⊢
    omega
   ·intro b h1 h2
    exact (World.putObj_heap_other (by omega)).trans ((hk3.2 b (by omega) (by omega)).trans (hst0 b h1 h2))
  rintro e a3 W3 hp
  cases e with
  | normal =>
   obtain ⟨hk3, hi3⟩ := hp
   obtain ⟨hr, hl4, hk4, hs4, hsm⟩ := fin none W3 hk3
   exact ⟨_, _, hr, hs4, .inl ⟨rfl, hI _ _ _ _ hi3 hsm (by simp; omega), hl4, hk4⟩⟩
  | ret =>
   obtain ⟨hk3, hi3⟩ := hp
   obtain ⟨hr, hl4, hk4, hs4, hsm⟩ := fin (some .ret) W3 hk3
   exact ⟨_, _, hr, hs4, .inr ⟨rfl, .ret, hIx _ _ _ _ _ hi3 hsm (by simp; omega), hl4, hk4⟩⟩
  | exit id =>
   obtain ⟨hk3, hi3⟩ := hp
   obtain ⟨hr, hl4, hk4, hs4, hsm⟩ := fin (some (.exit id)) W3 hk3
   exact ⟨_, _, hr, hs4, .inr ⟨rfl, .exit id, hIx _ _ _ _ _ hi3 hsm (by simp; omega), hl4, hk4⟩⟩
  | goto t =>
   obtain ⟨hk3, hi3⟩ := hp
   obtain ⟨hr, hl4, hk4, hs4, hsm⟩ := fin (some (.goto t)) W3 hk3
   exact ⟨_, _, hr, hs4, .inr ⟨rfl, .goto t, hIx _ _ _ _ _ hi3 hsm (by simp; omega), hl4, hk4⟩⟩
  | panic ch => exact hp.elim
  | outgrown => exact hp.elim
 | ret => exact hp.elim
 | exit id => exact hp.elim
 | goto t => exact hp.elim
 | panic ch => exact hp.elim
 | outgrown => exact hp.elim) : P := h
theorem zq71 {P : Prop} (h : P := by
 rintro pre S A B ⟨c, hi, hl, hk⟩ hs hS
 exact ⟨c, hIx _ _ _ _ _ hi hs (fun b hb => by have := hS b hb; omega), hs.get hl (fun hm => by have := hS _ hm; omega), hs.get hk (fun hm => by have := hS _ hm; omega)⟩) : P := h
theorem zq75 {P : Prop} (h : P := by
 rintro pre S A B ⟨hi, hl, hk⟩ hs hS
 exact ⟨hI _ _ _ _ hi hs (fun b hb => by have := hS b hb; omega), hs.get hl (fun hm => by have := hS _ hm; omega), hs.get hk (fun hm => by have := hS _ hm; omega)⟩) : P := h
theorem zq111 {P : Prop} (h : P := by
 rw [← hW1]
 have := Aj (w.alloc (.deferred (some []))) (.loop (R .ready none))
 rwa [World.size_alloc] at this) : P := h
theorem PR {α : Type} {P : Program} {g : Operand} {ps : Array Tmp} {assign body : Code} {Q : Exit → Act → World → Prop} {a : Act} {w : World}
  {p : Nat} {gf : Nat} {lb : Array Value} {encs : α → Array Value} {Kp : World → Prop} {xs : List α}
  (hg : a.eval g = .func (.func gf) #[] lb) (eg : ∀ args w, (callFunc gf args).run P w = .ok (.enter gf args) w) (hps : ∀ x, (encs x).size = ps.size)
  (hseq : ∀ W, Ad [] w W → Rc P p gf lb encs Kp xs W)
  (I : List α → World → Prop) (Ix : Code → List α → World → Prop) (h0 : I [] w) (hKp : ∀ pre W, I pre W → Kp W)
  (hI : ∀ pre S W1 W2, I pre W1 → Ad S W1 W2 → (∀ b ∈ S, w.heap.size ≤ b ∧ b < w.heap.size + (2 + p)) → I pre W2)
  (hIx : ∀ c pre S W1 W2, Ix c pre W1 → Ad S W1 W2 → (∀ b ∈ S, w.heap.size ≤ b ∧ b < w.heap.size + (2 + p)) → Ix c pre W2)
  (hround : ∀ (l : Nat) (pre : List α) (x : α) (suf : List α) (W : World), xs = pre ++ x :: suf → I pre W → w.heap.size + (2 + p) ≤ W.heap.size →
   assign.wpIn (Fence.wide.inRound l) 0 P (Exit.then (fun a₁ w₁ => (∀ b, w.heap.size ≤ b → b < w.heap.size + (2 + p) → w₁.heap[b]? = W.heap[b]?) ∧ W.heap.size ≤ w₁.heap.size ∧
    ∀ w₂, Ad [w.heap.size + 1] w₁ w₂ → body.wpIn (Fence.wide.inRound l) 0 P (MD w.heap.size (2 + p) I Ix (pre ++ [x]) w₂) a₁ w₂) (fun _ _ _ => False))
    { tmps := (ps.zip (encs x)).foldl (fun t (p, v) => t.setIfInBounds p v) a.tmps, defers := [] } W)
  (hdone : ∀ (W : World), I xs W → W.heap[w.heap.size]? = some (.deferred (some [])) → Q .normal { a with defers := { target := .collected w.heap.size, args := #[] } :: a.defers } W)
  (hstop : ∀ (c : Code) (pre suf : List α) (W : World), xs = pre ++ suf → Ix c pre W → W.heap[w.heap.size]? = some (.deferred (some [])) →
   c.wpIn Fence.wide 0 P Q { a with defers := { target := .collected w.heap.size, args := #[] } :: a.defers } W) :
  (Code.rangeFunc g ps assign body).wpIn Fence.wide 0 P Q a w := by
 refine wpIn_rangeFunc ?_
 intro fn hfn
 have hwide : ¬ (Fence.wide.depth.isSome = true) := by simp [Fence.wide]
 obtain ⟨R, hR⟩ : ∃ R : LoopState → Option Code → Loop, R = fun st pe => { state := st, pending := pe, fn, tmps := a.tmps, params := ps, assign, body, defers := w.heap.size } := ⟨_, rfl⟩
 obtain ⟨W1, hW1⟩ : ∃ W1, (w.alloc (.deferred (some []))).alloc (.loop (R .ready none)) = W1 := ⟨_, rfl⟩
 have hs1 : W1.heap.size = w.heap.size + 2 := by rw [← hW1]; simp
 have hsame1 : Ad [] w W1 := by rw [← hW1]; exact (Ad.alloc _ _ _).trans (Ad.alloc _ _ _)
 have hL1 : W1.heap[w.heap.size + 1]? = some (.loop (R .ready none)) := by
  exact zq111
 have hK1 : W1.heap[w.heap.size]? = some (.deferred (some [])) := by rw [← hW1]; exact AR (Aj _ _) _
 refine ⟨w.heap.size + 1, [{ target := .collected w.heap.size, args := #[] }], W1, { target := .fn (.func gf) lb, args := #[.func (.yield (w.heap.size + 1)) #[] #[]] }, W1, gf,
  #[.func (.yield (w.heap.size + 1)) #[] #[]] ++ lb, W1, ?_, ?_, ?_, ?_, fun h => absurd h hwide, ?_⟩
 ·rw [← hW1, hR]; exact run_enterLoop_outer _ _ _ _ _
 ·simp only [resolve, hg]
  simp [go_sem]
 ·intro f' _; trivial
 ·simp [invoke, go_sem, eg]
 ·refine (hseq W1 hsame1 (w.heap.size + 1)
   (fun pre W => I pre W ∧ W.heap[w.heap.size + 1]? = some (.loop (R .ready none)) ∧ W.heap[w.heap.size]? = some (.deferred (some [])))
   (fun pre W => ∃ c, Ix c pre W ∧ W.heap[w.heap.size + 1]? = some (.loop (R .done (some c))) ∧ W.heap[w.heap.size]? = some (.deferred (some [])))
   ⟨hI _ _ _ _ h0 hsame1 (by simp), hL1, hK1⟩ (fun pre W h => hKp _ _ h.1) ?_ ?_ ?_).mono ?_
  ·exact zq75
  ·exact zq71
  ·rintro pre x suf W hxs ⟨hi, hl, hk⟩ hsz
   have hy := run_yield (P := P) (args := encs x) hl (by rw [hR]; exact hps x)
   rw [hR] at hy
   refine ⟨fn, _, assign, body, hy, roundIn_of_wpIn hfn (wpIn_mono (hround _ pre x suf W hxs hi (by omega)) ?_)⟩
   exact zq8
  ·rintro e W2 ⟨⟨v, rfl⟩, (⟨hi, hl, hk⟩ | ⟨pre, suf, hxs, c, hi, hl, hk⟩)⟩
   ·exact ⟨none, _, by have := run_endLoop (P := P) hl (by rw [hR]; simp); rw [hR] at this; exact this, hdone _ (hI _ _ _ _ hi (Ad.put _ hl) (by simp; omega)) ((World.putObj_heap_other (by omega)).trans hk)⟩
   ·exact ⟨some c, _, by have := run_endLoop (P := P) hl (by rw [hR]; simp); rw [hR] at this; exact this, hstop c pre suf _ hxs (hIx _ _ _ _ _ hi (Ad.put _ hl) (by simp; omega)) ((World.putObj_heap_other (by omega)).trans hk)⟩
structure It where
 word : Tk
 code : Int
def It.val (x : It) : Value := .agg #[.string x.word.text, .int .i64 x.word.at_.off, .int .i64 x.word.at_.line, .int .i64 x.word.at_.col, .int .i64 x.code]
def Ps.next (p : Ps) (c : UInt8) : Ps := if c.toNat = 10 then ⟨p.off + 1, p.line + 1, 1⟩ else ⟨p.off + 1, p.line, p.col + 1⟩
def Cl (t : ByteArray) : (n k : Nat) → (at_ : Ps) → (word : Tk) → List It
 | 0, _, _, word => if word.text.size = 0 then [] else [⟨word, 0⟩]
 | n + 1, k, p, word =>
  let c := t[k]!
  if k = 65536 then [⟨⟨⟨#[]⟩, p⟩, 13⟩]
  else if CM c.toNat = 0 then [⟨⟨⟨#[]⟩, p⟩, 10⟩]
  else if CM c.toNat = 2 then
   let q := if word.text.size = 0 then p else word.at_
   Cl t n (k + 1) (p.next c) ⟨t.extract q.off (k + 1), q⟩
  else if word.text.size = 0 then Cl t n (k + 1) (p.next c) word
  else ⟨word, 0⟩ :: Cl t n (k + 1) (p.next c) Tk.none
def G3 (t : ByteArray) : List It := Cl t t.size 0 ⟨0, 1, 1⟩ Tk.none
theorem Lx (t : ByteArray) (k : Nat) (h : k < t.size) (p : Ps) (word : Tk) : Cl t (t.size - k) k p word =
  if k = 65536 then [⟨⟨⟨#[]⟩, p⟩, 13⟩]
  else if CM t[k].toNat = 0 then [⟨⟨⟨#[]⟩, p⟩, 10⟩]
  else if CM t[k].toNat = 2 then
   Cl t (t.size - (k + 1)) (k + 1) (p.next t[k]) ⟨t.extract (if word.text.size = 0 then p else word.at_).off (k + 1), if word.text.size = 0 then p else word.at_⟩
  else if word.text.size = 0 then Cl t (t.size - (k + 1)) (k + 1) (p.next t[k]) word
  else ⟨word, 0⟩ :: Cl t (t.size - (k + 1)) (k + 1) (p.next t[k]) Tk.none := by
 rw [show t.size - k = (t.size - (k + 1)) + 1 by omega]
 rw [Cl]
 simp only [getElem!_pos t k h]
def FX (p : Ps) : Obj := .cells #[.int .i64 p.off, .int .i64 p.line, .int .i64 p.col] 57 (0, 0)
def AP (x : Tk) : Obj := .cells #[.string x.text, .int .i64 x.at_.off, .int .i64 x.at_.line, .int .i64 x.at_.col] 59 (0, 0)
theorem In {w : World} {b : Nat} {p : Ps} (h : w.heap[b]? = some (FX p)) : w.cell? ⟨b, 0, none⟩ = some (.int .i64 p.off) ∧ w.cell? ⟨b, 1, none⟩ = some (.int .i64 p.line) ∧ w.cell? ⟨b, 2, none⟩ = some (.int .i64 p.col) ∧ ∀ i, w.frozen? ⟨b, i, none⟩ = false :=
 ⟨Ai h, Ai h, Ai h, AE h⟩
theorem At {w : World} {b : Nat} {x : Tk} (h : w.heap[b]? = some (AP x)) : w.cell? ⟨b, 0, none⟩ = some (.string x.text) ∧ w.cell? ⟨b, 1, none⟩ = some (.int .i64 x.at_.off) ∧ w.cell? ⟨b, 2, none⟩ = some (.int .i64 x.at_.line) ∧ w.cell? ⟨b, 3, none⟩ = some (.int .i64 x.at_.col) ∧ ∀ i, w.frozen? ⟨b, i, none⟩ = false :=
 ⟨Ai h, Ai h, Ai h, Ai h, AE h⟩
def PP (t : ByteArray) (J : List It → World → Prop) (n0 : Nat) (u : Value) (wr : World) : Prop :=
 ∃ (k : Nat) (p : Ps) (x : Tk) (pre : List It), k ≤ t.size ∧ k ≤ 65536 ∧ u = .int .i64 k ∧ J pre wr ∧ G3 t = pre ++ Cl t (t.size - k) k p x ∧
  wr.heap[n0]? = some (FX p) ∧ wr.heap[n0 + 1]? = some (AP x) ∧ p.off = k ∧ p.line ≤ k + 1 ∧ p.col ≤ k + 1 ∧ (x.text.size ≠ 0 → x.at_.off ≤ k)
theorem zq54 {P : Prop} (h : P := by
 refine hR.mono ?_
 rintro e W3 ⟨_, (⟨rfl, hJ3⟩ | ⟨rfl, hJx3⟩)⟩
 ·gi_wp2
  refine bodyPost_ret (results_none rfl _ _ _) rfl ?_
  exact ⟨⟨_, rfl⟩, .inl (by rw [Hxs.out]; exact hJ3)⟩
 ·gi_wp2
  refine bodyPost_ret (results_none rfl _ _ _) rfl ?_
  exact ⟨⟨_, rfl⟩, .inr ⟨_, [], by rw [List.append_nil]; exact Hxs.out, hJx3⟩⟩) : P := h
theorem zq76 {P : Prop} (h : P := by
 repeat (first | refine Ad.set ?_ _ _ (by simp) | exact Ad.refl _ _)) : P := h
theorem M7 (t : ByteArray) (B : Nat) (W : World) (ht : t.size ≤ maxLen) (hB : B < W.heap.size) :
  Rc Tryz.prog 2 147 #[.pointer (some ⟨B, 0, none⟩)] (fun x : It => #[x.val]) (fun w => w.cell? ⟨B, 0, none⟩ = some (.string t) ∧ BF w) (G3 t) W := by
 intro l J Jx h0 hKp hJ hJx hY
 unfold maxLen at ht
 have hK0 := hKp _ _ h0
 refine callsIn_of_wp Tryz.func147 rfl trivial ?_ rfl
 simp only [Tryz.ntmps147, List.size_toArray, List.length_cons, List.length_nil, Nat.reduceAdd, Nat.reduceSub, Array.replicate_succ, Array.replicate_zero, List.push_toArray, List.append_toArray, List.nil_append, List.cons_append]
 have hc0 := hK0.1
 gi_wp2
 gi_loopw [5, 6, 11] (fun _ _ u wr => PP t J W.heap.size u wr) (fun _ _ u _ => t.size - (intOf u).toNat)
 case atStart =>
  refine ⟨0, ⟨0, 1, 1⟩, Tk.none, [], Nat.zero_le _, by omega, rfl, ?_, rfl, ?_, ?_, rfl, by simp, by simp, by simp [Tk.none]⟩
  ·exact hJ _ _ _ _ h0 ((Ad.alloc [] _ _).trans (Ad.alloc [] _ _)) (by simp)
  ·exact AR (Aj _ _) _
  ·have := Aj (W.alloc (FX ⟨0, 1, 1⟩)) (AP Tk.none)
   rw [World.size_alloc] at this
   exact this
 case round =>
  obtain ⟨k, p, x, pre, hk, hk6, rfl, hj, hxs, hb0, hb1, hp1, hp2, hp3, hx1⟩ := hrel
  have hK := hKp _ _ hj
  have hc := hK.1
  obtain ⟨a0, a1, a2, af⟩ := In hb0
  obtain ⟨b0, b1, b2, b3, bf⟩ := At hb1
  by_cases hlt : k < t.size
  ·have hgo := Lx t k hlt p x
   have h256 : t[k].toNat < 256 := t[k].toNat_lt
   have hke := (callsIn_wide (n := 0)).2 (JQ t[k] wr hK.2)
   have hsz : W.heap.size + 2 ≤ wr.heap.size := by have := Af hb1; omega
   have hkt : (k + 1 : Int) ≤ t.size := by omega
   by_cases h65 : k = 65536
   ·rw [hgo, if_pos h65] at hxs
    obtain ⟨fn, tmps, assign, body, hy, hR⟩ := hY pre _ [] wr hxs hj hsz
    dsimp only [It.val] at hy
    have Hxs := Kd hxs
    have h65' : ((k : Int) == 65536) = true := beq_iff_eq.2 (by omega)
    clear hgo hxs hp1 h65
    gi_wp2
    exact zq54
   ·have h65' : ((k : Int) == 65536) = false := beq_eq_false_iff_ne.2 (by omega)
    rw [if_neg h65] at hgo
    have hk66 : k + 1 ≤ 65536 := by omega
    have hpo : (p.off : Int) ≤ k := by omega
    by_cases hk0 : CM t[k].toNat = 0
    ·rw [hgo, if_pos hk0] at hxs
     obtain ⟨fn, tmps, assign, body, hy, hR⟩ := hY pre _ [] wr hxs hj hsz
     dsimp only [It.val] at hy
     have Hxs := Kd hxs
     rw [hk0] at hke
     clear hgo hxs hp1 h65 hk0
     gi_wp2_with (gi_at_call 148; refine hke.mono ?_; rintro e w' ⟨rfl, rfl⟩)
     exact zq54
    ·rw [if_neg hk0] at hgo
     by_cases hk2 : CM t[k].toNat = 2
     ·rw [hgo, if_pos hk2] at hxs
      rw [hk2] at hke
      have Hxs := Kd hxs
      have Hp1 := Kd hp1
      have hn : ¬ t[k].toNat = 10 := by intro e; rw [e] at hk2; simp [CM, Eh] at hk2
      have hn10 := Kd hn
      have hnl' : ((t[k].toNat : Int) == 10) = false := beq_eq_false_iff_ne.2 (by omega)
      clear hgo hxs hp1 h65 hk0 hk2 hn
      by_cases hz : x.text.size = 0
      ·have he : x.text.toList = [] := (Dx _).2 hz
       have Hhz := Kd hz
       clear hz hx1
       gi_wp2_with (gi_at_call 148; refine hke.mono ?_; rintro e w' ⟨rfl, rfl⟩)
       refine ⟨⟨k + 1, p.next t[k], _, pre, by omega, by omega, by go_num, hJ _ [W.heap.size, W.heap.size + 1] _ _ hj ?_ (by simp), Hxs.out, ?_, ?_, ?_, ?_, ?_, ?_⟩, by simp [intOf]; omega⟩
       ·exact zq76
       ·simp [Az, hb0, FX, AV, Ps.next, hn10.out]
       ·simp [Az, hb1, AP, AV, Hhz.out]
       ·simp [Ps.next, hn10.out, Hp1.out]
       ·simp [Ps.next, hn10.out]; omega
       ·simp [Ps.next, hn10.out]; omega
       ·intro _; rw [Hhz.out]; simp; omega
      ·have he : x.text.toList.isEmpty = false := by rw [AM]; simp [hz]
       have hxo : (x.at_.off : Int) ≤ k := by have := hx1 hz; omega
       have Hhz := Kd hz
       clear hz hx1
       gi_wp2_with (gi_at_call 148; refine hke.mono ?_; rintro e w' ⟨rfl, rfl⟩)
       refine ⟨⟨k + 1, p.next t[k], _, pre, by omega, by omega, by go_num, hJ _ [W.heap.size, W.heap.size + 1] _ _ hj ?_ (by simp), Hxs.out, ?_, ?_, ?_, ?_, ?_, ?_⟩, by simp [intOf]; omega⟩
       ·exact zq76
       ·simp [Az, hb0, FX, AV, Ps.next, hn10.out]
       ·simp [Az, hb1, AP, AV, Hhz.out]
       ·simp [Ps.next, hn10.out, Hp1.out]
       ·simp [Ps.next, hn10.out]; omega
       ·simp [Ps.next, hn10.out]; omega
       ·intro _; rw [if_neg Hhz.out]; simp; omega
     ·rw [hgo, if_neg hk2] at hxs
      have hk1 : CM t[k].toNat = 1 := by unfold CM at hk0 hk2 ⊢; split at hk0 <;> split at hk2 <;> simp_all
      rw [hk1] at hke
      have Hp1 := Kd hp1
      clear hgo hp1 h65 hk0 hk2 hk1
      by_cases hz : x.text.size = 0
      ·have he : x.text.toList = [] := (Dx _).2 hz
       rw [if_pos hz] at hxs
       have Hxs := Kd hxs
       have Hhz := Kd hz
       clear hz hx1 hxs
       by_cases hnl : t[k].toNat = 10
       all_goals
        have Hn := Kd hnl
        first
         | have hnl' : ((t[k].toNat : Int) == 10) = true := beq_iff_eq.2 (by omega)
         | have hnl' : ((t[k].toNat : Int) == 10) = false := beq_eq_false_iff_ne.2 (by omega)
        clear hnl
        gi_wp2_with (gi_at_call 148; refine hke.mono ?_; rintro e w' ⟨rfl, rfl⟩)
        refine ⟨⟨k + 1, p.next t[k], _, pre, by omega, by omega, by go_num, hJ _ [W.heap.size, W.heap.size + 1] _ _ hj ?_ (by simp), Hxs.out, ?_, ?_, ?_, ?_, ?_, ?_⟩, by simp [intOf]; omega⟩
        ·exact zq76
        ·simp [Az, hb0, FX, AV, Ps.next, Hn.out]
        ·simp [Az, hb1, AP, AV]
        ·simp [Ps.next, Hn.out, Hp1.out]
        ·simp [Ps.next, Hn.out]; omega
        ·simp [Ps.next, Hn.out] <;> omega
        ·intro hh; exact absurd Hhz.out hh
      ·have he : x.text.toList.isEmpty = false := by rw [AM]; simp [hz]
       rw [if_neg hz] at hxs
       obtain ⟨fn, tmps, assign, body, hy, hR⟩ := hY pre _ _ wr hxs hj hsz
       dsimp only [It.val] at hy
       have Hxs := Kd hxs
       clear hz hx1 hxs
       gi_wp2_with (gi_at_call 148; refine hke.mono ?_; rintro e w' ⟨rfl, rfl⟩)
       refine hR.mono ?_
       rintro e W3 ⟨hst, (⟨rfl, hJ3⟩ | ⟨rfl, hJx3⟩)⟩
       ·have hb0' : W3.heap[W.heap.size]? = some (FX p) := (hst.2 _ (by omega) (by omega)).trans hb0
        have hb1' : W3.heap[W.heap.size + 1]? = some (AP x) := (hst.2 _ (by omega) (by omega)).trans hb1
        obtain ⟨a0', a1', a2', af'⟩ := In hb0'
        obtain ⟨b0', b1', b2', b3', bf'⟩ := At hb1'
        have Hb0 := Kd hb0'
        have Hb1 := Kd hb1'
        clear hst hb0 hb1 hb0' hb1' a0 a1 a2 af b0 b1 b2 b3 bf hR hj hke hc
        have hK3 := (hKp _ _ hJ3).1
        by_cases hnl : t[k].toNat = 10
        all_goals
         have Hn := Kd hnl
         first
          | have hnl' : ((t[k].toNat : Int) == 10) = true := beq_iff_eq.2 (by omega)
          | have hnl' : ((t[k].toNat : Int) == 10) = false := beq_eq_false_iff_ne.2 (by omega)
         clear hnl
         gi_wp2
         refine ⟨⟨k + 1, p.next t[k], Tk.none, pre ++ [⟨x, 0⟩], by omega, by omega, by go_num, hJ _ [W.heap.size, W.heap.size + 1] _ _ hJ3 ?_ (by simp), by rw [Hxs.out]; simp, ?_, ?_, ?_, ?_, ?_, ?_⟩, by simp [intOf]; omega⟩
         ·exact zq76
         ·simp [Az, Hb0.out, FX, AV, Ps.next, Hn.out]
         ·simp [Az, Hb1.out, AP, AV, Tk.none]
         ·simp [Ps.next, Hn.out, Hp1.out]
         ·simp [Ps.next, Hn.out]; omega
         ·simp [Ps.next, Hn.out] <;> omega
         ·intro hh; exact absurd rfl hh
       ·gi_wp2
        refine bodyPost_ret (results_none rfl _ _ _) rfl ?_
        exact ⟨⟨_, rfl⟩, .inr ⟨_, _, by rw [Hxs.out, List.append_assoc]; rfl, hJx3⟩⟩
  ·have hkk : k = t.size := by omega
   have hx : Cl t (t.size - k) k p x = if x.text.size = 0 then [] else [⟨x, 0⟩] := by rw [show t.size - k = 0 by omega]; rfl
   by_cases hz : x.text.size = 0
   ·have he : x.text.toList = [] := (Dx _).2 hz
    rw [hx, if_pos hz, List.append_nil] at hxs
    have Hxs := Kd hxs
    clear hx hxs hkk hp1
    gi_wp2
    go_end0
    exact ⟨⟨_, rfl⟩, .inl (by rw [Hxs.out]; exact hj)⟩
   ·have he : x.text.toList.isEmpty = false := by rw [AM]; simp [hz]
    rw [hx, if_neg hz] at hxs
    obtain ⟨fn, tmps, assign, body, hy, hR⟩ := hY pre ⟨x, 0⟩ [] wr hxs hj (by have := Af hb1; omega)
    dsimp only [It.val] at hy
    have Hxs := Kd hxs
    clear hx hxs hkk hp1
    gi_wp2
    refine hR.mono ?_
    rintro e W3 ⟨_, (⟨rfl, hJ3⟩ | ⟨rfl, hJx3⟩)⟩
    ·gi_wp2
     go_end0
     exact ⟨⟨_, rfl⟩, .inl (by rw [Hxs.out]; exact hJ3)⟩
    ·gi_wp2
     go_end0
     exact ⟨⟨_, rfl⟩, .inr ⟨_, [], by rw [List.append_nil]; exact Hxs.out, hJx3⟩⟩
end Go.Proofs.YtbfbgfpghkijdaaGreatDoor
