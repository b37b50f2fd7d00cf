/- lemmalaw texts, part 8. -/
import Derived.Test.YtbfbgfpghkijdaaGreatDoorYaa
import Derived.Test.YtbfbgfpghkijdaaGreatDoorYaf
import Derived.Test.YtbfbgfpghkijdaaGreatDoorYag
import Derived.BigQuiet
import Derived.Laws.StructEq
set_option maxRecDepth 100000
set_option linter.unusedVariables false
set_option linter.unusedSimpArgs false
set_option maxHeartbeats 32000000
namespace Go.Proofs.YtbfbgfpghkijdaaGreatDoor
open Go.RowKit
theorem w64 {n : Int} (h1 : -9223372036854775808 ≤ n) (h2 : n ≤ 9223372036854775807) : wrap64 n = n := by unfold wrap64; omega
def BK (t : ByteArray) : Int × Int × Int := (t.size, 1 + Lib.countByte t.data.toList 10, t.size - Lib.lastIndexByte t 10)
theorem ID (t : ByteArray) (w : World) (ht : t.size < 4611686018427387904) : Calls Tryz.prog 34 #[.string t, .int .i64 t.size] w fun e w' =>
  e = .returned (.tuple #[.agg #[.int .i64 (BK t).1, .int .i64 (BK t).2.1, .int .i64 (BK t).2.2], .bool true]) ∧ Ad [] w w' := by
 have h1 := Tryz.strings_Count_one t 10
 have h2 := Tryz.strings_LastIndexByte t 10 ht
 go_enter Tryz.func34, Tryz.ntmps34
 go_wp2_with (first | (go_at_call 76; refine (h1 _).mono ?_; rintro e w' ⟨rfl, rfl⟩) | (go_at_call 77; refine (h2 _).mono ?_; rintro e w' ⟨rfl, rfl⟩))
 have hcb : Lib.countByte t.data.toList 10 ≤ t.size := by
  have := List.count_le_length (a := (10 : UInt8)) (l := t.data.toList)
  simpa [Lib.countByte] using this
 have hlb : -1 ≤ Lib.lastIndexByte t 10 ∧ Lib.lastIndexByte t 10 < t.size := by
  rcases Lib.lastIdx_spec t 10 t.size with h | ⟨i, hi, h, _⟩
  ·have : Lib.lastIndexByte t 10 = -1 := h.1
   omega
  ·have : Lib.lastIndexByte t 10 = i := h
   omega
 rw [w64 (n := 1 + (Lib.countByte t.data.toList 10 : Int)) (by omega) (by omega), w64 (n := (t.size : Int) - Lib.lastIndexByte t 10) (by omega) (by omega)]
 refine bodyPost_ret (v := .tuple #[.agg #[.int .i64 (BK t).1, .int .i64 (BK t).2.1, .int .i64 (BK t).2.2], .bool true]) ?_ rfl ⟨rfl, Ad.alloc _ _ _⟩
 have hn := Aj w (.cells #[.int .i64 t.size, .int .i64 (1 + Lib.countByte t.data.toList 10), .int .i64 (t.size - Lib.lastIndexByte t 10)] 57)
 have c0 := Ai (i := 0) (v := .int .i64 t.size) hn rfl
 have c1 := Ai (i := 1) (v := .int .i64 (1 + Lib.countByte t.data.toList 10)) hn rfl
 have c2 := Ai (i := 2) (v := .int .i64 (t.size - Lib.lastIndexByte t 10)) hn rfl
 simp [results, Tryz.f34, go_sem, c0, c1, c2, BK]
def FB (i : Nat) : UInt8 := [99, 118, 102, 101, 100, 97, 112, 123, 125].getD i 0
def FC (i : Nat) : Nat := [1, 1, 2, 1, 2, 1, 1, 0, 0].getD i 0
def HH (i : Nat) : Nat := [1099511627776, 1099511627776, 2, 1099511627776, 32, 1099511627776, 1099511627776, 0, 0].getD i 0
def BI : Nat → Value
 | 0 => .iface 274 (.agg #[.string ⟨#[36, 99]⟩, .int .i64 1, .int .i64 1, .int .i64 1099511627776])
 | 1 => .iface 274 (.agg #[.string ⟨#[36, 118]⟩, .int .i64 2, .int .i64 1, .int .i64 1099511627776])
 | 2 => .iface 275 (.agg #[.string ⟨#[36, 102]⟩, .int .i64 3, .int .i64 2, .int .i64 2])
 | 3 => .iface 275 (.agg #[.string ⟨#[36, 101]⟩, .int .i64 4, .int .i64 1, .int .i64 1099511627776])
 | 4 => .iface 274 (.agg #[.string ⟨#[36, 100]⟩, .int .i64 5, .int .i64 2, .int .i64 32])
 | 5 => .iface 275 (.agg #[.string ⟨#[36, 97]⟩, .int .i64 6, .int .i64 1, .int .i64 1099511627776])
 | 6 => .iface 277 (.agg #[.string ⟨#[36, 112]⟩, .int .i64 7, .int .i64 1, .int .i64 1099511627776])
 | 7 => .iface 209 (.agg #[.string ⟨#[36, 123]⟩, .int .i64 8])
 | 8 => .iface 209 (.agg #[.string ⟨#[36, 125]⟩, .int .i64 9])
 | _ => .nilIface
theorem Mq (w : World) : Calls Tryz.prog 149 #[] w fun e w' => e = .returned (.slice (some ⟨w.heap.size, 0, none⟩) 9 9) ∧ Ad [] w w' ∧
  w'.heap[w.heap.size]? = some (.cells #[BI 0, BI 1, BI 2, BI 3, BI 4, BI 5, BI 6, BI 7, BI 8] 143 (0, 0)) := by
 go_enter Tryz.func149, Tryz.ntmps149
 go_wp2
 go_ret
 exact ⟨rfl, Ad.alloc _ _ _, Aj _ _⟩
def BG (s : ByteArray) : Bool := match s.data.toList with | [] => false | c :: _ => decide (c.toNat ≠ 36)
theorem zq107 {P : Prop} (h : P := by
 have Hd := Kd hd
 clear hd h
 go_enter Tryz.func105, Tryz.ntmps105
 go_wp2
 go_ret
 rw [Hd.out]
 exact ⟨rfl, rfl⟩) : P := h
theorem Bc (s : ByteArray) (w : World) : Calls Tryz.prog 105 #[.string s] w fun e w' => e = .returned (.bool (BG s)) ∧ w' = w := by
 by_cases h : s.size = 0
 ·have he : s.toList = [] := (Dx _).2 h
  have hd : BG s = false := by unfold BG; rw [← ByteArray.toList_eq, he]
  exact zq107
 ·have he : s.toList.isEmpty = false := by rw [AM]; simp [h]
  have h0 : 0 < s.size := by omega
  have hd : BG s = ((s[0].toNat : Int) != 36) := by
   unfold BG
   have : s.data.toList = s[0] :: s.data.toList.tail := by
    have hl : 0 < s.data.toList.length := by simpa using h0
    cases hx : s.data.toList with
    | nil => rw [hx] at hl; simp at hl
    | cons c r =>
     have : s.data.toList[0]? = some c := by rw [hx]; rfl
     have h2 : s.data[0]? = some s[0] := Array.getElem?_eq_getElem (by simpa using h0)
     rw [Array.getElem?_toList, h2] at this
     cases this
     rfl
   rw [this]
   dsimp only
   by_cases hc : s[0].toNat = 36
   ·simp [hc]
   ·have h3 : ((s[0].toNat : Int) != 36) = true := by simp; omega
    rw [h3]; simp [hc]
  exact zq107
def DR (s : ByteArray) : Nat :=
 if s.toList = [36, 99] then 0 else if s.toList = [36, 118] then 1 else if s.toList = [36, 102] then 2 else if s.toList = [36, 101] then 3 else if s.toList = [36, 100] then 4 else if s.toList = [36, 97] then 5
 else if s.toList = [36, 112] then 6 else if s.toList = [36, 123] then 7 else if s.toList = [36, 125] then 8 else 9
theorem Lh (s : ByteArray) : DR s ≤ 9 := by unfold DR; (repeat' split) <;> omega
theorem Qr (s : ByteArray) (k : Nat) (hk : k < 9) : ([36, FB k] == s.toList) = decide (DR s = k) := by
 have : k = 0 ∨ k = 1 ∨ k = 2 ∨ k = 3 ∨ k = 4 ∨ k = 5 ∨ k = 6 ∨ k = 7 ∨ k = 8 := by omega
 rcases this with rfl | rfl | rfl | rfl | rfl | rfl | rfl | rfl | rfl
 all_goals
  simp only [show FB 0 = 99 from rfl, show FB 1 = 118 from rfl, show FB 2 = 102 from rfl, show FB 3 = 101 from rfl, show FB 4 = 100 from rfl, show FB 5 = 97 from rfl, show FB 6 = 112 from rfl, show FB 7 = 123 from rfl, show FB 8 = 125 from rfl]
  unfold DR
  by_cases h : s.toList = [36, 99] ∨ s.toList = [36, 118] ∨ s.toList = [36, 102] ∨ s.toList = [36, 101] ∨ s.toList = [36, 100] ∨ s.toList = [36, 97] ∨ s.toList = [36, 112] ∨ s.toList = [36, 123] ∨ s.toList = [36, 125]
  ·rcases h with h | h | h | h | h | h | h | h | h <;> (rw [h]; decide)
  ·simp only [not_or] at h
   obtain ⟨h0, h1, h2, h3, h4, h5, h6, h7, h8⟩ := h
   rw [if_neg h0, if_neg h1, if_neg h2, if_neg h3, if_neg h4, if_neg h5, if_neg h6, if_neg h7, if_neg h8]
   have hx : ∀ b : UInt8, s.toList ≠ [36, b] → ([36, b] == s.toList) = false := fun b hb => by simpa using fun e => hb e.symm
   first | rw [hx _ h0] | rw [hx _ h1] | rw [hx _ h2] | rw [hx _ h3] | rw [hx _ h4] | rw [hx _ h5] | rw [hx _ h6] | rw [hx _ h7] | rw [hx _ h8]
   rfl
theorem KL (s n : Value) (w : World) (hs : s.oneCell' = true) (hn : n.oneCell' = true) : Calls Tryz.prog 248 #[.agg #[s, n]] w fun e w' => e = .returned s ∧ Ad [] w w' := by
 go_enter Tryz.func248, Tryz.ntmps248
 go_wp2
 go_ret
 exact ⟨rfl, Ad.alloc _ _ _⟩
theorem OF (w : World) (a b c d : Value) : (method 471 274 (.agg #[a, b, c, d]) "lemma/stmt.key").run Tryz.prog w = .ok (248, .agg #[a, b]) w := by kernel_rfl
theorem ON (w : World) (a b c d : Value) : (method 471 275 (.agg #[a, b, c, d]) "lemma/stmt.key").run Tryz.prog w = .ok (248, .agg #[a, b]) w := by kernel_rfl
theorem MF (w : World) (a b c d : Value) : (method 471 277 (.agg #[a, b, c, d]) "lemma/stmt.key").run Tryz.prog w = .ok (248, .agg #[a, b]) w := by kernel_rfl
theorem LD (w : World) (a b : Value) : (method 471 209 (.agg #[a, b]) "lemma/stmt.key").run Tryz.prog w = .ok (248, .agg #[a, b]) w := by kernel_rfl
theorem BU (s : ByteArray) (w : World) : Calls Tryz.prog 106 #[.string s] w fun e w' => e = .returned (BI (DR s)) ∧ Ad [] w w' := by
 have m1 := OF
 have m2 := ON
 have m3 := MF
 have m4 := LD
 go_enter Tryz.func106, Tryz.ntmps106
 go_wp2_with (go_at_call 149; refine (Mq _).mono ?_; rintro e W ⟨rfl, hsm, hblk⟩)
 have Hb := Kd hblk
 have Hsm := Kd hsm
 clear hblk hsm
 go_loopw [4, 7] (fun _ u wr => Ad [] W wr ∧ ∃ k : Nat, k ≤ 9 ∧ u = .int .i64 k ∧ k ≤ DR s) (fun _ u _ => 9 - (intOf u).toNat)
 case atStart => exact ⟨Ad.refl _ _, 0, by omega, rfl, by omega⟩
 case round =>
  obtain ⟨hsw, k, hk, rfl, hall⟩ := hrel
  have Hsw := Kd hsw
  have hbr := hsw.get Hb.out (by simp)
  have Hbr := Kd hbr
  clear hsw hbr
  by_cases hlt : k < 9
  ·have hkey := Qr s k hlt
   have hc : wr.cell? ⟨w.heap.size, k, none⟩ = some (BI k) := by
    have : k = 0 ∨ k = 1 ∨ k = 2 ∨ k = 3 ∨ k = 4 ∨ k = 5 ∨ k = 6 ∨ k = 7 ∨ k = 8 := by omega
    rcases this with rfl | rfl | rfl | rfl | rfl | rfl | rfl | rfl | rfl <;> exact Ai Hbr.out rfl
   by_cases hyes : DR s = k
   ·rw [decide_eq_true hyes] at hkey
    have Hyes := Kd hyes
    clear hyes hall hk
    have : k = 0 ∨ k = 1 ∨ k = 2 ∨ k = 3 ∨ k = 4 ∨ k = 5 ∨ k = 6 ∨ k = 7 ∨ k = 8 := by omega
    rcases this with rfl | rfl | rfl | rfl | rfl | rfl | rfl | rfl | rfl
    all_goals
     simp only [FB, List.getD_cons_zero, List.getD_cons_succ] at hkey
     dsimp only [BI] at hc
     go_wp2_with (go_at_call 248; refine (KL _ _ _ rfl rfl).mono ?_; rintro e' W5 ⟨rfl, hs5⟩)
     go_ret
     rw [Hyes.out]
     exact ⟨rfl, (Hsm.out.trans Hsw.out).trans hs5⟩
   ·rw [decide_eq_false hyes] at hkey
    have hall' : k + 1 ≤ DR s := by omega
    have Hall := Kd hall'
    clear hyes hall hall' hk
    have : k = 0 ∨ k = 1 ∨ k = 2 ∨ k = 3 ∨ k = 4 ∨ k = 5 ∨ k = 6 ∨ k = 7 ∨ k = 8 := by omega
    rcases this with rfl | rfl | rfl | rfl | rfl | rfl | rfl | rfl | rfl
    all_goals
     simp only [FB, List.getD_cons_zero, List.getD_cons_succ] at hkey
     dsimp only [BI] at hc
     go_wp2_with (go_at_call 248; refine (KL _ _ _ rfl rfl).mono ?_; rintro e' W5 ⟨rfl, hs5⟩)
     refine ⟨⟨Hsw.out.trans hs5, _, ?_, rfl, Hall.out⟩, ?_⟩
     ·decide
     ·simp [intOf]
  ·have hk9 : DR s = 9 := by have := Lh s; omega
   have H9 := Kd hk9
   clear hk9 hall
   go_wp2
   go_ret
   rw [H9.out]
   exact ⟨rfl, Hsm.out.trans Hsw.out⟩
theorem Nj (w : World) (v : Value) : (Instr.typeAssert (.iface 274 v) 143 274 true).run Tryz.prog w = .ok (.tuple #[v, .bool true]) w := by kernel_rfl
theorem MM (w : World) (v : Value) : (Instr.typeAssert (.iface 275 v) 143 275 true).run Tryz.prog w = .ok (.tuple #[v, .bool true]) w := by kernel_rfl
theorem KH (w : World) (v : Value) : (Instr.typeAssert (.iface 277 v) 143 277 true).run Tryz.prog w = .ok (.tuple #[v, .bool true]) w := by kernel_rfl
theorem Dn (w : World) (v : Value) : (Instr.typeAssert (.iface 209 v) 143 209 true).run Tryz.prog w = .ok (.tuple #[v, .bool true]) w := by kernel_rfl
theorem Ci (w : World) (v : Value) : (Instr.typeAssert (.iface 274 v) 143 209 true).run Tryz.prog w = .ok (.tuple #[(.agg #[.string ⟨#[]⟩, .int .i64 0]), .bool false]) w := by kernel_rfl
theorem LY (w : World) (v : Value) : (Instr.typeAssert (.iface 275 v) 143 274 true).run Tryz.prog w = .ok (.tuple #[(.agg #[.string ⟨#[]⟩, .int .i64 0, .int .i64 0, .int .i64 0]), .bool false]) w := by kernel_rfl
theorem DW (w : World) (v : Value) : (Instr.typeAssert (.iface 275 v) 143 209 true).run Tryz.prog w = .ok (.tuple #[(.agg #[.string ⟨#[]⟩, .int .i64 0]), .bool false]) w := by kernel_rfl
theorem Ka (w : World) (v : Value) : (Instr.typeAssert (.iface 277 v) 143 274 true).run Tryz.prog w = .ok (.tuple #[(.agg #[.string ⟨#[]⟩, .int .i64 0, .int .i64 0, .int .i64 0]), .bool false]) w := by kernel_rfl
theorem JP (w : World) (v : Value) : (Instr.typeAssert (.iface 277 v) 143 275 true).run Tryz.prog w = .ok (.tuple #[(.agg #[.string ⟨#[]⟩, .int .i64 0, .int .i64 0, .int .i64 0]), .bool false]) w := by kernel_rfl
theorem HO (w : World) (v : Value) : (Instr.typeAssert (.iface 277 v) 143 209 true).run Tryz.prog w = .ok (.tuple #[(.agg #[.string ⟨#[]⟩, .int .i64 0]), .bool false]) w := by kernel_rfl
theorem I3 (w : World) (v : Value) : (Instr.typeAssert (.iface 209 v) 143 274 true).run Tryz.prog w = .ok (.tuple #[(.agg #[.string ⟨#[]⟩, .int .i64 0, .int .i64 0, .int .i64 0]), .bool false]) w := by kernel_rfl
theorem I5 (w : World) (v : Value) : (Instr.typeAssert (.iface 209 v) 143 275 true).run Tryz.prog w = .ok (.tuple #[(.agg #[.string ⟨#[]⟩, .int .i64 0, .int .i64 0, .int .i64 0]), .bool false]) w := by kernel_rfl
theorem G6 (w : World) (v : Value) : (Instr.typeAssert (.iface 209 v) 143 277 true).run Tryz.prog w = .ok (.tuple #[(.agg #[.string ⟨#[]⟩, .int .i64 0, .int .i64 0, .int .i64 0]), .bool false]) w := by kernel_rfl
theorem FP (w : World) (a : ByteArray) (b c d : Int) : Calls Tryz.prog 107 #[.iface 274 (.agg #[.string a, .int .i64 b, .int .i64 c, .int .i64 d])] w fun e w' => e = .returned (.tuple #[.int .i64 c, .int .i64 d, .bool false, .bool false]) ∧ Ad [] w w' := by
 have m_list := Nj
 go_enter Tryz.func107, Tryz.ntmps107
 go_wp2
 go_quiet (fail)
 go_wp2
 refine bodyPost_ret (v := .tuple #[.int .i64 c, .int .i64 d, .bool false, .bool false]) (by simp [results, Tryz.f107, go_sem]) rfl ⟨rfl, ?_⟩
 exact (Ad.alloc [] w _).trans (Ad.drewN _ _ _)
theorem FK (w : World) (a : ByteArray) (b c d : Int) : Calls Tryz.prog 107 #[.iface 275 (.agg #[.string a, .int .i64 b, .int .i64 c, .int .i64 d])] w fun e w' => e = .returned (.tuple #[.int .i64 c, .int .i64 d, .bool true, .bool false]) ∧ Ad [] w w' := by
 have m_list := LY
 have m_said := MM
 go_enter Tryz.func107, Tryz.ntmps107
 go_wp2
 go_quiet (fail)
 go_wp2
 refine bodyPost_ret (v := .tuple #[.int .i64 c, .int .i64 d, .bool true, .bool false]) (by simp [results, Tryz.f107, go_sem]) rfl ⟨rfl, ?_⟩
 exact (Ad.alloc [] w _).trans (Ad.drewN _ _ _)
theorem Ky (w : World) (a : ByteArray) (b c d : Int) : Calls Tryz.prog 107 #[.iface 277 (.agg #[.string a, .int .i64 b, .int .i64 c, .int .i64 d])] w fun e w' => e = .returned (.tuple #[.int .i64 c, .int .i64 d, .bool true, .bool true]) ∧ Ad [] w w' := by
 have m_list := Ka
 have m_said := JP
 have m_proved := KH
 go_enter Tryz.func107, Tryz.ntmps107
 go_wp2
 go_quiet (fail)
 go_wp2
 refine bodyPost_ret (v := .tuple #[.int .i64 c, .int .i64 d, .bool true, .bool true]) (by simp [results, Tryz.f107, go_sem]) rfl ⟨rfl, ?_⟩
 exact (Ad.alloc [] w _).trans (Ad.drewN _ _ _)
theorem FV (w : World) (a : ByteArray) (b : Int) : Calls Tryz.prog 107 #[.iface 209 (.agg #[.string a, .int .i64 b])] w fun e w' => e = .returned (.tuple #[.int .i64 0, .int .i64 0, .bool false, .bool false]) ∧ Ad [] w w' := by
 have m_list := I3
 have m_said := I5
 have m_proved := G6
 go_enter Tryz.func107, Tryz.ntmps107
 go_wp2
 refine bodyPost_ret (v := .tuple #[.int .i64 0, .int .i64 0, .bool false, .bool false]) (by simp [results, Tryz.f107, go_sem]) rfl ⟨rfl, ?_⟩
 exact Ad.refl _ _
def BQ (i : Nat) : Bool := [false, false, true, true, false, true, true, false, false].getD i false
theorem Bb (w : World) (i : Nat) (hi : i < 9) : Calls Tryz.prog 107 #[BI i] w fun e w' => e = .returned (.tuple #[.int .i64 (FC i), .int .i64 (HH i), .bool (BQ i), .bool (i == 6)]) ∧ Ad [] w w' := by
 have : i = 0 ∨ i = 1 ∨ i = 2 ∨ i = 3 ∨ i = 4 ∨ i = 5 ∨ i = 6 ∨ i = 7 ∨ i = 8 := by omega
 rcases this with rfl | rfl | rfl | rfl | rfl | rfl | rfl | rfl | rfl
 ·exact FP w _ _ _ _
 ·exact FP w _ _ _ _
 ·exact FK w _ _ _ _
 ·exact FK w _ _ _ _
 ·exact FP w _ _ _ _
 ·exact FK w _ _ _ _
 ·exact Ky w _ _ _ _
 ·exact FV w _ _
 ·exact FV w _ _
theorem Gy (w : World) (a b c d : Value) : (method 471 274 (.agg #[a, b, c, d]) "lemma/stmt.kind").run Tryz.prog w = .ok (249, .agg #[a, b]) w := by kernel_rfl
theorem GG (w : World) (a b c d : Value) : (method 471 275 (.agg #[a, b, c, d]) "lemma/stmt.kind").run Tryz.prog w = .ok (249, .agg #[a, b]) w := by kernel_rfl
theorem LB (w : World) (a b c d : Value) : (method 471 277 (.agg #[a, b, c, d]) "lemma/stmt.kind").run Tryz.prog w = .ok (249, .agg #[a, b]) w := by kernel_rfl
theorem Gt (w : World) (a b : Value) : (method 471 209 (.agg #[a, b]) "lemma/stmt.kind").run Tryz.prog w = .ok (249, .agg #[a, b]) w := by kernel_rfl
theorem Bf (s n : Value) (w : World) (hs : s.oneCell' = true) (hn : n.oneCell' = true) : Calls Tryz.prog 249 #[.agg #[s, n]] w fun e w' => e = .returned n ∧ Ad [] w w' := by
 go_enter Tryz.func249, Tryz.ntmps249
 go_wp2
 go_ret
 exact ⟨rfl, Ad.alloc _ _ _⟩
structure St where
 kind : Nat
 label : Tk
 key : Tk
 proving : Bool
 words : List Tk
 proof : List Tk
 end_ : Tk
def St.cells (s : St) (wv pv : Value) : List Value := .int .i64 s.kind :: (s.label.cells ++ s.key.cells ++ [.bool s.proving, wv, pv] ++ s.end_.cells)
def St.Rows (w : World) (s : St) (wv pv : Value) : Prop := Row w 59 4 wv s.words.length (AC s.words) ∧ Row w 59 4 pv s.proof.length (AC s.proof)
structure Rd where
 out : List St
 label : Option Tk
 now : Option St
 what : Nat
 proves : Bool
def B5 (t : Tk) : Bool := BG t.text
def Rd.between (r : Rd) (t : Tk) : Nat × Rd :=
 if B5 t then (if r.label.isSome then (60, r) else (0, { r with label := some t }))
 else
  let f := DR t.text
  if f = 9 then (60, r)
  else if BQ f ≠ r.label.isSome then (61, r)
  else
   let s : St := ⟨f + 1, r.label.getD Tk.none, t, false, [], [], Tk.none⟩
   if f = 7 ∨ f = 8 then (0, { r with label := none, out := r.out ++ [{ s with end_ := t }] })
   else (0, { r with label := none, now := some s, what := f, proves := false })
def Rd.within (r : Rd) (s : St) (t : Tk) : Nat × Rd :=
 if B5 t then
  if r.proves then (0, { r with now := some { s with proof := s.proof ++ [t] } })
  else if s.words.length = HH r.what then (62, r) else (0, { r with now := some { s with words := s.words ++ [t] } })
 else if t.text.toList = [36, 61] ∧ r.what = 6 ∧ r.proves = false then
  if s.words.length < FC r.what then (62, r) else (0, { r with proves := true, now := some { s with proving := true } })
 else if t.text.toList = [36, 46] then
  if s.words.length < FC r.what ∨ (r.what = 6 ∧ r.proves = false) then (62, r) else (0, { r with now := none, out := r.out ++ [{ s with end_ := t }] })
 else (60, r)
def Rd.step (r : Rd) (t : Tk) : Nat × Rd := match r.now with | none => r.between t | some s => r.within s t
def Rd.all (r : Rd) : List St := match r.now with | none => r.out | some s => r.out ++ [s]
def DY : List Tk → Rd → Rd × Option (Tk × Nat)
 | [], r => (r, none)
 | t :: l, r => if (r.step t).1 = 0 then DY l (r.step t).2 else ((r.step t).2, some (t, (r.step t).1))
theorem AZ (w : World) (o : Obj) (b : Nat) : (w.alloc o).heap[b]? = if b = w.heap.size then some o else w.heap[b]? := by
 show (w.heap.push o)[b]? = _
 rw [Array.getElem?_push]
theorem K3 (w : World) (b : Nat) : w.drew.heap[b]? = w.heap[b]? := rfl
theorem Jq (w : World) (n b : Nat) : (w.drewN n).heap[b]? = w.heap[b]? := rfl
theorem AA (w : World) (o : Obj) : (w.alloc o).heap.size = w.heap.size + 1 := World.size_alloc w o
theorem Ba (w : World) (a : Addr) (v : Value) : (w.setCell a v).heap.size = w.heap.size := by simp [World.setCell]
theorem Dw (w : World) : w.drew.heap.size = w.heap.size := rfl
theorem Ad.alloc' {S : List Nat} {w w' : World} (h : Ad S w w') (o : Obj) : Ad S w (w'.alloc o) := h.trans (Ad.alloc _ _ _)
theorem Ad.drew' {S : List Nat} {w w' : World} (h : Ad S w w') : Ad S w w'.drew := h.trans (Ad.drew _ _)
theorem Ad.drewN' {S : List Nat} {w w' : World} (h : Ad S w w') (n : Nat) : Ad S w (w'.drewN n) := h.trans (Ad.drewN _ _ _)
theorem Ad.setNew {S : List Nat} {w w' : World} (h : Ad S w w') (a : Addr) (v : Value) (ha : w.heap.size ≤ a.block) : Ad S w (w'.setCell a v) :=
 (h.then (Ad.setCell w' a v (S := [a.block]) (by simp)) (fun x hx => by simp at hx; subst hx; exact .inr ha))
theorem Ad.A {S : List Nat} {w w1 : World} (h : Ad S w w1 := by repeat (first | (with_reducible refine Ad.alloc' ?_ _) | (with_reducible refine Ad.drew' ?_) | (with_reducible refine Ad.drewN' ?_ _) | (with_reducible refine Ad.set ?_ _ _ (by simp; done)) | (with_reducible refine Ad.setNew ?_ _ _ (by simp <;> omega)) | (with_reducible exact Ad.refl _ _))) : Ad S w w1 := h
theorem Ad.setRow (w : World) (g : Nat) (cs : Array Value) {S : List Nat} (h : g ∈ S) : Ad S w (w.setRow g cs) :=
 ⟨rfl, rfl, rfl, by simp [World.setRow], fun b _ hn => by
  have : b ≠ g := fun e => hn (e ▸ h)
  simp [World.setRow, Array.getElem?_modify, Ne.symm this]⟩
theorem AU {P : Program} {ops : Array Oper} {rest : List Oper} {o : Oper} {a : Act} {w : World} {Q : Exit → Act → World → Prop} (hgd : o.guard = none) (ty : TypeId) (x y : Operand) (ho : o.op = .store ty x y)
  (g : Nat) (cells : Array Value) (hx : a.eval x = .pointer (some ⟨g, 0, none⟩)) (hy : a.eval y = .agg cells)
  (t : TypeId) (old : Array Value) (hg : w.heap[g]? = some (.cells old t (0, 0))) (hi : (P.info? ty).map (·.size) = some cells.size)
  (hold : old.size = cells.size) (h1 : cells.all (·.oneCell') = true)
  (h : ∀ w', w'.heap[g]? = some (.cells cells t (0, 0)) → Ad [g] w w' → wpList P ops Q rest (a.put o.dst undef) w') : wpList P ops Q (o :: rest) a w :=
 wpList_store_row hgd ty x y ho g cells hx hy t old hg hi hold h1 (h _ (setRow_heap w g old cells t (0, 0) hg) (Ad.setRow _ _ _ (by simp)))
def EB {α β : Type} [DecidableEq α] (k : α) : List (α × β) → Nat → Option (Nat × β)
 | [], _ => none
 | (k', v) :: r, i => if k = k' then some (i, v) else EB k r (i + 1)
theorem GK {α β : Type} [DecidableEq α] (k : α) : ∀ (l : List (α × β)) (i : Nat), (AJ k l = none ∧ EB k l i = none ∧ ∀ v, Bd k v l = l ++ [(k, v)]) ∨
  ∃ j u, AJ k l = some u ∧ EB k l i = some (i + j, u) ∧ l[j]? = some (k, u) ∧ ∀ v, Bd k v l = l.set j (k, v)
 | [], i => .inl ⟨rfl, rfl, fun _ => rfl⟩
 | (k', u) :: r, i => by
  by_cases h : k = k'
  ·subst h
   exact .inr ⟨0, u, by simp [AJ], by simp [EB], rfl, fun v => by simp [Bd]⟩
  ·rcases GK k r (i + 1) with ⟨h1, h2, h3⟩ | ⟨j, u', h1, h2, h3, h4⟩
   ·exact .inl ⟨by simp [AJ, h, h1], by simp [EB, h, h2], fun v => by simp [Bd, h, h3]⟩
   ·exact .inr ⟨j + 1, u', by simp [AJ, h, h1], by simp [EB, h, h2]; omega, by simpa using h3, fun v => by simp [Bd, h, h4]⟩
structure Ju {α : Type} [DecidableEq α] (P : Program) (kt : TypeId) (enc : α → Value) : Prop where
 check : ∀ e k (w : World), (Instr.checkKey e 10000 kt (enc k)).run P w = .ok () w
 find : ∀ (k : α) (es : List MapEntry) (l : List (α × Value)) (w : World), es.map (fun e => (e.key, e.val)) = l.map (fun p => (enc p.1, p.2)) → (Instr.findKey kt (enc k) es).run P w = .ok (EB k l 0) w
 stays : ∀ k (w : World), (Instr.keyThatStays (enc k) (enc k)).run P w = .ok (enc k) w
def Cn {α : Type} (enc : α → Value) (w : World) (b : Nat) (l : List (α × Value)) : Prop :=
 ∃ es clock, w.heap[b]? = some (.map es clock) ∧ es.toList.map (fun e => (e.key, e.val)) = l.map (fun p => (enc p.1, p.2)) ∧ (∀ x ∈ es.toList, x.born < clock) ∧ (es.toList.map (·.born)).Nodup
section
variable {α : Type} [DecidableEq α] {enc : α → Value} {P : Program} {w : World} {b : Nat} {l : List (α × Value)} {t kt et : TypeId}
omit [DecidableEq α] in
theorem Cn.lt (h : Cn enc w b l) : b < w.heap.size := by obtain ⟨_, _, h, _⟩ := h; exact Af h
omit [DecidableEq α] in
theorem Cn.same {S : List Nat} {w' : World} (h : Cn enc w b l) (hs : Ad S w w') (hn : b ∉ S) : Cn enc w' b l := by
 obtain ⟨es, clock, h, e⟩ := h; exact ⟨es, clock, hs.get h hn, e⟩
omit [DecidableEq α] in
theorem Cn.new (enc : α → Value) (w : World) (c : Nat) : Cn enc (w.alloc (.map #[] c)) w.heap.size [] := ⟨_, _, Aj _ _, rfl, by simp, by simp⟩
omit [DecidableEq α] in
theorem Cn.len (h : Cn enc w b l) : ∃ es clock, w.heap[b]? = some (.map es clock) ∧ es.size = l.length := by
 obtain ⟨es, clock, h, e, _⟩ := h
 exact ⟨es, clock, h, by have := congrArg List.length e; simpa using this⟩
theorem Cn.run_lookup (L : Ju P kt enc) (h : Cn enc w b l) (ht : P.underlying t = some (.map kt et)) {z : Value} (hz : (zeroValue et).run P w = .ok z w) (k : α) (c : Bool) :
  (Instr.lookup t (.map (some b)) (enc k) c).run P w = .ok (if c then .tuple #[(AJ k l).getD z, .bool (AJ k l).isSome] else (AJ k l).getD z) w := by
 obtain ⟨es, clock, hb, he, hbo, hnd⟩ := h
 have hg := MapKept.run_getObj_map (P := P) hb
 have hc := L.check es.isEmpty k w
 have hf := L.find k es.toList l w he
 rcases GK k l 0 with ⟨h1, h2, _⟩ | ⟨j, u, h1, h2, _⟩
 ·rw [h2] at hf
  simp [Instr.lookup, run_underlying ht, hg, hc, hf, h1, hz]
 ·rw [h2] at hf
  simp [Instr.lookup, run_underlying ht, hg, hc, hf, h1]
theorem Cn.run_put (L : Ju P kt enc) (h : Cn enc w b l) (ht : P.underlying t = some (.map kt et)) (k : α) (v : Value) :
  ∃ w', (Instr.mapUpdate t (.map (some b)) (enc k) v).run P w = .ok () w' ∧ Cn enc w' b (Bd k v l) ∧ Ad [b] w w' := by
 obtain ⟨es, clock, hb, he, hbo, hnd⟩ := h
 have hg := MapKept.run_getObj_map (P := P) hb
 have hc := L.check false k w
 have hf := L.find k es.toList l w he
 have hset : ∀ o, (setObj b o).run P w = .ok () { w with heap := w.heap.setIfInBounds b o } := fun o => MapKept.run_setObj_map o hb
 have hsame : ∀ o, Ad [b] w { w with heap := w.heap.setIfInBounds b o } := fun o => ⟨rfl, rfl, rfl, by simp, fun i _ hi => by
  have : i ≠ b := by simpa using hi
  simp [Array.getElem?_setIfInBounds, Ne.symm this]⟩
 have hnew : ∀ o, ({ w with heap := w.heap.setIfInBounds b o } : World).heap[b]? = some o := fun o => by
  exact zq110
 rcases GK k l 0 with ⟨h1, h2, h3⟩ | ⟨j, u, h1, h2, h3, h4⟩
 ·rw [h2] at hf
  refine ⟨_, by simp [Instr.mapUpdate, run_underlying ht, hg, hc, hf, hset]; rfl, ⟨_, _, hnew _, ?_, ?_, ?_⟩, hsame _⟩
  ·simp [he, h3 v]
  ·intro x hx
   simp only [Array.toList_push, List.mem_append, List.mem_singleton] at hx
   rcases hx with hx | rfl
   ·have := hbo x hx; omega
   ·simp
  ·simp only [Array.toList_push, List.map_append, List.map_cons, List.map_nil]
   refine List.nodup_append.2 ⟨hnd, by simp, ?_⟩
   intro a ha b hb
   simp only [List.mem_singleton] at hb
   subst hb
   obtain ⟨x, hx, rfl⟩ := List.mem_map.1 ha
   exact Nat.ne_of_lt (hbo x hx)
 ·rw [h2, Nat.zero_add] at hf
  obtain ⟨e, he1, he2⟩ : ∃ e, es[j]? = some e ∧ e.key = enc k := by
   have := congrArg (fun q => q[j]?) he
   simp only [List.getElem?_map, h3, Option.map_some, Option.map_eq_some_iff, Prod.mk.injEq] at this
   obtain ⟨e, h5, h6, _⟩ := this
   exact ⟨e, by simpa using h5, h6⟩
  have hst := L.stays k w
  refine ⟨_, by simp [Instr.mapUpdate, run_underlying ht, hg, hc, hf, hset, he1, he2, hst]; rfl, ⟨_, _, hnew _, ?_, ?_⟩, hsame _⟩
  rotate_left
  ·have hbm : (es.modify j fun e => { e with key := enc k, val := v }).toList.map (·.born) = es.toList.map (·.born) := by
    apply List.ext_getElem?
    intro i
    simp only [List.getElem?_map, Array.getElem?_toList, Array.getElem?_modify]
    by_cases hij : j = i
    ·subst hij; simp [he1]
    ·simp [hij]
   refine ⟨fun x hx => ?_, by rw [hbm]; exact hnd⟩
   have hx' : x.born ∈ (es.modify j fun e => { e with key := enc k, val := v }).toList.map (·.born) := List.mem_map.2 ⟨x, hx, rfl⟩
   rw [hbm] at hx'
   obtain ⟨y, hy, hxy⟩ := List.mem_map.1 hx'
   rw [← hxy]
   exact hbo y hy
  rw [h4 v]
  apply List.ext_getElem?
  intro i
  have hi := congrArg (fun q => q[i]?) he
  simp only [List.getElem?_map] at hi
  simp only [List.getElem?_map, Array.getElem?_toList, Array.getElem?_modify, List.getElem?_set]
  by_cases hij : j = i
  ·subst hij
   have hl : j < l.length := (List.getElem?_eq_some_iff.1 h3).1
   simp [he1, hl]
  ·simpa [hij] using hi
end
section
variable {α : Type} [DecidableEq α] {enc : α → Value} {P : Program} {ops : Array Oper} {rest : List Oper} {o : Oper} {a : Act} {Q : Exit → Act → World → Prop} {w : World} {b : Nat} {l : List (α × Value)} {t kt et : TypeId}
theorem C7 (L : Ju P kt enc) (h : Cn enc w b l) (ht : P.underlying t = some (.map kt et))
  (hg : o.guard = none) (m x v : Operand) (hop : o.op = .mapUpdate t m x v) (k : α) (u : Value) (hm : a.eval m = .map (some b)) (hx : a.eval x = enc k) (hv : a.eval v = u)
  (hK : ∀ w', Cn enc w' b (Bd k u l) → Ad [b] w w' → wpList P ops Q rest (a.put o.dst undef) w') : wpList P ops Q (o :: rest) a w := by
 refine wpList_plain hg fun K' hK' => ?_
 obtain ⟨w', hrun, r1, r2⟩ := h.run_put L ht k u
 exact zq119
end
abbrev Pr := Int × Int
def EN (n : Int) : Value := .int .i64 n
def prV (p : Pr) : Value := .agg #[.int .i64 p.1, .int .i64 p.2]
theorem CX : Ju Tryz.prog 3 EN := {
 check e k w := MapKept.run_checkKey Tryz.underlying3 (by simp [EN, MapKept.IsKey]) e 9999
 stays k w := MapKept.run_keyThatStays (d := .int .i64) (by simp [EN, MapKept.IsKey])
 find k es l w h := by
  refine MapKept.run_findKey Tryz.underlying3 ?_
  have : ∀ (es : List MapEntry) (l : List (Int × Value)) (i : Nat), es.map (fun e => (e.key, e.val)) = l.map (fun p => (EN p.1, p.2)) → Instr.findNow (.int .i64) (EN k) es i = some (EB k l i) := by
   intro es
   induction es with
   | nil => intro l i h; cases l with
    | nil => rfl
    | cons p l => simp at h
   | cons e es ih =>
    intro l i h
    cases l with
    | nil => simp at h
    | cons p l =>
     simp only [List.map_cons, List.cons.injEq, Prod.mk.injEq] at h
     obtain ⟨⟨h1, h2⟩, h3⟩ := h
     have h1' : e.key = .int .i64 p.1 := h1
     by_cases hk : k = p.1
     ·simp [Instr.findNow, h1', EN, Instr.sameNow, EB, hk, h2]
     ·have hb : (k == p.1) = false := by simpa using hk
      have := ih l (i + 1) h3
      simp only [Instr.findNow, h1', EN, Instr.sameNow, if_true, hb, EB, if_neg hk]
      exact this
  exact this es l 0 h }
theorem Se (p q : Pr) (w : World) : (Op.equal 47 (prV p) (prV q)).run Tryz.prog w = .ok (decide (p = q)) w := by
 have u3 := Tryz.underlying3
 have a3 := Tryz.isAgg3
 have z3 := Tryz.sizeOf3
 have hS : Tryz.prog.underlying 47 = some (.struct (Tryz.prog.fieldsOf 47)) := by kernel_rfl
 have hp : Tryz.prog.stoodInHeld 47 = false := by kernel_rfl
 unfold Op.equal Op.maxDepth prV
 rw [show (10000 : Nat) = 9999 + 1 from rfl, run_equalIn_struct w 9999 _ _ _ hS hp]
 simp only [Program.fieldsOf, Tryz.underlying47]
 go_simp
 obtain ⟨a, b⟩ := p
 obtain ⟨c, d⟩ := q
 by_cases h1 : a = c <;> by_cases h2 : b = d <;> simp [h1, h2]
theorem Mc : Ju Tryz.prog 47 prV := {
 check e k w := by kernel_rfl
 stays k w := by
  have : Instr.sameBits 10000 (prV k) (prV k) = true := by
   show Instr.sameBits (9998 + 1 + 1) (.agg #[.int .i64 k.1, .int .i64 k.2]) (.agg #[.int .i64 k.1, .int .i64 k.2]) = true
   simp [Instr.sameBits]
  simp [Instr.keyThatStays, this]
 find k es l w h := by
  have key : ∀ (es : List MapEntry) (l : List (Pr × Value)) (i : Nat), es.map (fun e => (e.key, e.val)) = l.map (fun p => (prV p.1, p.2)) → (Instr.findAsking 47 (prV k) es i).run Tryz.prog w = .ok (EB k l i) w := by
   intro es
   induction es with
   | nil => intro l i h; cases l with
    | nil => rfl
    | cons p l => simp at h
   | cons e es ih =>
    intro l i h
    cases l with
    | nil => simp at h
    | cons p l =>
     simp only [List.map_cons, List.cons.injEq, Prod.mk.injEq] at h
     obtain ⟨⟨h1, h2⟩, h3⟩ := h
     simp only [Instr.findAsking, Sem.run_bind, h1, Se, Result.andThen_ok]
     by_cases hk : k = p.1
     ·simp [hk, EB, h2]
     ·simp only [hk, decide_false, Bool.false_eq_true, if_false, EB]
      exact ih l (i + 1) h3
  cases es with
  | nil =>
   cases l with
   | nil => simp [Instr.findKey, run_underlying Tryz.underlying47, Instr.findNow, EB]
   | cons p l => simp at h
  | cons e es =>
   have h1 : ∃ q, e.key = prV q := by
    cases l with
    | nil => simp at h
    | cons p l => simp only [List.map_cons, List.cons.injEq, Prod.mk.injEq] at h; exact ⟨_, h.1.1⟩
   obtain ⟨q, hq⟩ := h1
   have hn : ∀ d, Instr.findNow (.struct d) (prV k) (e :: es) 0 = none := fun d => by simp [Instr.findNow, hq, prV, Instr.sameNow]
   simp only [Instr.findKey, Sem.run_bind, run_underlying Tryz.underlying47, Result.andThen_ok, hn]
   exact key _ _ _ h }
end Go.Proofs.YtbfbgfpghkijdaaGreatDoor
