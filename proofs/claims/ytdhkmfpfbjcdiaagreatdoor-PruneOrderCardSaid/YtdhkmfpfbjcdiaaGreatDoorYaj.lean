/- lemmalaw texts, part 10. -/
import Derived.Test.YtdhkmfpfbjcdiaaGreatDoorYah
import Derived.Test.YtdhkmfpfbjcdiaaGreatDoorYai
import Derived.BigQuiet
import Derived.Laws.StructEq
set_option maxRecDepth 100000
set_option linter.unusedVariables false
set_option linter.unusedSimpArgs false
set_option maxHeartbeats 32000000
namespace Go.Proofs.YtdhkmfpfbjcdiaaGreatDoor
open Go.RowKit
theorem w64 {n : Int} (h1 : -9223372036854775808 ≤ n) (h2 : n ≤ 9223372036854775807) : wrap64 n = n := by unfold wrap64; omega
def endOf (t : ByteArray) : Int × Int × Int := (t.size, 1 + Lib.countByte t.data.toList 10, t.size - Lib.lastIndexByte t 10)
theorem Place_calls (t : ByteArray) (w : World) (ht : t.size < 4611686018427387904) : Calls Tryz.prog 31 #[.string t, .int .i64 t.size] w fun e w' =>
  e = .returned (.tuple #[.agg #[.int .i64 (endOf t).1, .int .i64 (endOf t).2.1, .int .i64 (endOf t).2.2], .bool true]) ∧ Same [] w w' := by
 have h1 := Tryz.strings_Count_one t 10
 have h2 := Tryz.strings_LastIndexByte t 10 ht
 go_enter Tryz.func31, Tryz.ntmps31
 go_wp2_with (first | (go_at_call 79; refine (h1 _).mono ?_; rintro e w' ⟨rfl, rfl⟩) | (go_at_call 80; refine (h2 _).mono ?_; rintro e w' ⟨rfl, rfl⟩))
 have hcb : Lib.countByte t.data.toList 10 ≤ t.size := by
  have := List.count_le_length (a := (10 : UInt8)) (l := t.data.toList)
  simpa [Lib.countByte] using this
 have hlb : -1 ≤ Lib.lastIndexByte t 10 ∧ Lib.lastIndexByte t 10 < t.size := by
  rcases Lib.lastIdx_spec t 10 t.size with h | ⟨i, hi, h, _⟩
  ·have : Lib.lastIndexByte t 10 = -1 := h.1
   omega
  ·have : Lib.lastIndexByte t 10 = i := h
   omega
 rw [w64 (n := 1 + (Lib.countByte t.data.toList 10 : Int)) (by omega) (by omega), w64 (n := (t.size : Int) - Lib.lastIndexByte t 10) (by omega) (by omega)]
 refine bodyPost_ret (v := .tuple #[.agg #[.int .i64 (endOf t).1, .int .i64 (endOf t).2.1, .int .i64 (endOf t).2.2], .bool true]) ?_ rfl ⟨rfl, Same.alloc _ _ _⟩
 have hn := blk_new w (.cells #[.int .i64 t.size, .int .i64 (1 + Lib.countByte t.data.toList 10), .int .i64 (t.size - Lib.lastIndexByte t 10)] 52)
 have c0 := blk_c (i := 0) (v := .int .i64 t.size) hn rfl
 have c1 := blk_c (i := 1) (v := .int .i64 (1 + Lib.countByte t.data.toList 10)) hn rfl
 have c2 := blk_c (i := 2) (v := .int .i64 (t.size - Lib.lastIndexByte t 10)) hn rfl
 simp [results, Tryz.f31, go_sem, c0, c1, c2, endOf]
def formB (i : Nat) : UInt8 := [99, 118, 102, 101, 100, 97, 112, 123, 125].getD i 0
def formL (i : Nat) : Nat := [1, 1, 2, 1, 2, 1, 1, 0, 0].getD i 0
def formM (i : Nat) : Nat := [1099511627776, 1099511627776, 2, 1099511627776, 32, 1099511627776, 1099511627776, 0, 0].getD i 0
def formV : Nat → Value
 | 0 => .iface 235 (.agg #[.string ⟨#[36, 99]⟩, .int .i64 1, .int .i64 1, .int .i64 1099511627776])
 | 1 => .iface 235 (.agg #[.string ⟨#[36, 118]⟩, .int .i64 2, .int .i64 1, .int .i64 1099511627776])
 | 2 => .iface 236 (.agg #[.string ⟨#[36, 102]⟩, .int .i64 3, .int .i64 2, .int .i64 2])
 | 3 => .iface 236 (.agg #[.string ⟨#[36, 101]⟩, .int .i64 4, .int .i64 1, .int .i64 1099511627776])
 | 4 => .iface 235 (.agg #[.string ⟨#[36, 100]⟩, .int .i64 5, .int .i64 2, .int .i64 32])
 | 5 => .iface 236 (.agg #[.string ⟨#[36, 97]⟩, .int .i64 6, .int .i64 1, .int .i64 1099511627776])
 | 6 => .iface 238 (.agg #[.string ⟨#[36, 112]⟩, .int .i64 7, .int .i64 1, .int .i64 1099511627776])
 | 7 => .iface 194 (.agg #[.string ⟨#[36, 123]⟩, .int .i64 8])
 | 8 => .iface 194 (.agg #[.string ⟨#[36, 125]⟩, .int .i64 9])
 | _ => .nilIface
theorem forms_calls (w : World) : Calls Tryz.prog 156 #[] w fun e w' => e = .returned (.slice (some ⟨w.heap.size, 0, none⟩) 9 9) ∧ Same [] w w' ∧
  w'.heap[w.heap.size]? = some (.cells #[formV 0, formV 1, formV 2, formV 3, formV 4, formV 5, formV 6, formV 7, formV 8] 138 (0, 0)) := by
 go_enter Tryz.func156, Tryz.ntmps156
 go_wp2
 go_ret
 exact ⟨rfl, Same.alloc _ _ _, blk_new _ _⟩
def plainB (s : ByteArray) : Bool := match s.data.toList with | [] => false | c :: _ => decide (c.toNat ≠ 36)
theorem plain_calls (s : ByteArray) (w : World) : Calls Tryz.prog 112 #[.string s] w fun e w' => e = .returned (.bool (plainB s)) ∧ w' = w := by
 by_cases h : s.size = 0
 ·have he : s.toList = [] := (tl_nil_iff _).2 h
  have hd : plainB s = false := by unfold plainB; rw [← ByteArray.toList_eq, he]
  have Hd := Kd hd
  clear hd h
  go_enter Tryz.func112, Tryz.ntmps112
  go_wp2
  go_ret
  rw [Hd.out]
  exact ⟨rfl, rfl⟩
 ·have he : s.toList.isEmpty = false := by rw [tl_empty]; simp [h]
  have h0 : 0 < s.size := by omega
  have hd : plainB s = ((s[0].toNat : Int) != 36) := by
   unfold plainB
   have : s.data.toList = s[0] :: s.data.toList.tail := by
    have hl : 0 < s.data.toList.length := by simpa using h0
    cases hx : s.data.toList with
    | nil => rw [hx] at hl; simp at hl
    | cons c r =>
     have : s.data.toList[0]? = some c := by rw [hx]; rfl
     have h2 : s.data[0]? = some s[0] := Array.getElem?_eq_getElem (by simpa using h0)
     rw [Array.getElem?_toList, h2] at this
     cases this
     rfl
   rw [this]
   dsimp only
   by_cases hc : s[0].toNat = 36
   ·simp [hc]
   ·have h3 : ((s[0].toNat : Int) != 36) = true := by simp; omega
    rw [h3]; simp [hc]
  have Hd := Kd hd
  clear hd h
  go_enter Tryz.func112, Tryz.ntmps112
  go_wp2
  go_ret
  rw [Hd.out]
  exact ⟨rfl, rfl⟩
def keyN (s : ByteArray) : Nat :=
 if s.toList = [36, 99] then 0 else if s.toList = [36, 118] then 1 else if s.toList = [36, 102] then 2 else if s.toList = [36, 101] then 3 else if s.toList = [36, 100] then 4 else if s.toList = [36, 97] then 5
 else if s.toList = [36, 112] then 6 else if s.toList = [36, 123] then 7 else if s.toList = [36, 125] then 8 else 9
theorem keyN_le (s : ByteArray) : keyN s ≤ 9 := by unfold keyN; (repeat' split) <;> omega
theorem keyN_iff (s : ByteArray) (k : Nat) (hk : k < 9) : ([36, formB k] == s.toList) = decide (keyN s = k) := by
 have : k = 0 ∨ k = 1 ∨ k = 2 ∨ k = 3 ∨ k = 4 ∨ k = 5 ∨ k = 6 ∨ k = 7 ∨ k = 8 := by omega
 rcases this with rfl | rfl | rfl | rfl | rfl | rfl | rfl | rfl | rfl
 all_goals
  simp only [show formB 0 = 99 from rfl, show formB 1 = 118 from rfl, show formB 2 = 102 from rfl, show formB 3 = 101 from rfl, show formB 4 = 100 from rfl, show formB 5 = 97 from rfl, show formB 6 = 112 from rfl, show formB 7 = 123 from rfl, show formB 8 = 125 from rfl]
  unfold keyN
  by_cases h : s.toList = [36, 99] ∨ s.toList = [36, 118] ∨ s.toList = [36, 102] ∨ s.toList = [36, 101] ∨ s.toList = [36, 100] ∨ s.toList = [36, 97] ∨ s.toList = [36, 112] ∨ s.toList = [36, 123] ∨ s.toList = [36, 125]
  ·rcases h with h | h | h | h | h | h | h | h | h <;> (rw [h]; decide)
  ·simp only [not_or] at h
   obtain ⟨h0, h1, h2, h3, h4, h5, h6, h7, h8⟩ := h
   rw [if_neg h0, if_neg h1, if_neg h2, if_neg h3, if_neg h4, if_neg h5, if_neg h6, if_neg h7, if_neg h8]
   have hx : ∀ b : UInt8, s.toList ≠ [36, b] → ([36, b] == s.toList) = false := fun b hb => by simpa using fun e => hb e.symm
   first | rw [hx _ h0] | rw [hx _ h1] | rw [hx _ h2] | rw [hx _ h3] | rw [hx _ h4] | rw [hx _ h5] | rw [hx _ h6] | rw [hx _ h7] | rw [hx _ h8]
   rfl
theorem key_calls (s n : Value) (w : World) (hs : s.oneCell' = true) (hn : n.oneCell' = true) : Calls Tryz.prog 235 #[.agg #[s, n]] w fun e w' => e = .returned s ∧ Same [] w w' := by
 go_enter Tryz.func235, Tryz.ntmps235
 go_wp2
 go_ret
 exact ⟨rfl, Same.alloc _ _ _⟩
theorem meth_list (w : World) (a b c d : Value) : (method 417 235 (.agg #[a, b, c, d]) "lemma/stmt.key").run Tryz.prog w = .ok (235, .agg #[a, b]) w := by kernel_rfl
theorem meth_said (w : World) (a b c d : Value) : (method 417 236 (.agg #[a, b, c, d]) "lemma/stmt.key").run Tryz.prog w = .ok (235, .agg #[a, b]) w := by kernel_rfl
theorem meth_proved (w : World) (a b c d : Value) : (method 417 238 (.agg #[a, b, c, d]) "lemma/stmt.key").run Tryz.prog w = .ok (235, .agg #[a, b]) w := by kernel_rfl
theorem meth_bracket (w : World) (a b : Value) : (method 417 194 (.agg #[a, b]) "lemma/stmt.key").run Tryz.prog w = .ok (235, .agg #[a, b]) w := by kernel_rfl
theorem byKey_calls (s : ByteArray) (w : World) : Calls Tryz.prog 113 #[.string s] w fun e w' => e = .returned (formV (keyN s)) ∧ Same [] w w' := by
 have m1 := meth_list
 have m2 := meth_said
 have m3 := meth_proved
 have m4 := meth_bracket
 go_enter Tryz.func113, Tryz.ntmps113
 go_wp2_with (go_at_call 156; refine (forms_calls _).mono ?_; rintro e W ⟨rfl, hsm, hblk⟩)
 have Hb := Kd hblk
 have Hsm := Kd hsm
 clear hblk hsm
 go_loopw [4, 7] (fun _ u wr => Same [] W wr ∧ ∃ k : Nat, k ≤ 9 ∧ u = .int .i64 k ∧ k ≤ keyN s) (fun _ u _ => 9 - (intOf u).toNat)
 case atStart => exact ⟨Same.refl _ _, 0, by omega, rfl, by omega⟩
 case round =>
  obtain ⟨hsw, k, hk, rfl, hall⟩ := hrel
  have Hsw := Kd hsw
  have hbr := hsw.get Hb.out (by simp)
  have Hbr := Kd hbr
  clear hsw hbr
  by_cases hlt : k < 9
  ·have hkey := keyN_iff s k hlt
   have hc : wr.cell? ⟨w.heap.size, k, none⟩ = some (formV k) := by
    have : k = 0 ∨ k = 1 ∨ k = 2 ∨ k = 3 ∨ k = 4 ∨ k = 5 ∨ k = 6 ∨ k = 7 ∨ k = 8 := by omega
    rcases this with rfl | rfl | rfl | rfl | rfl | rfl | rfl | rfl | rfl <;> exact blk_c Hbr.out rfl
   by_cases hyes : keyN s = k
   ·rw [decide_eq_true hyes] at hkey
    have Hyes := Kd hyes
    clear hyes hall hk
    have : k = 0 ∨ k = 1 ∨ k = 2 ∨ k = 3 ∨ k = 4 ∨ k = 5 ∨ k = 6 ∨ k = 7 ∨ k = 8 := by omega
    rcases this with rfl | rfl | rfl | rfl | rfl | rfl | rfl | rfl | rfl
    all_goals
     simp only [formB, List.getD_cons_zero, List.getD_cons_succ] at hkey
     dsimp only [formV] at hc
     go_wp2_with (go_at_call 235; refine (key_calls _ _ _ rfl rfl).mono ?_; rintro e' W5 ⟨rfl, hs5⟩)
     go_ret
     rw [Hyes.out]
     exact ⟨rfl, (Hsm.out.trans Hsw.out).trans hs5⟩
   ·rw [decide_eq_false hyes] at hkey
    have hall' : k + 1 ≤ keyN s := by omega
    have Hall := Kd hall'
    clear hyes hall hall' hk
    have : k = 0 ∨ k = 1 ∨ k = 2 ∨ k = 3 ∨ k = 4 ∨ k = 5 ∨ k = 6 ∨ k = 7 ∨ k = 8 := by omega
    rcases this with rfl | rfl | rfl | rfl | rfl | rfl | rfl | rfl | rfl
    all_goals
     simp only [formB, List.getD_cons_zero, List.getD_cons_succ] at hkey
     dsimp only [formV] at hc
     go_wp2_with (go_at_call 235; refine (key_calls _ _ _ rfl rfl).mono ?_; rintro e' W5 ⟨rfl, hs5⟩)
     refine ⟨⟨Hsw.out.trans hs5, _, ?_, rfl, Hall.out⟩, ?_⟩
     ·decide
     ·simp [intOf]
  ·have hk9 : keyN s = 9 := by have := keyN_le s; omega
   have H9 := Kd hk9
   clear hk9 hall
   go_wp2
   go_ret
   rw [H9.out]
   exact ⟨rfl, Hsm.out.trans Hsw.out⟩
theorem as_yes_list (w : World) (v : Value) : (Instr.typeAssert (.iface 235 v) 138 235 true).run Tryz.prog w = .ok (.tuple #[v, .bool true]) w := by kernel_rfl
theorem as_yes_said (w : World) (v : Value) : (Instr.typeAssert (.iface 236 v) 138 236 true).run Tryz.prog w = .ok (.tuple #[v, .bool true]) w := by kernel_rfl
theorem as_yes_proved (w : World) (v : Value) : (Instr.typeAssert (.iface 238 v) 138 238 true).run Tryz.prog w = .ok (.tuple #[v, .bool true]) w := by kernel_rfl
theorem as_yes_bracket (w : World) (v : Value) : (Instr.typeAssert (.iface 194 v) 138 194 true).run Tryz.prog w = .ok (.tuple #[v, .bool true]) w := by kernel_rfl
theorem as_list_bracket (w : World) (v : Value) : (Instr.typeAssert (.iface 235 v) 138 194 true).run Tryz.prog w = .ok (.tuple #[(.agg #[.string ⟨#[]⟩, .int .i64 0]), .bool false]) w := by kernel_rfl
theorem as_said_list (w : World) (v : Value) : (Instr.typeAssert (.iface 236 v) 138 235 true).run Tryz.prog w = .ok (.tuple #[(.agg #[.string ⟨#[]⟩, .int .i64 0, .int .i64 0, .int .i64 0]), .bool false]) w := by kernel_rfl
theorem as_said_bracket (w : World) (v : Value) : (Instr.typeAssert (.iface 236 v) 138 194 true).run Tryz.prog w = .ok (.tuple #[(.agg #[.string ⟨#[]⟩, .int .i64 0]), .bool false]) w := by kernel_rfl
theorem as_proved_list (w : World) (v : Value) : (Instr.typeAssert (.iface 238 v) 138 235 true).run Tryz.prog w = .ok (.tuple #[(.agg #[.string ⟨#[]⟩, .int .i64 0, .int .i64 0, .int .i64 0]), .bool false]) w := by kernel_rfl
theorem as_proved_said (w : World) (v : Value) : (Instr.typeAssert (.iface 238 v) 138 236 true).run Tryz.prog w = .ok (.tuple #[(.agg #[.string ⟨#[]⟩, .int .i64 0, .int .i64 0, .int .i64 0]), .bool false]) w := by kernel_rfl
theorem as_proved_bracket (w : World) (v : Value) : (Instr.typeAssert (.iface 238 v) 138 194 true).run Tryz.prog w = .ok (.tuple #[(.agg #[.string ⟨#[]⟩, .int .i64 0]), .bool false]) w := by kernel_rfl
theorem as_bracket_list (w : World) (v : Value) : (Instr.typeAssert (.iface 194 v) 138 235 true).run Tryz.prog w = .ok (.tuple #[(.agg #[.string ⟨#[]⟩, .int .i64 0, .int .i64 0, .int .i64 0]), .bool false]) w := by kernel_rfl
theorem as_bracket_said (w : World) (v : Value) : (Instr.typeAssert (.iface 194 v) 138 236 true).run Tryz.prog w = .ok (.tuple #[(.agg #[.string ⟨#[]⟩, .int .i64 0, .int .i64 0, .int .i64 0]), .bool false]) w := by kernel_rfl
theorem as_bracket_proved (w : World) (v : Value) : (Instr.typeAssert (.iface 194 v) 138 238 true).run Tryz.prog w = .ok (.tuple #[(.agg #[.string ⟨#[]⟩, .int .i64 0, .int .i64 0, .int .i64 0]), .bool false]) w := by kernel_rfl
theorem bounds_list (w : World) (a : ByteArray) (b c d : Int) : Calls Tryz.prog 114 #[.iface 235 (.agg #[.string a, .int .i64 b, .int .i64 c, .int .i64 d])] w fun e w' => e = .returned (.tuple #[.int .i64 c, .int .i64 d, .bool false, .bool false]) ∧ Same [] w w' := by
 have m_list := as_yes_list
 go_enter Tryz.func114, Tryz.ntmps114
 go_wp2
 go_quiet (fail)
 go_wp2
 refine bodyPost_ret (v := .tuple #[.int .i64 c, .int .i64 d, .bool false, .bool false]) (by simp [results, Tryz.f114, go_sem]) rfl ⟨rfl, ?_⟩
 exact (Same.alloc [] w _).trans (Same.drewN _ _ _)
theorem bounds_said (w : World) (a : ByteArray) (b c d : Int) : Calls Tryz.prog 114 #[.iface 236 (.agg #[.string a, .int .i64 b, .int .i64 c, .int .i64 d])] w fun e w' => e = .returned (.tuple #[.int .i64 c, .int .i64 d, .bool true, .bool false]) ∧ Same [] w w' := by
 have m_list := as_said_list
 have m_said := as_yes_said
 go_enter Tryz.func114, Tryz.ntmps114
 go_wp2
 go_quiet (fail)
 go_wp2
 refine bodyPost_ret (v := .tuple #[.int .i64 c, .int .i64 d, .bool true, .bool false]) (by simp [results, Tryz.f114, go_sem]) rfl ⟨rfl, ?_⟩
 exact (Same.alloc [] w _).trans (Same.drewN _ _ _)
theorem bounds_proved (w : World) (a : ByteArray) (b c d : Int) : Calls Tryz.prog 114 #[.iface 238 (.agg #[.string a, .int .i64 b, .int .i64 c, .int .i64 d])] w fun e w' => e = .returned (.tuple #[.int .i64 c, .int .i64 d, .bool true, .bool true]) ∧ Same [] w w' := by
 have m_list := as_proved_list
 have m_said := as_proved_said
 have m_proved := as_yes_proved
 go_enter Tryz.func114, Tryz.ntmps114
 go_wp2
 go_quiet (fail)
 go_wp2
 refine bodyPost_ret (v := .tuple #[.int .i64 c, .int .i64 d, .bool true, .bool true]) (by simp [results, Tryz.f114, go_sem]) rfl ⟨rfl, ?_⟩
 exact (Same.alloc [] w _).trans (Same.drewN _ _ _)
theorem bounds_bracket (w : World) (a : ByteArray) (b : Int) : Calls Tryz.prog 114 #[.iface 194 (.agg #[.string a, .int .i64 b])] w fun e w' => e = .returned (.tuple #[.int .i64 0, .int .i64 0, .bool false, .bool false]) ∧ Same [] w w' := by
 have m_list := as_bracket_list
 have m_said := as_bracket_said
 have m_proved := as_bracket_proved
 go_enter Tryz.func114, Tryz.ntmps114
 go_wp2
 refine bodyPost_ret (v := .tuple #[.int .i64 0, .int .i64 0, .bool false, .bool false]) (by simp [results, Tryz.f114, go_sem]) rfl ⟨rfl, ?_⟩
 exact Same.refl _ _
def formLab (i : Nat) : Bool := [false, false, true, true, false, true, true, false, false].getD i false
theorem bounds_calls (w : World) (i : Nat) (hi : i < 9) : Calls Tryz.prog 114 #[formV i] w fun e w' => e = .returned (.tuple #[.int .i64 (formL i), .int .i64 (formM i), .bool (formLab i), .bool (i == 6)]) ∧ Same [] w w' := by
 have : i = 0 ∨ i = 1 ∨ i = 2 ∨ i = 3 ∨ i = 4 ∨ i = 5 ∨ i = 6 ∨ i = 7 ∨ i = 8 := by omega
 rcases this with rfl | rfl | rfl | rfl | rfl | rfl | rfl | rfl | rfl
 ·exact bounds_list w _ _ _ _
 ·exact bounds_list w _ _ _ _
 ·exact bounds_said w _ _ _ _
 ·exact bounds_said w _ _ _ _
 ·exact bounds_list w _ _ _ _
 ·exact bounds_said w _ _ _ _
 ·exact bounds_proved w _ _ _ _
 ·exact bounds_bracket w _ _
 ·exact bounds_bracket w _ _
theorem methk_list (w : World) (a b c d : Value) : (method 417 235 (.agg #[a, b, c, d]) "lemma/stmt.kind").run Tryz.prog w = .ok (236, .agg #[a, b]) w := by kernel_rfl
theorem methk_said (w : World) (a b c d : Value) : (method 417 236 (.agg #[a, b, c, d]) "lemma/stmt.kind").run Tryz.prog w = .ok (236, .agg #[a, b]) w := by kernel_rfl
theorem methk_proved (w : World) (a b c d : Value) : (method 417 238 (.agg #[a, b, c, d]) "lemma/stmt.kind").run Tryz.prog w = .ok (236, .agg #[a, b]) w := by kernel_rfl
theorem methk_bracket (w : World) (a b : Value) : (method 417 194 (.agg #[a, b]) "lemma/stmt.kind").run Tryz.prog w = .ok (236, .agg #[a, b]) w := by kernel_rfl
theorem kindOf_calls (s n : Value) (w : World) (hs : s.oneCell' = true) (hn : n.oneCell' = true) : Calls Tryz.prog 236 #[.agg #[s, n]] w fun e w' => e = .returned n ∧ Same [] w w' := by
 go_enter Tryz.func236, Tryz.ntmps236
 go_wp2
 go_ret
 exact ⟨rfl, Same.alloc _ _ _⟩
structure St where
 kind : Nat
 label : Tk
 key : Tk
 proving : Bool
 words : List Tk
 proof : List Tk
 end_ : Tk
def St.cells (s : St) (wv pv : Value) : List Value := .int .i64 s.kind :: (s.label.cells ++ s.key.cells ++ [.bool s.proving, wv, pv] ++ s.end_.cells)
def St.Rows (w : World) (s : St) (wv pv : Value) : Prop := Row w 54 4 wv s.words.length (tkCells s.words) ∧ Row w 54 4 pv s.proof.length (tkCells s.proof)
structure Rd where
 out : List St
 label : Option Tk
 now : Option St
 what : Nat
 proves : Bool
def plainT (t : Tk) : Bool := plainB t.text
def Rd.between (r : Rd) (t : Tk) : Nat × Rd :=
 if plainT t then (if r.label.isSome then (60, r) else (0, { r with label := some t }))
 else
  let f := keyN t.text
  if f = 9 then (60, r)
  else if formLab f ≠ r.label.isSome then (61, r)
  else
   let s : St := ⟨f + 1, r.label.getD Tk.none, t, false, [], [], Tk.none⟩
   if f = 7 ∨ f = 8 then (0, { r with label := none, out := r.out ++ [{ s with end_ := t }] })
   else (0, { r with label := none, now := some s, what := f, proves := false })
def Rd.within (r : Rd) (s : St) (t : Tk) : Nat × Rd :=
 if plainT t then
  if r.proves then (0, { r with now := some { s with proof := s.proof ++ [t] } })
  else if s.words.length = formM r.what then (62, r) else (0, { r with now := some { s with words := s.words ++ [t] } })
 else if t.text.toList = [36, 61] ∧ r.what = 6 ∧ r.proves = false then
  if s.words.length < formL r.what then (62, r) else (0, { r with proves := true, now := some { s with proving := true } })
 else if t.text.toList = [36, 46] then
  if s.words.length < formL r.what ∨ (r.what = 6 ∧ r.proves = false) then (62, r) else (0, { r with now := none, out := r.out ++ [{ s with end_ := t }] })
 else (60, r)
def Rd.step (r : Rd) (t : Tk) : Nat × Rd := match r.now with | none => r.between t | some s => r.within s t
def Rd.all (r : Rd) : List St := match r.now with | none => r.out | some s => r.out ++ [s]
def readGo : List Tk → Rd → Rd × Option (Tk × Nat)
 | [], r => (r, none)
 | t :: l, r => if (r.step t).1 = 0 then readGo l (r.step t).2 else ((r.step t).2, some (t, (r.step t).1))
theorem heap_alloc' (w : World) (o : Obj) (b : Nat) : (w.alloc o).heap[b]? = if b = w.heap.size then some o else w.heap[b]? := by
 show (w.heap.push o)[b]? = _
 rw [Array.getElem?_push]
theorem heap_drew (w : World) (b : Nat) : w.drew.heap[b]? = w.heap[b]? := rfl
theorem size_alloc' (w : World) (o : Obj) : (w.alloc o).heap.size = w.heap.size + 1 := World.size_alloc w o
theorem size_set' (w : World) (a : Addr) (v : Value) : (w.setCell a v).heap.size = w.heap.size := by simp [World.setCell]
theorem size_drew' (w : World) : w.drew.heap.size = w.heap.size := rfl
theorem Same.alloc' {S : List Nat} {w w' : World} (h : Same S w w') (o : Obj) : Same S w (w'.alloc o) := h.trans (Same.alloc _ _ _)
theorem Same.drew' {S : List Nat} {w w' : World} (h : Same S w w') : Same S w w'.drew := h.trans (Same.drew _ _)
theorem Same.drewN' {S : List Nat} {w w' : World} (h : Same S w w') (n : Nat) : Same S w (w'.drewN n) := h.trans (Same.drewN _ _ _)
theorem Same.setNew {S : List Nat} {w w' : World} (h : Same S w w') (a : Addr) (v : Value) (ha : w.heap.size ≤ a.block) : Same S w (w'.setCell a v) :=
 (h.then (Same.setCell w' a v (S := [a.block]) (by simp)) (fun x hx => by simp at hx; subst hx; exact .inr ha))
theorem Same.A {S : List Nat} {w w1 : World} (h : Same S w w1 := by repeat (first | (with_reducible refine Same.alloc' ?_ _) | (with_reducible refine Same.drew' ?_) | (with_reducible refine Same.drewN' ?_ _) | (with_reducible refine Same.set ?_ _ _ (by simp; done)) | (with_reducible refine Same.setNew ?_ _ _ (by simp <;> omega)) | (with_reducible exact Same.refl _ _))) : Same S w w1 := h
theorem Same.setRow (w : World) (g : Nat) (cs : Array Value) {S : List Nat} (h : g ∈ S) : Same S w (w.setRow g cs) :=
 ⟨rfl, rfl, rfl, by simp [World.setRow], fun b _ hn => by
  have : b ≠ g := fun e => hn (e ▸ h)
  simp [World.setRow, Array.getElem?_modify, Ne.symm this]⟩
theorem wp_stRow {P : Program} {ops : Array Oper} {rest : List Oper} {o : Oper} {a : Act} {w : World} {Q : Exit → Act → World → Prop} (hgd : o.guard = none) (ty : TypeId) (x y : Operand) (ho : o.op = .store ty x y)
  (g : Nat) (cells : Array Value) (hx : a.eval x = .pointer (some ⟨g, 0, none⟩)) (hy : a.eval y = .agg cells)
  (t : TypeId) (old : Array Value) (hg : w.heap[g]? = some (.cells old t (0, 0))) (hi : (P.info? ty).map (·.size) = some cells.size)
  (hold : old.size = cells.size) (h1 : cells.all (·.oneCell') = true)
  (h : ∀ w', w'.heap[g]? = some (.cells cells t (0, 0)) → Same [g] w w' → wpList P ops Q rest (a.put o.dst undef) w') : wpList P ops Q (o :: rest) a w :=
 wpList_store_row hgd ty x y ho g cells hx hy t old hg hi hold h1 (h _ (setRow_heap w g old cells t (0, 0) hg) (Same.setRow _ _ _ (by simp)))
def kfind {α β : Type} [DecidableEq α] (k : α) : List (α × β) → Nat → Option (Nat × β)
 | [], _ => none
 | (k', v) :: r, i => if k = k' then some (i, v) else kfind k r (i + 1)
theorem kfind_spec {α β : Type} [DecidableEq α] (k : α) : ∀ (l : List (α × β)) (i : Nat), (aget k l = none ∧ kfind k l i = none ∧ ∀ v, aput k v l = l ++ [(k, v)]) ∨
  ∃ j u, aget k l = some u ∧ kfind k l i = some (i + j, u) ∧ l[j]? = some (k, u) ∧ ∀ v, aput k v l = l.set j (k, v)
 | [], i => .inl ⟨rfl, rfl, fun _ => rfl⟩
 | (k', u) :: r, i => by
  by_cases h : k = k'
  ·subst h
   exact .inr ⟨0, u, by simp [aget], by simp [kfind], rfl, fun v => by simp [aput]⟩
  ·rcases kfind_spec k r (i + 1) with ⟨h1, h2, h3⟩ | ⟨j, u', h1, h2, h3, h4⟩
   ·exact .inl ⟨by simp [aget, h, h1], by simp [kfind, h, h2], fun v => by simp [aput, h, h3]⟩
   ·exact .inr ⟨j + 1, u', by simp [aget, h, h1], by simp [kfind, h, h2]; omega, by simpa using h3, fun v => by simp [aput, h, h4]⟩
structure KeyLaw {α : Type} [DecidableEq α] (P : Program) (kt : TypeId) (enc : α → Value) : Prop where
 check : ∀ e k (w : World), (Instr.checkKey e 10000 kt (enc k)).run P w = .ok () w
 find : ∀ (k : α) (es : List MapEntry) (l : List (α × Value)) (w : World), es.map (fun e => (e.key, e.val)) = l.map (fun p => (enc p.1, p.2)) → (Instr.findKey kt (enc k) es).run P w = .ok (kfind k l 0) w
 stays : ∀ k (w : World), (Instr.keyThatStays (enc k) (enc k)).run P w = .ok (enc k) w
def KMap {α : Type} (enc : α → Value) (w : World) (b : Nat) (l : List (α × Value)) : Prop :=
 ∃ es clock, w.heap[b]? = some (.map es clock) ∧ es.toList.map (fun e => (e.key, e.val)) = l.map (fun p => (enc p.1, p.2)) ∧ (∀ x ∈ es.toList, x.born < clock) ∧ (es.toList.map (·.born)).Nodup
section
variable {α : Type} [DecidableEq α] {enc : α → Value} {P : Program} {w : World} {b : Nat} {l : List (α × Value)} {t kt et : TypeId}
omit [DecidableEq α] in
theorem KMap.lt (h : KMap enc w b l) : b < w.heap.size := by obtain ⟨_, _, h, _⟩ := h; exact blk_lt h
omit [DecidableEq α] in
theorem KMap.same {S : List Nat} {w' : World} (h : KMap enc w b l) (hs : Same S w w') (hn : b ∉ S) : KMap enc w' b l := by
 obtain ⟨es, clock, h, e⟩ := h; exact ⟨es, clock, hs.get h hn, e⟩
omit [DecidableEq α] in
theorem KMap.new (enc : α → Value) (w : World) (c : Nat) : KMap enc (w.alloc (.map #[] c)) w.heap.size [] := ⟨_, _, blk_new _ _, rfl, by simp, by simp⟩
omit [DecidableEq α] in
theorem KMap.len (h : KMap enc w b l) : ∃ es clock, w.heap[b]? = some (.map es clock) ∧ es.size = l.length := by
 obtain ⟨es, clock, h, e, _⟩ := h
 exact ⟨es, clock, h, by have := congrArg List.length e; simpa using this⟩
theorem KMap.run_lookup (L : KeyLaw P kt enc) (h : KMap enc w b l) (ht : P.underlying t = some (.map kt et)) {z : Value} (hz : (zeroValue et).run P w = .ok z w) (k : α) (c : Bool) :
  (Instr.lookup t (.map (some b)) (enc k) c).run P w = .ok (if c then .tuple #[(aget k l).getD z, .bool (aget k l).isSome] else (aget k l).getD z) w := by
 obtain ⟨es, clock, hb, he, hbo, hnd⟩ := h
 have hg := MapKept.run_getObj_map (P := P) hb
 have hc := L.check es.isEmpty k w
 have hf := L.find k es.toList l w he
 rcases kfind_spec k l 0 with ⟨h1, h2, _⟩ | ⟨j, u, h1, h2, _⟩
 ·rw [h2] at hf
  simp [Instr.lookup, run_underlying ht, hg, hc, hf, h1, hz]
 ·rw [h2] at hf
  simp [Instr.lookup, run_underlying ht, hg, hc, hf, h1]
theorem KMap.run_put (L : KeyLaw P kt enc) (h : KMap enc w b l) (ht : P.underlying t = some (.map kt et)) (k : α) (v : Value) :
  ∃ w', (Instr.mapUpdate t (.map (some b)) (enc k) v).run P w = .ok () w' ∧ KMap enc w' b (aput k v l) ∧ Same [b] w w' := by
 obtain ⟨es, clock, hb, he, hbo, hnd⟩ := h
 have hg := MapKept.run_getObj_map (P := P) hb
 have hc := L.check false k w
 have hf := L.find k es.toList l w he
 have hset : ∀ o, (setObj b o).run P w = .ok () { w with heap := w.heap.setIfInBounds b o } := fun o => MapKept.run_setObj_map o hb
 have hsame : ∀ o, Same [b] w { w with heap := w.heap.setIfInBounds b o } := fun o => ⟨rfl, rfl, rfl, by simp, fun i _ hi => by
  have : i ≠ b := by simpa using hi
  simp [Array.getElem?_setIfInBounds, Ne.symm this]⟩
 have hnew : ∀ o, ({ w with heap := w.heap.setIfInBounds b o } : World).heap[b]? = some o := fun o => by
  have := blk_lt hb
  simp [Array.getElem?_setIfInBounds, this]
 rcases kfind_spec k l 0 with ⟨h1, h2, h3⟩ | ⟨j, u, h1, h2, h3, h4⟩
 ·rw [h2] at hf
  refine ⟨_, by simp [Instr.mapUpdate, run_underlying ht, hg, hc, hf, hset]; rfl, ⟨_, _, hnew _, ?_, ?_, ?_⟩, hsame _⟩
  ·simp [he, h3 v]
  ·intro x hx
   simp only [Array.toList_push, List.mem_append, List.mem_singleton] at hx
   rcases hx with hx | rfl
   ·have := hbo x hx; omega
   ·simp
  ·simp only [Array.toList_push, List.map_append, List.map_cons, List.map_nil]
   refine List.nodup_append.2 ⟨hnd, by simp, ?_⟩
   intro a ha b hb
   simp only [List.mem_singleton] at hb
   subst hb
   obtain ⟨x, hx, rfl⟩ := List.mem_map.1 ha
   exact Nat.ne_of_lt (hbo x hx)
 ·rw [h2, Nat.zero_add] at hf
  obtain ⟨e, he1, he2⟩ : ∃ e, es[j]? = some e ∧ e.key = enc k := by
   have := congrArg (fun q => q[j]?) he
   simp only [List.getElem?_map, h3, Option.map_some, Option.map_eq_some_iff, Prod.mk.injEq] at this
   obtain ⟨e, h5, h6, _⟩ := this
   exact ⟨e, by simpa using h5, h6⟩
  have hst := L.stays k w
  refine ⟨_, by simp [Instr.mapUpdate, run_underlying ht, hg, hc, hf, hset, he1, he2, hst]; rfl, ⟨_, _, hnew _, ?_, ?_⟩, hsame _⟩
  rotate_left
  ·have hbm : (es.modify j fun e => { e with key := enc k, val := v }).toList.map (·.born) = es.toList.map (·.born) := by
    apply List.ext_getElem?
    intro i
    simp only [List.getElem?_map, Array.getElem?_toList, Array.getElem?_modify]
    by_cases hij : j = i
    ·subst hij; simp [he1]
    ·simp [hij]
   refine ⟨fun x hx => ?_, by rw [hbm]; exact hnd⟩
   have hx' : x.born ∈ (es.modify j fun e => { e with key := enc k, val := v }).toList.map (·.born) := List.mem_map.2 ⟨x, hx, rfl⟩
   rw [hbm] at hx'
   obtain ⟨y, hy, hxy⟩ := List.mem_map.1 hx'
   rw [← hxy]
   exact hbo y hy
  rw [h4 v]
  apply List.ext_getElem?
  intro i
  have hi := congrArg (fun q => q[i]?) he
  simp only [List.getElem?_map] at hi
  simp only [List.getElem?_map, Array.getElem?_toList, Array.getElem?_modify, List.getElem?_set]
  by_cases hij : j = i
  ·subst hij
   have hl : j < l.length := (List.getElem?_eq_some_iff.1 h3).1
   simp [he1, hl]
  ·simpa [hij] using hi
end
section
variable {α : Type} [DecidableEq α] {enc : α → Value} {P : Program} {ops : Array Oper} {rest : List Oper} {o : Oper} {a : Act} {Q : Exit → Act → World → Prop} {w : World} {b : Nat} {l : List (α × Value)} {t kt et : TypeId}
theorem wp_kput (L : KeyLaw P kt enc) (h : KMap enc w b l) (ht : P.underlying t = some (.map kt et))
  (hg : o.guard = none) (m x v : Operand) (hop : o.op = .mapUpdate t m x v) (k : α) (u : Value) (hm : a.eval m = .map (some b)) (hx : a.eval x = enc k) (hv : a.eval v = u)
  (hK : ∀ w', KMap enc w' b (aput k u l) → Same [b] w w' → wpList P ops Q rest (a.put o.dst undef) w') : wpList P ops Q (o :: rest) a w := by
 refine wpList_plain hg fun K' hK' => ?_
 obtain ⟨w', hrun, r1, r2⟩ := h.run_put L ht k u
 unfold Oper.wp
 simp [execOp, hop, hm, hx, hv, hrun, Result.andThen]
 exact hK' _ _ (hK w' r1 r2)
end
abbrev Pr := Int × Int
def intV (n : Int) : Value := .int .i64 n
def prV (p : Pr) : Value := .agg #[.int .i64 p.1, .int .i64 p.2]
theorem intKey : KeyLaw Tryz.prog 3 intV := {
 check e k w := MapKept.run_checkKey Tryz.underlying3 (by simp [intV, MapKept.IsKey]) e 9999
 stays k w := MapKept.run_keyThatStays (d := .int .i64) (by simp [intV, MapKept.IsKey])
 find k es l w h := by
  refine MapKept.run_findKey Tryz.underlying3 ?_
  have : ∀ (es : List MapEntry) (l : List (Int × Value)) (i : Nat), es.map (fun e => (e.key, e.val)) = l.map (fun p => (intV p.1, p.2)) → Instr.findNow (.int .i64) (intV k) es i = some (kfind k l i) := by
   intro es
   induction es with
   | nil => intro l i h; cases l with
    | nil => rfl
    | cons p l => simp at h
   | cons e es ih =>
    intro l i h
    cases l with
    | nil => simp at h
    | cons p l =>
     simp only [List.map_cons, List.cons.injEq, Prod.mk.injEq] at h
     obtain ⟨⟨h1, h2⟩, h3⟩ := h
     have h1' : e.key = .int .i64 p.1 := h1
     by_cases hk : k = p.1
     ·simp [Instr.findNow, h1', intV, Instr.sameNow, kfind, hk, h2]
     ·have hb : (k == p.1) = false := by simpa using hk
      have := ih l (i + 1) h3
      simp only [Instr.findNow, h1', intV, Instr.sameNow, if_true, hb, kfind, if_neg hk]
      exact this
  exact this es l 0 h }
theorem prEq (p q : Pr) (w : World) : (Op.equal 113 (prV p) (prV q)).run Tryz.prog w = .ok (decide (p = q)) w := by
 have u3 := Tryz.underlying3
 have a3 := Tryz.isAgg3
 have z3 := Tryz.sizeOf3
 have hS : Tryz.prog.underlying 113 = some (.struct (Tryz.prog.fieldsOf 113)) := by kernel_rfl
 have hp : Tryz.prog.stoodInHeld 113 = false := by kernel_rfl
 unfold Op.equal Op.maxDepth prV
 rw [show (10000 : Nat) = 9999 + 1 from rfl, run_equalIn_struct w 9999 _ _ _ hS hp]
 simp only [Program.fieldsOf, Tryz.underlying113]
 go_simp
 obtain ⟨a, b⟩ := p
 obtain ⟨c, d⟩ := q
 by_cases h1 : a = c <;> by_cases h2 : b = d <;> simp [h1, h2]
theorem prKey : KeyLaw Tryz.prog 113 prV := {
 check e k w := by kernel_rfl
 stays k w := by
  have : Instr.sameBits 10000 (prV k) (prV k) = true := by
   show Instr.sameBits (9998 + 1 + 1) (.agg #[.int .i64 k.1, .int .i64 k.2]) (.agg #[.int .i64 k.1, .int .i64 k.2]) = true
   simp [Instr.sameBits]
  simp [Instr.keyThatStays, this]
 find k es l w h := by
  have key : ∀ (es : List MapEntry) (l : List (Pr × Value)) (i : Nat), es.map (fun e => (e.key, e.val)) = l.map (fun p => (prV p.1, p.2)) → (Instr.findAsking 113 (prV k) es i).run Tryz.prog w = .ok (kfind k l i) w := by
   intro es
   induction es with
   | nil => intro l i h; cases l with
    | nil => rfl
    | cons p l => simp at h
   | cons e es ih =>
    intro l i h
    cases l with
    | nil => simp at h
    | cons p l =>
     simp only [List.map_cons, List.cons.injEq, Prod.mk.injEq] at h
     obtain ⟨⟨h1, h2⟩, h3⟩ := h
     simp only [Instr.findAsking, Sem.run_bind, h1, prEq, Result.andThen_ok]
     by_cases hk : k = p.1
     ·simp [hk, kfind, h2]
     ·simp only [hk, decide_false, Bool.false_eq_true, if_false, kfind]
      exact ih l (i + 1) h3
  cases es with
  | nil =>
   cases l with
   | nil => simp [Instr.findKey, run_underlying Tryz.underlying113, Instr.findNow, kfind]
   | cons p l => simp at h
  | cons e es =>
   have h1 : ∃ q, e.key = prV q := by
    cases l with
    | nil => simp at h
    | cons p l => simp only [List.map_cons, List.cons.injEq, Prod.mk.injEq] at h; exact ⟨_, h.1.1⟩
   obtain ⟨q, hq⟩ := h1
   have hn : ∀ d, Instr.findNow (.struct d) (prV k) (e :: es) 0 = none := fun d => by simp [Instr.findNow, hq, prV, Instr.sameNow]
   simp only [Instr.findKey, Sem.run_bind, run_underlying Tryz.underlying113, Result.andThen_ok, hn]
   exact key _ _ _ h }
end Go.Proofs.YtdhkmfpfbjcdiaaGreatDoor
