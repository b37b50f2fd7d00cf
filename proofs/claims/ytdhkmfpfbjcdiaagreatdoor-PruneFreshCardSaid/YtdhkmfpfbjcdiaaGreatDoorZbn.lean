/- lemmalaw texts, part 40. -/
import Derived.Test.YtdhkmfpfbjcdiaaGreatDoorZah
import Derived.Test.YtdhkmfpfbjcdiaaGreatDoorZbm
set_option maxRecDepth 100000
set_option linter.unusedVariables false
set_option linter.unusedSimpArgs false
namespace Go.Proofs.YtdhkmfpfbjcdiaaGreatDoor
open Go.RowKit
theorem Text_calls (w : World) (nb : Nat) (P : BP) (B : Bs) (h : BsAt w nb P B) : Calls Tryz.prog 20 #[.pointer (some ⟨nb, 0, none⟩)] w fun e w' => e = .returned (.string B.text) ∧ w' = w := by
  have n0 := blk_c (i := 0) (v := .string B.text) h.blk
  clear h
  go_enter Tryz.func20, Tryz.ntmps20
  go_wp2
  go_ret
  exact ⟨rfl, rfl⟩
def pickA (L : List Asr) (l : List Int) : List Asr := l.filterMap fun i => L[i.toNat]?
def cutOf (t : ByteArray) : List Asr → Nat → List UInt8
  | [], p => (t.extract p t.size).data.toList
  | a :: r, p => (t.extract p a.at_.at_.off).data.toList ++ cutOf t r (a.end_.at_.off + a.end_.text.size)
def OrdA (n : Nat) : List Asr → Nat → Prop
  | [], p => p ≤ n
  | a :: r, p => p ≤ a.at_.at_.off ∧ a.at_.at_.off ≤ a.end_.at_.off + a.end_.text.size ∧ OrdA n r (a.end_.at_.off + a.end_.text.size)
def withoutOf (B : Bs) (n : Nat) : ByteArray := ⟨(cutOf B.text (pickA B.ld.asserts (fallsOf B.ld.asserts n)) 0).toArray⟩
theorem mem_outTo (S : List ByteArray) (L : List Asr) : ∀ (k : Nat), ∀ i ∈ outTo S L k, ∃ m : Nat, i = m ∧ m < L.length
  | 0, i, h => by simp [outTo] at h
  | k + 1, i, h => by
    rw [outTo] at h
    split at h
    · rename_i a ha
      split at h
      · rcases List.mem_append.1 h with h | h
        · exact mem_outTo S L k i h
        · exact ⟨k, List.mem_singleton.1 h, (List.getElem?_eq_some_iff.1 ha).1⟩
      · exact mem_outTo S L k i h
    · exact mem_outTo S L k i h
theorem mem_fallsOf (L : List Asr) (n : Nat) : ∀ i ∈ fallsOf L n, ∃ m : Nat, i = m ∧ m < L.length := by
  intro i h
  unfold fallsOf at h
  split at h
  · exact mem_outTo _ _ _ i h
  · simp at h
theorem pickA_drop (L : List Asr) (l : List Int) (k : Nat) (hk : k < l.length) (m : Nat) (hm : l[k] = m) (hL : m < L.length) : pickA L (l.drop k) = L[m] :: pickA L (l.drop (k + 1)) := by
  unfold pickA
  rw [List.drop_eq_getElem_cons hk, List.filterMap_cons, hm]
  simp [hL]
theorem Same.below' {w W W' : World} (h : Same [] w W) (k : Below w.heap.size W W') : Same [] w W' :=
  ⟨k.os.trans h.os, k.tape.trans h.tape, k.output.trans h.output, Nat.le_trans h.size k.size, fun i hi _ => (k.block i hi).trans (h.block i hi (by simp))⟩
theorem BuilderAtF.same {T e : TypeId} {B b : Nat} {p : Value} {bs : List Value} {w w' : World} (h : Lib.BuilderAtF T e B b p bs w) (hs : Same [] w w') : Lib.BuilderAtF T e B b p bs w' := by
  obtain ⟨h1, v, h2, h3, h4⟩ := h
  refine ⟨h1, v, hs.get h2 (by simp), ⟨h3.1, ?_⟩, h4⟩
  rcases h3.2 with h | ⟨g, cap, cur, fz, e1, e2, e3, e4⟩
  · exact .inl h
  · exact .inr ⟨g, cap, cur, fz, e1, e2, hs.get e3 (by simp), e4⟩
theorem IsBuilderF.same {T e : TypeId} {B b : Nat} {bs : List Value} {w w' : World} (h : Lib.IsBuilderF T e B b bs w) (hs : Same [] w w') : Lib.IsBuilderF T e B b bs w' := h.imp (fun h => BuilderAtF.same h hs) (fun h => BuilderAtF.same h hs)
theorem Row.others {w w' : World} {e k n : Nat} {v : Value} {xs : List Value} {e' b : Nat} (h : Row w e k v n xs) (ho : Lib.OthersKept e' (some b) w w') (he : e ≠ e') (hb : v.ownBlock ≠ some b) : Row w' e k v n xs := by
  refine ⟨h.1, ?_⟩
  rcases h.2 with h2 | ⟨g, cap, cur, rfl, h0, h1, h3⟩
  · exact .inl h2
  · exact .inr ⟨g, cap, cur, rfl, h0, ho g _ h1 (fun e => hb e) (fun c fz e => by cases e; exact he rfl), h3⟩
theorem OrdA.le {n : Nat} : ∀ {l : List Asr} {p : Nat}, OrdA n l p → p ≤ n
  | [], _, h => h
  | a :: r, _, h => Nat.le_trans h.1 (Nat.le_trans h.2.1 h.2.2.le)
theorem fallsOf_len (L : List Asr) (n : Nat) : (fallsOf L n).length ≤ L.length := by
  unfold fallsOf
  split
  · exact outTo_len _ _ _
  · simp
theorem ext_len (t : ByteArray) (p q : Nat) : (t.extract p q).size ≤ q - p := by rw [ByteArray.size_extract]; omega
theorem byteCells_str (l : List UInt8) (t : ByteArray) : Lib.byteCells l ++ Lib.strCells t = Lib.byteCells (l ++ t.data.toList) := by simp [Lib.byteCells, Lib.strCells]
def WitI (w : World) (L : List Asr) (t : ByteArray) (l : List Int) (lv : Value) (bb : Nat) (v u : Value) (W : World) : Prop :=
  ∃ (k p : Nat) (bs : List UInt8), k ≤ l.length ∧ u = .int .i64 k ∧ v = .int .i64 p ∧ Lib.IsBuilderF 105 5 w.heap.size bb (Lib.byteCells bs) W ∧ bs.length ≤ p ∧ OrdA t.size (pickA L (l.drop k)) p ∧
    bs ++ cutOf t (pickA L (l.drop k)) p = cutOf t (pickA L l) 0 ∧ Row W 3 1 lv l.length (intCells l) ∧ Same [] w W
set_option maxHeartbeats 8000000 in
theorem Without_calls (w : World) (nb : Nat) (P : BP) (B : Bs) (h : BsAt w nb P B) (hN : B.Nice) (n : Nat) (hn : n < B.ld.asserts.length) (ht : B.text.size ≤ 140737488355328) (hO : OrdA B.text.size (pickA B.ld.asserts (fallsOf B.ld.asserts n)) 0) :
    Calls Tryz.prog 12 #[.pointer (some ⟨nb, 0, none⟩), .int .i64 n] w fun e w' => e = .returned (.tuple #[.string (withoutOf B n), .int .i64 0]) ∧ Same [] w w' := by
  unfold withoutOf
  have hfl := Falls_calls w nb P B h hN n hn
  have htx := fun (W : World) (hW : Same [] w W) => Text_calls W nb P B (h.same hW)
  have hat := fun (W : World) (hW : Same [] w W) (k : Nat) (hk : k < B.ld.asserts.length) => At_good W nb P B (h.same hW) k hk (hN.small _ (List.getElem_mem hk)) hN.n
  have hmem := mem_fallsOf B.ld.asserts n
  have hN1 := hN.n
  have hll := fallsOf_len B.ld.asserts n
  unfold FallsR at hfl
  clear h hN
  generalize B.ld.asserts = L at hat hfl hN1 hn hO hmem hll ⊢
  generalize B.text = t at htx ht hO ⊢
  obtain ⟨l, hl⟩ : ∃ l, fallsOf L n = l := ⟨_, rfl⟩
  rw [hl] at hfl hO hmem hll ⊢
  have Hat := Lib.hid hat
  have HO := Lib.hid hO
  have Hmem := Lib.hid hmem
  clear hat hO hl hmem hn
  go_enter Tryz.func12, Tryz.ntmps12
  go_wp2_with (first
    | (go_at_call 10; go_must (refine hfl.mono ?_; rintro e1 W1 ⟨v1, rfl, hr1, hf1, hs1⟩; obtain ⟨A1, cl, rfl⟩ := hr1.shape; have Hr1 := Lib.hid hr1; have Hs1 := Lib.hid hs1; clear hr1 hf1 hs1))
    | (go_at_call 20; go_must (refine (htx _ Hs1.out).mono ?_; rintro e2 W2 ⟨rfl, hw2⟩; have hw3 := hw2.symm; subst hw3; clear hw2)))
  have hs2 : Same [] w (W1.alloc (.cells #[.pointer none, .slice none 0 0] 105)) := Hs1.out.trans (Same.alloc _ _ _)
  have h0 : WitI w L t l (.slice A1 l.length cl) W1.heap.size (.int .i64 0) (.int .i64 0) (W1.alloc (.cells #[.pointer none, .slice none 0 0] 105)) :=
    ⟨0, 0, [], Nat.zero_le _, rfl, rfl, .inl ⟨Hs1.out.size, .slice none 0 0, blk_new _ _, ⟨rfl, .inl ⟨rfl, rfl⟩⟩, fun e => by cases e⟩, Nat.le_refl _, HO.out, rfl, Hr1.out.same (Same.alloc [] _ _) (by simp), hs2⟩
  obtain ⟨bb, hbb⟩ : ∃ g, W1.heap.size = g := ⟨_, rfl⟩
  rw [hbb] at h0
  simp only [hbb]
  have hsz := Hs1.out.size
  have H0 := Lib.hid h0
  clear hbb h0 hs2 Hr1 Hs1 HO hfl htx
  go_loopw [9, 28] (fun v u wr => WitI w L t l (.slice A1 l.length cl) bb v u wr) (fun _ u _ => l.length - (intOf u).toNat)
  case atStart => exact H0.out
  case round =>
    obtain ⟨k, p, bs, hk, rfl, rfl, hB, hbl, hO, hcut, hrow, hsm⟩ := hrel
    by_cases hlt : k < l.length
    · obtain ⟨g, c, hv, lc1, lc2⟩ := hrow.cell (j := k) (by omega)
      cases hv
      rw [intCells_at l k hlt] at lc1
      obtain ⟨m, hm, hmL⟩ := Hmem.out l[k] (List.getElem_mem hlt)
      rw [hm] at lc1
      have hpd := pickA_drop L l k hlt m hm hmL
      rw [hpd] at hO hcut
      have hat1 := Hat.out wr hsm m hmL
      obtain ⟨a, ha⟩ : ∃ a, L[m] = a := ⟨_, rfl⟩
      rw [ha] at hat1 hO hcut
      obtain ⟨hp1, hp4, hO2⟩ := hO
      have hp3 := hO2.le
      have hp2 := Nat.le_trans hp4 hp3
      have hbl1 : w.heap.size ≤ bb := by rcases hB with h | h <;> exact h.1
      have hbl2 : bb < wr.heap.size := by rcases hB with ⟨_, v, h, _⟩ | ⟨_, v, h, _⟩ <;> exact blk_lt h
      have hbr : (Value.slice (some ⟨g, 0, none⟩) l.length cl).ownBlock ≠ some bb := by
        rcases hB with ⟨_, v, h, _⟩ | ⟨_, v, h, _⟩ <;> exact hrow.ne h (by decide)
      have HB := Lib.hid hB
      have HO2 := Lib.hid hO2
      have Hcut := Lib.hid hcut
      have Hrow := Lib.hid hrow
      have Hsm := Lib.hid hsm
      have Hbr := Lib.hid hbr
      clear hpd ha hB hO2 hcut hrow hsm hm hbr H0
      go_wp2_with (first
        | (go_at_call 18; go_must (refine (hat1).mono ?_; rintro e1 W1 ⟨⟨fh, fp, fg, sh, sp, pr, fes, ses⟩, rfl, hnw, hs1⟩; obtain ⟨A1, c1, A2, c2, A3, c3, A4, c4, A5, c5, A6, c6, q1, q2, q3, q4, q5, q6⟩ := hnw.inn.shapes; dsimp only at q1 q2 q3 q4 q5 q6; subst q1 q2 q3 q4 q5 q6; have Hs1 := Lib.hid hs1; unfold asV; clear hs1 hnw))
        | (
          (refine wp_stRow rfl 56 _ _ rfl W1.heap.size #[.int .i64 a.number, .string a.label, .bool a.isThm, .slice A1 a.hyps.length c1, .slice A2 a.pairs.length c2, .slice A3 a.goal.length c3, .slice A4 a.shyps.length c4, .slice A5 a.spairs.length c5, .slice A6 a.proof.length c6, .string a.at_.text, .int .i64 a.at_.at_.off, .int .i64 a.at_.at_.line, .int .i64 a.at_.at_.col, .string a.end_.text, .int .i64 a.end_.at_.off, .int .i64 a.end_.at_.line, .int .i64 a.end_.at_.col] (by go_simp) (by go_simp) 56 #[.int .i64 0, .string ⟨#[]⟩, .bool false, .slice none 0 0, .slice none 0 0, .slice none 0 0, .slice none 0 0, .slice none 0 0, .slice none 0 0, .string ⟨#[]⟩, .int .i64 0, .int .i64 0, .int .i64 0, .string ⟨#[]⟩, .int .i64 0, .int .i64 0, .int .i64 0] (blk_new W1 (.cells #[.int .i64 0, .string ⟨#[]⟩, .bool false, .slice none 0 0, .slice none 0 0, .slice none 0 0, .slice none 0 0, .slice none 0 0, .slice none 0 0, .string ⟨#[]⟩, .int .i64 0, .int .i64 0, .int .i64 0, .string ⟨#[]⟩, .int .i64 0, .int .i64 0, .int .i64 0] 56)) (by kernel_rfl) rfl (by simp [Value.oneCell']) ?_; intro W2 hB2 hs2; have Hs12 : Hid (Same [] W1 W2) := Lib.hid ((Same.alloc [] W1 _).then hs2 fun x hx => .inr (by simp at hx; omega)); obtain ⟨-, b1, -, -, -, -, -, -, -, -, -, -, -, -, -, -, -, bf⟩ := asO_cells (a := a) (fh := .slice A1 a.hyps.length c1) (fp := .slice A2 a.pairs.length c2) (fg := .slice A3 a.goal.length c3) (sh := .slice A4 a.shyps.length c4) (sp := .slice A5 a.spairs.length c5) (pr := .slice A6 a.proof.length c6) hB2; have bl := blk_lt hB2; have HB2 := Lib.hid hB2; clear hB2 hs2)
          ; obtain ⟨-, -, -, -, -, -, -, -, -, -, b10, -, -, b13, b14, -, -, -⟩ := asO_cells (a := a) (fh := .slice A1 a.hyps.length c1) (fp := .slice A2 a.pairs.length c2) (fg := .slice A3 a.goal.length c3) (sh := .slice A4 a.shyps.length c4) (sp := .slice A5 a.spairs.length c5) (pr := .slice A6 a.proof.length c6) HB2.out)
        | (go_at_call 38; go_must (refine (WriteString_calls w.heap.size bb (Lib.byteCells bs) _ W2 (IsBuilderF.same HB.out (Hs1.out.trans Hs12.out)) (by have := ext_len t p a.at_.at_.off; rw [Lib.byteCells_length]; exact Nat.le_trans (Nat.add_le_add hbl this) (by omega)) (Nat.le_trans Hsm.out.size (Hs1.out.trans Hs12.out).size)).mono ?_; rintro e3 W3 ⟨rfl, hB3, hb3, ho3⟩; have hBx := ho3 _ _ HB2.out (fun e => by have := Hs1.out.size; cases e; omega) (fun c fz e => by cases e); have HBx := Lib.hid hBx; obtain ⟨-, -, -, -, -, -, -, -, -, -, x10, -, -, x13, x14, -, -, xf⟩ := asO_cells (a := a) (fh := .slice A1 a.hyps.length c1) (fp := .slice A2 a.pairs.length c2) (fg := .slice A3 a.goal.length c3) (sh := .slice A4 a.shyps.length c4) (sp := .slice A5 a.spairs.length c5) (pr := .slice A6 a.proof.length c6) hBx; have xl := blk_lt hBx; have HB3 := Lib.hid hB3; have Hb3 := Lib.hid hb3; have Ho3 := Lib.hid ho3; clear hBx hB3 hb3 ho3)))
      go_roundw
      case rel =>
        have hB3 := HB3.out
        rw [byteCells_str] at hB3
        have h12 := Hs1.out.trans Hs12.out
        refine ⟨k + 1, a.end_.at_.off + a.end_.text.size, bs ++ (t.extract p a.at_.at_.off).data.toList, hlt, by go_num, by go_num, .inr hB3, ?_, HO2.out, ?_, (Hrow.out.same h12 (by simp)).others Ho3.out (by decide) Hbr.out, (Hsm.out.trans h12).below' Hb3.out⟩
        · have := ext_len t p a.at_.at_.off
          rw [List.length_append]
          have e1 : (t.extract p a.at_.at_.off).data.toList.length = (t.extract p a.at_.at_.off).size := by rw [Array.length_toList]; rfl
          rw [e1]
          omega
        · rw [← Hcut.out]
          simp [cutOf]
      case measure => simp [intOf]; omega
    · have hkk : k = l.length := by omega
      subst hkk
      have hd : pickA L (l.drop l.length) = [] := by simp [pickA]
      rw [hd] at hO hcut
      have hO2 : p ≤ t.size := hO
      have Hcut := Lib.hid hcut
      have HB := Lib.hid hB
      have Hsm := Lib.hid hsm
      clear hd hO hcut hB hrow hsm H0
      go_wp2_with (first
        | (go_at_call 38; go_must (refine (WriteString_calls w.heap.size bb (Lib.byteCells bs) _ wr HB.out (by have := ext_len t p t.size; rw [Lib.byteCells_length]; exact Nat.le_trans (Nat.add_le_add hbl this) (by omega)) Hsm.out.size).mono ?_; rintro e3 W3 ⟨rfl, hB3, hb3, ho3⟩; rw [byteCells_str] at hB3; obtain ⟨ys, hys⟩ : ∃ ys, bs ++ (t.extract p t.size).data.toList = ys := ⟨_, rfl⟩; rw [hys] at hB3; have Hys := Lib.hid (show ys = cutOf t (pickA L l) 0 from hys.symm.trans Hcut.out); clear hys; have HB3 := Lib.hid hB3; have Hb3 := Lib.hid hb3; clear hB3 hb3 ho3))
        | (go_at_call 39; go_must (refine (Tryz.Builder_String_any_k w.heap.size bb _ W3 (.inr HB3.out) (Nat.le_trans Hsm.out.size Hb3.out.size)).mono ?_; rintro e4 W4 ⟨rfl, -, hb4, -⟩; have Hb4 := Lib.hid hb4; clear hb4)))
      go_ret2
      refine ⟨?_, (Hsm.out.below' Hb3.out).below' Hb4.out⟩
      rw [← Hys.out]
      rfl
end Go.Proofs.YtdhkmfpfbjcdiaaGreatDoor
namespace Go.Proofs.YtdhkmfpfbjcdiaaGreatDoor
open Go.RowKit
def aliveT : ByteArray := ⟨#[36, 99, 32, 119, 102, 102, 32, 40, 32, 41, 32, 45, 62, 32, 36, 46, 32, 36, 118, 32, 120, 32, 36, 46, 32, 119, 120, 32, 36, 102, 32, 119, 102, 102, 32, 120, 32, 36, 46, 32, 119, 105, 32, 36, 97, 32, 119, 102, 102, 32, 40, 32, 120, 32, 45, 62, 32, 120, 32, 41, 32, 36, 46, 10, 116, 49, 32, 36, 112, 32, 119, 102, 102, 32, 40, 32, 40, 32, 120, 32, 45, 62, 32, 120, 32, 41, 32, 45, 62, 32, 40, 32, 120, 32, 45, 62, 32, 120, 32, 41, 32, 41, 32, 36, 61, 32, 119, 120, 32, 119, 105, 32, 119, 105, 32, 36, 46, 10, 116, 51, 32, 36, 112, 32, 119, 102, 102, 32, 120, 32, 36, 61, 32, 119, 120, 32, 36, 46, 10]⟩
def aliveS : ByteArray := ⟨#[36, 99, 32, 119, 102, 102, 32, 40, 32, 41, 32, 45, 62, 32, 36, 46, 32, 36, 118, 32, 120, 32, 36, 46, 32, 119, 120, 32, 36, 102, 32, 119, 102, 102, 32, 120, 32, 36, 46, 32, 10, 10, 116, 51, 32, 36, 112, 32, 119, 102, 102, 32, 120, 32, 36, 61, 32, 119, 120, 32, 36, 46, 10]⟩
def ordB (n : Nat) : List Asr → Nat → Bool
  | [], p => decide (p ≤ n)
  | a :: r, p => decide (p ≤ a.at_.at_.off) && decide (a.at_.at_.off ≤ a.end_.at_.off + a.end_.text.size) && ordB n r (a.end_.at_.off + a.end_.text.size)
theorem ordB_iff {n : Nat} : ∀ {l : List Asr} {p : Nat}, ordB n l p = true → OrdA n l p
  | [], p, h => (of_decide_eq_true h : p ≤ n)
  | a :: r, _, h => by
    simp only [ordB, Bool.and_eq_true, decide_eq_true_eq] at h
    exact ⟨h.1.1, h.1.2, ordB_iff h.2⟩
def onOk (x : Except Flt Bs) (f : Bs → Bool) : Bool := match x with | .ok B => f B | .error _ => false
theorem onOk_ok {x : Except Flt Bs} {f : Bs → Bool} (h : onOk x f = true) : ∃ B, x = .ok B ∧ f B = true := by
  cases x with
  | ok B => exact ⟨B, rfl, h⟩
  | error e => cases h
theorem load_text {t : ByteArray} {B : Bs} (h : loadOf t = .ok B) : B.text = t := by
  unfold loadOf at h
  split at h
  · cases h
  · split at h
    · cases h
    · split at h
      · cases h
      · cases h; rfl
theorem alive_fact : onOk (loadOf aliveT) (fun B => decide (0 < B.ld.asserts.length) && decide (fallsOf B.ld.asserts 0 = [0, 1]) && decide ((withoutOf B 0).data.toList = aliveS.data.toList) && ordB B.text.size (pickA B.ld.asserts (fallsOf B.ld.asserts 0)) 0) = true := by kernel_rfl
theorem num_calls (w : World) (n : Int) (hn : -9223372036854775808 ≤ n ∧ n ≤ 9223372036854775807) : Calls Tryz.prog 15 #[.int .i64 n] w fun e w' => e = .returned (.int .i64 n) ∧ w' = w := by
  go_enter Tryz.func15, Tryz.ntmps15
  go_wp2
  go_ret
  exact ⟨rfl, rfl⟩
theorem row_lit (w : World) (ys : List Value) (e n : Nat) (hn : ys.length = n) (hm : n ≤ maxLen) : Row (w.alloc (.cells ys.toArray e)) e 1 (.slice (some ⟨w.heap.size, 0, none⟩) n n) n ys :=
  ⟨by omega, .inr ⟨_, n, _, rfl, Nat.zero_le _, blk_new _ _, Nat.le_refl _, hm, by simp [hn], by simp [← hn]⟩⟩
def SamI (w : World) (la lb : List Int) (u : Value) (W : World) : Prop := ∃ k : Nat, k ≤ la.length ∧ u = .int .i64 k ∧ la.take k = lb.take k ∧ Same [] w W
theorem int_elem {w : World} {A : Option Addr} {c n : Nat} {l : List Int} (h : Row w 3 1 (.slice A n c) n (intCells l)) {k : Nat} (hk : k < l.length) : ∃ g, A = some ⟨g, 0, none⟩ ∧ w.cell? ⟨g, k, none⟩ = some (.int .i64 l[k]) ∧ w.frozen? ⟨g, k, none⟩ = false := by
  have hl : l.length = n := by have := h.1; rw [intCells_len] at this; omega
  obtain ⟨g, c', hv, h1, h2⟩ := h.cell (j := k) (by omega)
  cases hv
  exact ⟨g, rfl, by rw [h1, intCells_at l k hk], h2⟩
set_option maxHeartbeats 2000000 in
theorem sameInts_calls (w : World) (va vb : Value) (la lb : List Int) (ha : Row w 3 1 va la.length (intCells la)) (hb : Row w 3 1 vb lb.length (intCells lb)) (hla : la.length ≤ 1000000) (hlb : lb.length ≤ 1000000) :
    Calls Tryz.prog 14 #[va, vb] w fun e w' => e = .returned (.bool (decide (la = lb))) ∧ Same [] w w' := by
  obtain ⟨A1, c1, rfl⟩ := ha.shape
  obtain ⟨A2, c2, rfl⟩ := hb.shape
  have Ha := Lib.hid ha
  have Hb := Lib.hid hb
  clear ha hb
  by_cases hl : la.length = lb.length
  · have Hl := Lib.hid hl
    have hli : ((la.length : Int) != (lb.length : Int)) = false := by simp [hl]
    clear hl
    go_enter Tryz.func14, Tryz.ntmps14
    go_wp2
    have h0 : SamI w la lb (.int .i64 0) w := ⟨0, Nat.zero_le _, rfl, by simp, Same.refl _ _⟩
    have H0 := Lib.hid h0
    clear h0
    go_loopw [5] (fun u wr => SamI w la lb u wr) (fun u _ => la.length - (intOf u).toNat)
    case atStart => exact H0.out
    case round =>
      obtain ⟨k, hk, rfl, htk, hsm⟩ := hrel
      by_cases hlt : k < la.length
      · have hlb : k < lb.length := by rw [← Hl.out]; exact hlt
        obtain ⟨g1, rfl, x1, x2⟩ := int_elem (Ha.out.same hsm (by simp)) hlt
        obtain ⟨g2, rfl, y1, y2⟩ := int_elem (Hb.out.same hsm (by simp)) hlb
        have e1 : la.take (k + 1) = la.take k ++ [la[k]] := List.take_succ_eq_append_getElem hlt
        have e2 : lb.take (k + 1) = lb.take k ++ [lb[k]] := List.take_succ_eq_append_getElem hlb
        have hgl1 := World.block_lt_of_cell? _ _ x1
        have hgl2 := World.block_lt_of_cell? _ _ y1
        have Hsm := Lib.hid hsm
        by_cases he : la[k] = lb[k]
        · rw [← he] at y1 e2
          have Htk : Hid (la.take (k + 1) = lb.take (k + 1)) := Lib.hid (by rw [e1, e2, htk])
          clear he e1 e2 htk hsm H0
          go_wp2
          go_quiet (fail)
          go_wp2
          go_roundw
          case rel => exact ⟨k + 1, hlt, by go_num, Htk.out, Hsm.out.trans (Same.drewN _ _ _)⟩
          case measure => simp [intOf]; omega
        · have hd : decide (la = lb) = false := decide_eq_false fun e => he (by subst e; rfl)
          have hb : (la[k] != lb[k]) = true := by simpa using he
          have Hd := Lib.hid hd
          generalize la[k] = a at x1 hb
          generalize lb[k] = b at y1 hb
          clear he e1 e2 htk hsm hd H0
          go_wp2
          go_quiet (fail)
          go_wp2
          go_ret
          exact ⟨by rw [Hd.out]; rfl, Hsm.out.trans (Same.drewN _ _ _)⟩
      · have hkk : k = la.length := by omega
        subst hkk
        have hd : decide (la = lb) = true := decide_eq_true (by rw [List.take_length, Hl.out, List.take_length] at htk; exact htk)
        have Hd := Lib.hid hd
        have Hsm := Lib.hid hsm
        clear hd htk hsm H0
        go_wp2
        go_ret
        exact ⟨by rw [Hd.out]; rfl, Hsm.out⟩
  · have hd : decide (la = lb) = false := decide_eq_false fun e => hl (by rw [e])
    rw [hd]
    have hli : ((la.length : Int) != (lb.length : Int)) = true := by simp; omega
    clear hl hd
    go_enter Tryz.func14, Tryz.ntmps14
    go_wp2
    go_ret
    exact ⟨rfl, Same.refl _ _⟩
set_option maxHeartbeats 8000000 in
theorem alive_calls (w : World) (hb : Blanks w) (hl : LibCell w) : Calls Tryz.prog 6 #[] w fun e w' => e = .returned (.bool true) ∧ Same [] w w' := by
  obtain ⟨B, hB, hf⟩ := onOk_ok alive_fact
  simp only [Bool.and_eq_true, decide_eq_true_eq] at hf
  obtain ⟨⟨⟨h1, h2⟩, h3⟩, h4⟩ := hf
  have hO := ordB_iff h4
  have hN := (load_nice hB).1
  have ht := load_text hB
  have hld := Load_calls aliveT w (by decide) hb hl
  unfold LoadR at hld
  rw [hB] at hld
  have hw : withoutOf B 0 = aliveS := by
    have e : ∀ x y : ByteArray, x.data.toList = y.data.toList → x = y := fun x y h => by
      cases x; cases y
      exact congrArg ByteArray.mk (Array.toList_inj.1 h)
    exact e _ _ h3
  have hfl := fun (W : World) nb P (hA : BsAt W nb P B) => Falls_calls W nb P B hA hN 0 h1
  have hwt := fun (W : World) nb P (hA : BsAt W nb P B) => Without_calls W nb P B hA hN 0 h1 (by rw [ht]; decide) hO
  unfold FallsR at hfl
  rw [h2] at hfl
  rw [hw] at hwt
  unfold aliveS at hwt
  clear hO hN ht hb hl h1 h2 h3 h4 hw
  go_enter Tryz.func6, Tryz.ntmps6
  go_wp2_with (first
    | (go_at_call 8; go_must (refine hld.mono ?_; rintro e1 W1 ⟨hs1, nb, P, rfl, hA⟩; have HA := Lib.hid hA; have Hs1 := Lib.hid hs1; clear hA hs1))
    | (go_at_call 10; go_must (refine (hfl _ nb P HA.out).mono ?_; rintro e2 W2 ⟨v2, rfl, hr2, hf2, hs2⟩; obtain ⟨A2, c2, rfl⟩ := hr2.shape; have Hr2 := Lib.hid hr2; have Hs2 := Lib.hid hs2; clear hr2 hf2 hs2))
    | (go_at_call 12; go_must (refine (hwt _ nb P (HA.out.same Hs2.out)).mono ?_; rintro e3 W3 ⟨rfl, hs3⟩; have Hs3 := Lib.hid hs3; clear hs3))
    | (go_at_call 15; go_must (refine (num_calls W3 0 (by decide)).mono ?_; rintro e4 W4 ⟨rfl, hw4⟩; have hw5 := hw4.symm; subst hw5; clear hw4))
    | (go_at_call 14; go_must (refine (sameInts_calls _ _ _ [0, 1] [0, 1] ((Hr2.out.same Hs3.out (by simp)).same (Same.alloc [] W3 (.cells #[.int .i64 0, .int .i64 1] 3)) (by simp)) (row_lit W3 [.int .i64 0, .int .i64 1] 3 2 rfl (by decide)) (by decide) (by decide)).mono ?_; rintro e5 W5 ⟨rfl, hs5⟩; have Hs5 := Lib.hid hs5; clear hs5)))
  go_ret
  exact ⟨rfl, (((Hs1.out.trans Hs2.out).trans Hs3.out).trans (Same.alloc [] _ _)).trans Hs5.out⟩
end Go.Proofs.YtdhkmfpfbjcdiaaGreatDoor
namespace Go.Proofs.YtdhkmfpfbjcdiaaGreatDoor
open Go.RowKit
section
variable {P : Program} {ops : Array Oper} {rest : List Oper} {o : Oper} {a : Act} {Q : Exit → Act → World → Prop}
theorem run_app2 {W : World} (t ty e k bytes : Nat) (z : Value) (ht : P.underlying t = some (.slice e)) (hinfo : (P.info? e).map (fun i => (i.zero, i.size, i.bytes)) = some (some z, k, bytes)) (hz : z.cells.size = k) (hk : 0 < k)
    (v : Value) (n : Nat) (xs : List Value) (hown : Row W e k v n xs) (ad : Addr) (m c : Nat) (news : List Value) (hl : news.length = m * k) (hnews : ∀ j u, news[j]? = some u → W.cell? (ad.add j) = some u) (h1 : ∀ u ∈ news, u.oneCell' = true)
    (h63 : n + m ≤ maxLen) (hbytes : (n + m) * bytes ≤ 140737488355328) :
    ∃ v' w', (Builtin.append_ #[t, t] ty #[v, .slice (some ad) m c]).run P W = .ok v' w' ∧ Row w' e k v' (n + m) (xs ++ news) ∧ Same v.ownBlock.toList W w' ∧ (v'.ownBlock = v.ownBlock ∨ (v'.ownBlock = some W.heap.size ∧ Same [] W w')) := by
  obtain ⟨i, hi, hz0, hz1, hz2⟩ := info_split hinfo
  obtain ⟨v', w', hr, h2, h3, h4, h5⟩ := run_append_own_at (P := P) W 0 t ty e i z k bytes ht hi hz0 hz1 hz2 hz hk v n xs hown ad m c news hl hnews h1 h63 hbytes (Nat.zero_le _)
  have hs := Same.of_grown h3
  refine ⟨v', w', hr, h2, hs, ?_⟩
  rcases hown.2 with ⟨rfl, rfl⟩ | ⟨g, cap, cur, rfl, hbg, hg, hnc, hcm, hcs, htake⟩
  · rcases h5 with h5 | h5
    · exact .inl h5
    · exact .inr ⟨h5, hs⟩
  · by_cases hroom : n + m ≤ cap
    · have hfit : n * i.size + news.length ≤ cur.size := by rw [hl, hcs, hz1, ← Nat.add_mul]; exact Nat.mul_le_mul_right _ hroom
      have hr2 := run_append_room (P := P) W t ty e i ht hi g n cap cur hg ad m c news (by rw [hz1]; exact hl) hnews h1 hroom hfit
      rw [hr] at hr2
      cases hr2
      exact .inl rfl
    · have holds : ∀ j u, xs[j]? = some u → W.cell? ((⟨g, 0, none⟩ : Addr).add j) = some u := hown.cells (g := g) rfl
      have hr2 := run_append_grow (P := P) W t ty e i z ht hi hz0 ⟨g, 0, none⟩ n cap xs (by rw [hz1]; exact hown.1) holds ad m c news (by rw [hz1]; exact hl) hnews (by omega) (by simp only [maxLen] at h63; omega) (growslice_fits (by omega) (by rw [hz2]; exact hbytes))
      rw [hr] at hr2
      cases hr2
      exact .inr ⟨rfl, (Same.drew [] W).trans (Same.alloc [] W.drew _)⟩
theorem wp_app2 {W : World} (hgd : o.guard = none) (s x : Operand) (t : TypeId) (ho : o.op = .call { callee := .builtin .append, args := #[s, x], argTypes := #[t, t] })
    (e k bytes : Nat) (z : Value) (ht : P.underlying t = some (.slice e)) (hinfo : (P.info? e).map (fun i => (i.zero, i.size, i.bytes)) = some (some z, k, bytes)) (hz : z.cells.size = k) (hk : 0 < k)
    (v : Value) (n : Nat) (xs : List Value) (hs : a.eval s = v) (hown : Row W e k v n xs) (ad : Addr) (m c : Nat) (hx : a.eval x = .slice (some ad) m c) (news : List Value) (hl : news.length = m * k) (hnews : ∀ j u, news[j]? = some u → W.cell? (ad.add j) = some u) (h1 : ∀ u ∈ news, u.oneCell' = true)
    (h63 : n + m ≤ maxLen) (hbytes : (n + m) * bytes ≤ 140737488355328)
    (h : ∀ v' w', Row w' e k v' (n + m) (xs ++ news) → Same v.ownBlock.toList W w' → (v'.ownBlock = v.ownBlock ∨ (v'.ownBlock = some W.heap.size ∧ Same [] W w')) → wpList P ops Q rest (a.put o.dst v') w') :
    wpList P ops Q (o :: rest) a W := by
  refine wpList_plain hgd fun K hK => ?_
  obtain ⟨v', w', hr, h2, h3, h4⟩ := run_app2 (P := P) t o.type e k bytes z ht hinfo hz hk v n xs hown ad m c news hl hnews h1 h63 hbytes
  unfold Oper.wp execOp
  simp only [ho, resolve, invoke, builtin, Sem.run_bind, Sem.run_pure, Result.andThen_ok, List.map_toArray, List.map_cons, List.map_nil, hs, hx, hr]
  exact hK _ _ (h v' w' h2 h3 h4)
theorem wp_push2 {W : World} (hgd : o.guard = none) (s x : Operand) (t : TypeId) (ho : o.op = .call { callee := .builtin .append, args := #[s, x], argTypes := #[t, t] })
    (e k bytes : Nat) (z : Value) (ht : P.underlying t = some (.slice e)) (hinfo : (P.info? e).map (fun i => (i.zero, i.size, i.bytes)) = some (some z, k, bytes)) (hz : z.cells.size = k) (hk : 0 < k)
    (v : Value) (n : Nat) (xs : List Value) (hs : a.eval s = v) (hown : Row W e k v n xs) (ys : List Value) (hx : a.eval x = .slice (some ⟨W.heap.size, 0, none⟩) 1 1) (hl : ys.length = k) (h1 : ∀ u ∈ ys, u.oneCell' = true)
    (hn : (n + 1) * bytes ≤ 140737488355328) (hb : 0 < bytes)
    (h : ∀ v' w', Row w' e k v' (n + 1) (xs ++ ys) → Same v.ownBlock.toList W w' → (v'.ownBlock = v.ownBlock ∨ ((∃ b, v'.ownBlock = some b ∧ W.heap.size ≤ b) ∧ Same [] W w')) → wpList P ops Q rest (a.put o.dst v') w') :
    wpList P ops Q (o :: rest) a (W.alloc (.cells ys.toArray e)) := by
  have hlen : n + 1 ≤ 140737488355328 := Nat.le_trans (Nat.le_mul_of_pos_right _ hb) hn
  refine wp_app2 hgd s x t ho e k bytes z ht hinfo hz hk v n xs hs (hown.same (Same.alloc [] W _) (by simp)) ⟨W.heap.size, 0, none⟩ 1 1 hx ys (by simpa using hl) (cells_new W ys e) h1 (by simp only [maxLen]; omega) hn ?_
  intro v' w' hr hs2 ho2
  refine h v' w' hr ((Same.alloc _ W _).trans hs2) ?_
  rcases ho2 with ho2 | ⟨ho2, hs3⟩
  · exact .inl ho2
  · exact .inr ⟨⟨_, ho2, by simp⟩, (Same.alloc _ W _).trans hs3⟩
end
end Go.Proofs.YtdhkmfpfbjcdiaaGreatDoor
namespace Go.Proofs.YtdhkmfpfbjcdiaaGreatDoor
open Go.RowKit
theorem inS_fallStep {s : ByteArray} {p : List ByteArray × Bool} (h : inS s p.1 = true) (a : Asr) : inS s (fallStep p a).1 = true := by
  unfold fallStep
  split
  · exact h
  · split
    · rw [inS_snoc, h]; rfl
    · exact h
theorem inS_fallFold {s : ByteArray} : ∀ (l : List Asr) (p : List ByteArray × Bool), inS s p.1 = true → inS s (l.foldl fallStep p).1 = true
  | [], p, h => h
  | a :: l, p, h => inS_fallFold l _ (inS_fallStep h a)
theorem inS_fallGo {s : ByteArray} (L : List Asr) : ∀ (f : Nat) (S : List ByteArray), inS s S = true → inS s (fallGo L f S) = true
  | 0, S, h => h
  | f + 1, S, h => by
    have h2 := inS_fallFold L (S, false) h
    rw [fallGo]
    split
    · exact inS_fallGo L f _ h2
    · exact h2
theorem outTo_mem (S : List ByteArray) (L : List Asr) {k : Nat} (hk : k < L.length) (h : inS L[k].label S = true) : ∀ m, k < m → m ≤ L.length → (k : Int) ∈ outTo S L m
  | 0, h1, _ => by omega
  | m + 1, h1, h2 => by
    rw [outTo_step S L m (by omega)]
    by_cases hm : k = m
    · subst hm
      rw [if_pos h]
      simp
    · have := outTo_mem S L hk h m (by omega) (by omega)
      split
      · exact List.mem_append_left _ this
      · exact this
theorem fallsOf_self (L : List Asr) (n : Nat) (hn : n < L.length) : (n : Int) ∈ fallsOf L n := by
  rw [falls_eq L n hn]
  exact outTo_mem _ _ hn (inS_fallGo L _ _ (by simp [inS, setM, aget])) _ hn (Nat.le_refl _)
structure PF (w0 W : World) (l : List Int) (gx cx : Nat) (lx : List Int) (gy cy : Nat) (ly : List Int) (wv : Value) : Prop where
  rx : Row W 3 1 (.slice (some ⟨gx, 0, none⟩) l.length cx) l.length (intCells lx)
  ry : Row W 3 1 (.slice (some ⟨gy, 0, none⟩) l.length cy) l.length (intCells ly)
  rw : Row W 3 1 wv l.length (intCells l)
  same : Same [] w0 W
  fx : w0.heap.size ≤ gx
  fy : w0.heap.size ≤ gy
  xy : gx ≠ gy
  wx : wv.ownBlock ≠ some gx
  wy : wv.ownBlock ≠ some gy
theorem PF.swap {w0 W : World} {l : List Int} {gx cx : Nat} {lx : List Int} {gy cy : Nat} {ly : List Int} {wv : Value} (h : PF w0 W l gx cx lx gy cy ly wv) : PF w0 W l gy cy ly gx cx lx wv := ⟨h.ry, h.rx, h.rw, h.same, h.fy, h.fx, h.xy.symm, h.wy, h.wx⟩
theorem intCells_set (l : List Int) (k : Nat) (x : Int) : (intCells l).set k (.int .i64 x) = intCells (l.set k x) := by simp [intCells, List.map_set]
theorem PF.setX {w0 W : World} {l : List Int} {gx cx : Nat} {lx : List Int} {gy cy : Nat} {ly : List Int} {wv : Value} (h : PF w0 W l gx cx lx gy cy ly wv) {k : Nat} (hk : k < l.length) (x : Int) : PF w0 (W.setCell ⟨gx, k, none⟩ (.int .i64 x)) l gx cx (lx.set k x) gy cy ly wv := by
  have hs : Same [gx] W (W.setCell ⟨gx, k, none⟩ (.int .i64 x)) := Same.setCell _ _ _ (by simp)
  refine ⟨?_, h.ry.same hs fun b hb hm => ?_, h.rw.same hs fun b hb hm => ?_, h.same.then hs (by simp [h.fx]), h.fx, h.fy, h.xy, h.wx, h.wy⟩
  · rw [← intCells_set]; exact h.rx.set1 (by omega) _
  · simp at hm; subst hm; simp [Value.ownBlock] at hb; exact h.xy hb.symm
  · simp at hm; subst hm; exact h.wx hb
theorem PF.cellX {w0 W : World} {l : List Int} {gx cx : Nat} {lx : List Int} {gy cy : Nat} {ly : List Int} {wv : Value} (h : PF w0 W l gx cx lx gy cy ly wv) {k : Nat} (hk : k < l.length) : (∃ v, W.cell? ⟨gx, k, none⟩ = some v) ∧ W.frozen? ⟨gx, k, none⟩ = false ∧ gx < W.heap.size := by
  obtain ⟨g, c, hv, h1, h2⟩ := h.rx.cell (j := k) (by omega)
  cases hv
  exact ⟨⟨_, h1⟩, h2, World.block_lt_of_cell? _ _ h1⟩
def marked (l : List Int) (p : Int) (k : Nat) : List Int := List.replicate k p ++ l.drop k
theorem marked_set (l : List Int) (p : Int) (k : Nat) (hk : k < l.length) : (marked l p k).set k p = marked l p (k + 1) := by
  unfold marked
  rw [List.set_append_right _ _ (by simp), List.length_replicate, Nat.sub_self, List.drop_eq_getElem_cons hk, List.set_cons_zero, List.replicate_succ']
  simp
def PI1 (w0 : World) (l : List Int) (gx cx gy cy : Nat) (wv : Value) (u : Value) (W : World) : Prop := ∃ k : Nat, k ≤ l.length ∧ u = .int .i64 k ∧ PF w0 W l gx cx (marked l (-11) k) gy cy l wv
def PI2 (w0 : World) (l : List Int) (gx cx gy cy : Nat) (wv : Value) (u : Value) (W : World) : Prop := ∃ k : Nat, k ≤ l.length ∧ u = .int .i64 k ∧ PF w0 W l gx cx (List.replicate l.length (-11)) gy cy (marked l (-22) k) wv
structure PG (w0 W : World) (l : List Int) (gx gy : Nat) (wv cv : Value) (m : Nat) (p : Int) (dv : Value) (m' : Nat) (q : Int) : Prop where
  rc : Row W 3 1 cv (l.length + m) (intCells (List.replicate (l.length + m) p))
  rd : Row W 3 1 dv (l.length + m') (intCells (List.replicate (l.length + m') q))
  rw : Row W 3 1 wv l.length (intCells l)
  hx : ∀ i, i < l.length → W.cell? ⟨gx, i, none⟩ = some (.int .i64 p)
  hy : ∀ i, i < l.length → W.cell? ⟨gy, i, none⟩ = some (.int .i64 q)
  lx : gx < W.heap.size
  ly : gy < W.heap.size
  same : Same [] w0 W
  fc : FreshB w0 cv
  fd : FreshB w0 dv
  cd : ∀ b, cv.ownBlock = some b → dv.ownBlock ≠ some b
  cy : cv.ownBlock ≠ some gy
  dx : dv.ownBlock ≠ some gx
  cw : ∀ b, cv.ownBlock = some b → wv.ownBlock ≠ some b
  dw : ∀ b, dv.ownBlock = some b → wv.ownBlock ≠ some b
theorem PG.swap {w0 W : World} {l : List Int} {gx gy : Nat} {wv cv : Value} {m : Nat} {p : Int} {dv : Value} {m' : Nat} {q : Int} (h : PG w0 W l gx gy wv cv m p dv m' q) : PG w0 W l gy gx wv dv m' q cv m p :=
  ⟨h.rd, h.rc, h.rw, h.hy, h.hx, h.ly, h.lx, h.same, h.fd, h.fc, fun b hb hc => h.cd b hc hb, h.dx, h.cy, h.dw, h.cw⟩
theorem PF.pg {w0 W : World} {l : List Int} {gx cx gy cy : Nat} {wv : Value} {p q : Int} (h : PF w0 W l gx cx (List.replicate l.length p) gy cy (List.replicate l.length q) wv) (h0 : 0 < l.length) : PG w0 W l gx gy wv (.slice (some ⟨gx, 0, none⟩) l.length cx) 0 p (.slice (some ⟨gy, 0, none⟩) l.length cy) 0 q := by
  have hc : ∀ {g c : Nat} {r : Int}, Row W 3 1 (.slice (some ⟨g, 0, none⟩) l.length c) l.length (intCells (List.replicate l.length r)) → ∀ i, i < l.length → W.cell? ⟨g, i, none⟩ = some (.int .i64 r) := fun {g c r} hr i hi => by
    obtain ⟨g', hg, h1, -⟩ := int_elem hr (k := i) (by simpa using hi)
    cases hg
    simpa using h1
  refine ⟨h.rx, h.ry, h.rw, hc h.rx, hc h.ry, h.rx.lt rfl, h.ry.lt rfl, h.same, ?_, ?_, ?_, ?_, ?_, ?_, ?_⟩
  · intro b hb; simp [Value.ownBlock] at hb; subst hb; exact h.fx
  · intro b hb; simp [Value.ownBlock] at hb; subst hb; exact h.fy
  · intro b hb hc; simp [Value.ownBlock] at hb hc; subst hb; exact h.xy hc.symm
  · intro hb; simp [Value.ownBlock] at hb; exact h.xy hb
  · intro hb; simp [Value.ownBlock] at hb; exact h.xy hb.symm
  · intro b hb hc; simp [Value.ownBlock] at hb; subst hb; exact h.wx hc
  · intro b hb hc; simp [Value.ownBlock] at hb; subst hb; exact h.wy hc
theorem PG.next {w0 W W' : World} {l : List Int} {gx gy : Nat} {wv cv : Value} {m : Nat} {p : Int} {dv : Value} {m' : Nat} {q : Int} (h : PG w0 W l gx gy wv cv m p dv m' q) (hs : Same [] W W') : PG w0 W' l gx gy wv cv m p dv m' q :=
  ⟨h.rc.same hs (by simp), h.rd.same hs (by simp), h.rw.same hs (by simp), fun i hi => hs.cell (h.hx i hi) (by simp), fun i hi => hs.cell (h.hy i hi) (by simp), Nat.lt_of_lt_of_le h.lx hs.size, Nat.lt_of_lt_of_le h.ly hs.size, h.same.trans hs, h.fc, h.fd, h.cd, h.cy, h.dx, h.cw, h.dw⟩
theorem PG.push {w0 W W' : World} {l : List Int} {gx gy : Nat} {wv cv : Value} {m : Nat} {p : Int} {dv : Value} {m' : Nat} {q : Int} (h : PG w0 W l gx gy wv cv m p dv m' q) {v' : Value}
    (hr : Row W' 3 1 v' (l.length + m + 1) (intCells (List.replicate (l.length + m) p) ++ [.int .i64 p])) (hs : Same cv.ownBlock.toList W W') (ho : v'.ownBlock = cv.ownBlock ∨ ((∃ b, v'.ownBlock = some b ∧ W.heap.size ≤ b) ∧ Same [] W W')) : PG w0 W' l gx gy wv v' (m + 1) p dv m' q := by
  have hr' : Row W' 3 1 v' (l.length + (m + 1)) (intCells (List.replicate (l.length + (m + 1)) p)) := by
    rw [← Nat.add_assoc, List.replicate_succ', intCells_snoc]
    exact hr
  have hold : ∀ b, cv.ownBlock ≠ some b → b ∉ cv.ownBlock.toList := fun b hb hm => hb (Option.mem_toList.1 hm)
  have hnew : ∀ b, v'.ownBlock = some b → cv.ownBlock = some b ∨ W.heap.size ≤ b := fun b hb => by
    rcases ho with ho | ⟨⟨b', h1, h2⟩, -⟩
    · exact .inl (ho ▸ hb)
    · rw [h1] at hb; cases hb; exact .inr h2
  refine ⟨hr', h.rd.same hs fun b hb => hold b fun hc => h.cd b hc hb, h.rw.same hs fun b hb => hold b fun hc => h.cw b hc hb, fun i hi => ?_, fun i hi => hs.cell (h.hy i hi) (hold _ h.cy), Nat.lt_of_lt_of_le h.lx hs.size, Nat.lt_of_lt_of_le h.ly hs.size, h.same.then hs fun x hx => .inr (h.fc x (Option.mem_toList.1 hx)), fun b hb => ?_, h.fd, fun b hb hd => ?_, fun hb => ?_, h.dx, fun b hb hw => ?_, h.dw⟩
  · rcases ho with ho | ⟨-, h2⟩
    · by_cases hg : cv.ownBlock = some gx
      · obtain ⟨A, c, rfl⟩ := hr'.shape
        obtain ⟨g, hA, h1, -⟩ := int_elem hr' (k := i) (by simp; omega)
        subst hA
        rw [hg] at ho
        simp [Value.ownBlock] at ho
        subst ho
        simpa using h1
      · exact hs.cell (h.hx i hi) (hold _ hg)
    · exact h2.cell (h.hx i hi) (by simp)
  · rcases hnew b hb with h1 | h1
    · exact h.fc b h1
    · exact Nat.le_trans h.same.size h1
  · rcases hnew b hb with h1 | h1
    · exact h.cd b h1 hd
    · have := h.rd.lt hd; omega
  · rcases hnew gy hb with h1 | h1
    · exact h.cy h1
    · have := h.ly; omega
  · rcases hnew b hb with h1 | h1
    · exact h.cw b h1 hw
    · have := h.rw.lt hw; omega
def PI3 (w0 : World) (l : List Int) (gx gy : Nat) (wv dv : Value) (v u : Value) (W : World) : Prop := ∃ k : Nat, k ≤ 70 ∧ u = .int .i64 k ∧ PG w0 W l gx gy wv v k (-11) dv 0 (-22)
def PI4 (w0 : World) (l : List Int) (gx gy : Nat) (wv cv : Value) (v u : Value) (W : World) : Prop := ∃ k : Nat, k ≤ 70 ∧ u = .int .i64 k ∧ PG w0 W l gx gy wv cv 70 (-11) v k (-22)
def PI5 (w0 : World) (l : List Int) (gx gy : Nat) (wv cv dv zv : Value) (u : Value) (W : World) : Prop := ∃ k : Nat, k ≤ l.length + 70 ∧ u = .int .i64 k ∧ PG w0 W l gx gy wv cv 70 (-11) dv 70 (-22) ∧ Row W 3 1 zv l.length (intCells l)
end Go.Proofs.YtdhkmfpfbjcdiaaGreatDoor
