/- lemmalaw texts, part 46. -/
import Derived.Test.YtdhkmfpfbjcdiaaGreatDoorYaa
import Derived.Test.YtdhkmfpfbjcdiaaGreatDoorYaj
import Derived.Test.YtdhkmfpfbjcdiaaGreatDoorYbs
import Derived.Lib.FrozenHead2
import Derived.Lib.OthersKept
import Derived.Shelf.Strings.BuilderK
set_option maxRecDepth 100000
set_option linter.unusedVariables false
set_option linter.unusedSimpArgs false
set_option maxHeartbeats 32000000
namespace Go.Proofs.YtdhkmfpfbjcdiaaGreatDoor
open Go.RowKit
theorem Tryz.sizeBld : (Tryz.prog.info? 105).map (·.size) = some 2 := by kernel_rfl
theorem Tryz.liesBld : liesAt Tryz.prog Tryz.prog.depth 105 (2 / Tryz.prog.cellsOf 105) 0 105 1 = true := by kernel_rfl
theorem Tryz.infoByte : (Tryz.prog.info? 5).map (fun i => (i.zero, i.size, i.bytes)) = some (some (.int .u8 0), 1, 1) := by kernel_rfl
theorem copyUsed (b : Nat) (w : World) (h0 : w.cell? ⟨b, 0, none⟩ = some (.pointer (some ⟨b, 0, none⟩))) :
  Calls Tryz.prog 85 #[.pointer (some ⟨b, 0, none⟩)] w fun e w' => e = .returned (.tuple #[]) ∧ w' = w := by
 obtain ⟨j, hj, _⟩ := Option.map_eq_some_iff.1 Tryz.sizeBld
 go_enter Tryz.func85, Tryz.ntmps85
 go_wp2
 rw [Lib.run_neq_ptr_same w _ Tryz.underlying102 hj]
 go_wp2
 go_end0
 exact ⟨rfl, rfl⟩
theorem copyFresh (b : Nat) (w : World) (h0 : w.cell? ⟨b, 0, none⟩ = some (.pointer none)) (hsh : w.shape? b = some (105, 2)) (hfz : w.frozen? ⟨b, 0, none⟩ = false) :
  Calls Tryz.prog 85 #[.pointer (some ⟨b, 0, none⟩)] w fun e w' => e = .returned (.tuple #[]) ∧ w' = w.setCell ⟨b, 0, none⟩ (.pointer (some ⟨b, 0, none⟩)) := by
 obtain ⟨j, hj, hjs⟩ := Option.map_eq_some_iff.1 Tryz.sizeBld
 go_enter Tryz.func85, Tryz.ntmps85
 go_wp2
 rw [Lib.run_to_unsafe w ⟨b, 0, none⟩ Tryz.underlying102 Tryz.underlying225 hj (by rw [hjs]; decide) hsh (Nat.zero_lt_succ 1)]
 simp only [Result.andThen]
 rw [Oper.upon_value]
 go_wp2
 rw [run_callFunc_extern Tryz.func145 (by kernel_rfl) (by kernel_rfl) (by kernel_rfl) (e := Extern.AbiNoEscape.same) (by kernel_rfl)]
 rw [Lib.run_noEscape]
 simp only [Result.andThen]
 rw [Oper.upon_value]
 go_wp2
 rw [Lib.run_from_unsafe w ⟨b, 0, none⟩ Tryz.underlying225 Tryz.underlying102 hj hsh Tryz.liesBld]
 simp only [Result.andThen]
 rw [Oper.upon_value]
 go_wp2
 have hne : (w.setCell ⟨b, 0, none⟩ (.pointer (some ⟨b, 0, none⟩))).cell? ⟨b, 0, none⟩ = some (.pointer (some ⟨b, 0, none⟩)) := by go_simp
 go_wp2
 go_end0
 exact ⟨rfl, rfl⟩
theorem copyK (B b : Nat) (bs : List Value) (w : World) (h : Lib.IsBuilderF 105 5 B b bs w) :
  Calls Tryz.prog 85 #[.pointer (some ⟨b, 0, none⟩)] w fun e w' => e = .returned (.tuple #[]) ∧ (Lib.BuilderAtF 105 5 B b (.pointer (some ⟨b, 0, none⟩)) bs w' ∧ Below B w w' ∧ Lib.OthersKept 5 (some b) w w') := by
 rcases h with h | h
 ·refine (copyFresh b w h.cell0 h.shape h.frozen0).mono ?_
  rintro e w' ⟨rfl, rfl⟩
  exact ⟨rfl, h.used _, (Below.refl B w).setCell (p := ⟨b, 0, none⟩) h.1 _, (Lib.OthersKept.refl _ _ w).setCell ⟨b, 0, none⟩ rfl _⟩
 ·refine (copyUsed b w h.cell0).mono ?_
  rintro e w' ⟨rfl, rfl⟩
  exact ⟨rfl, h, Below.refl B _, Lib.OthersKept.refl _ _ _⟩
theorem WriteString_calls (B b : Nat) (bs : List Value) (s : ByteArray) (w : World) (h : Lib.IsBuilderF 105 5 B b bs w) (hlen : bs.length + s.size ≤ 140737488355328) (hBw : B ≤ w.heap.size) :
  Calls Tryz.prog 38 #[.pointer (some ⟨b, 0, none⟩), .string s] w fun e w' => e = .returned (.tuple #[.int .i64 s.size, .nilIface]) ∧ (Lib.BuilderAtF 105 5 B b (.pointer (some ⟨b, 0, none⟩)) (bs ++ Lib.strCells s) w' ∧ Below B w w' ∧ Lib.OthersKept 5 (some b) w w') := by
 obtain ⟨i0, hi, hz0, hz1, hz2⟩ := info_split Tryz.infoByte
 go_enter Tryz.func38, Tryz.ntmps38
 go_wp2_with (go_at_call 85; refine (copyK B b bs _ h).mono ?_)
 rintro e w1 ⟨rfl, h1, hb1, hk1⟩
 obtain ⟨hB, v, hbk, hown, hne⟩ := h1
 have c0 : w1.cell? ⟨b, 0, none⟩ = some (.pointer (some ⟨b, 0, none⟩)) := by rw [Lib.cell_of_heap hbk]; rfl
 have c1 : w1.cell? ⟨b, 1, none⟩ = some v := by rw [Lib.cell_of_heap hbk]; rfl
 go_wp2_with (at_builtin; refine Lib.wpList_append_own_stringF _ rfl _ _ 103 9 rfl B 5 i0 Tryz.underlying103 Tryz.underlying9 hi hz0 hz1 hz2 _ _ _ rfl hown s rfl ?c3 ?c4 ?c5 ?_)
 case c3 => unfold maxLen; omega
 case c4 => omega
 case c5 => have := hb1.size; omega
 intro v' w2 hown' hgrow _
 have hlt : b < w1.heap.size := blk_lt hbk
 have hb2 : w2.heap[b]? = some (.cells #[.pointer (some ⟨b, 0, none⟩), v] 105 (0, 0)) := by
  rw [hgrow.block b hlt (fun e => hne e.symm)]
  exact hbk
 have d0 : w2.cell? ⟨b, 0, none⟩ = some (.pointer (some ⟨b, 0, none⟩)) := by rw [Lib.cell_of_heap hb2]; rfl
 have d1 : w2.cell? ⟨b, 1, none⟩ = some v := by rw [Lib.cell_of_heap hb2]; rfl
 have f1 : w2.frozen? ⟨b, 1, none⟩ = false := Lib.frozen_of_heap hb2 1
 obtain ⟨ao, n', cap, rfl⟩ : ∃ ao n' cap, v' = .slice ao n' cap := by
  rcases hown'.2 with ⟨hv, _⟩ | ⟨g, cap, cur, fz, hv, _⟩
  ·exact ⟨_, _, _, hv⟩
  ·exact ⟨_, _, _, hv⟩
 go_wp2
 go_ret2
 refine ⟨rfl, ?_, ?_, (hk1.grown hgrow (Lib.ownsRowF_kind hown)).setCell ⟨b, 1, none⟩ rfl _⟩
 ·exact Lib.BuilderAtF.put (T := 105) (e := 5) hB hb2 (bs' := bs ++ Lib.strCells s) (by simpa [Lib.strCells_length] using hown') (by decide)
 ·exact (hb1.grown hgrow (by have := hb1.size; omega) (fun k hk => (hown.lt k hk).1)).setCell (p := ⟨b, 1, none⟩) hB _
theorem Text_calls (w : World) (nb : Nat) (P : BP) (B : Bs) (h : BsAt w nb P B) : Calls Tryz.prog 20 #[.pointer (some ⟨nb, 0, none⟩)] w fun e w' => e = .returned (.string B.text) ∧ w' = w := by
 have n0 := blk_c (i := 0) (v := .string B.text) h.blk
 clear h
 go_enter Tryz.func20, Tryz.ntmps20
 go_wp2
 go_ret
 exact ⟨rfl, rfl⟩
def pickA (L : List Asr) (l : List Int) : List Asr := l.filterMap fun i => L[i.toNat]?
def cutOf (t : ByteArray) : List Asr → Nat → List UInt8
 | [], p => (t.extract p t.size).data.toList
 | a :: r, p => (t.extract p a.at_.at_.off).data.toList ++ cutOf t r (a.end_.at_.off + a.end_.text.size)
def OrdA (n : Nat) : List Asr → Nat → Prop
 | [], p => p ≤ n
 | a :: r, p => p ≤ a.at_.at_.off ∧ a.at_.at_.off ≤ a.end_.at_.off + a.end_.text.size ∧ OrdA n r (a.end_.at_.off + a.end_.text.size)
def withoutOf (B : Bs) (n : Nat) : ByteArray := ⟨(cutOf B.text (pickA B.ld.asserts (fallsOf B.ld.asserts n)) 0).toArray⟩
theorem mem_outTo (S : List ByteArray) (L : List Asr) : ∀ (k : Nat), ∀ i ∈ outTo S L k, ∃ m : Nat, i = m ∧ m < L.length
 | 0, i, h => by simp [outTo] at h
 | k + 1, i, h => by
  rw [outTo] at h
  split at h
  ·rename_i a ha
   split at h
   ·rcases List.mem_append.1 h with h | h
    ·exact mem_outTo S L k i h
    ·exact ⟨k, List.mem_singleton.1 h, (List.getElem?_eq_some_iff.1 ha).1⟩
   ·exact mem_outTo S L k i h
  ·exact mem_outTo S L k i h
theorem mem_fallsOf (L : List Asr) (n : Nat) : ∀ i ∈ fallsOf L n, ∃ m : Nat, i = m ∧ m < L.length := by
 intro i h
 unfold fallsOf at h
 split at h
 ·exact mem_outTo _ _ _ i h
 ·simp at h
theorem pickA_drop (L : List Asr) (l : List Int) (k : Nat) (hk : k < l.length) (m : Nat) (hm : l[k] = m) (hL : m < L.length) : pickA L (l.drop k) = L[m] :: pickA L (l.drop (k + 1)) := by
 unfold pickA
 rw [List.drop_eq_getElem_cons hk, List.filterMap_cons, hm]
 simp [hL]
theorem Same.below' {w W W' : World} (h : Same [] w W) (k : Below w.heap.size W W') : Same [] w W' :=
 ⟨k.os.trans h.os, k.tape.trans h.tape, k.output.trans h.output, Nat.le_trans h.size k.size, fun i hi _ => (k.block i hi).trans (h.block i hi (by simp))⟩
theorem BuilderAtF.same {T e : TypeId} {B b : Nat} {p : Value} {bs : List Value} {w w' : World} (h : Lib.BuilderAtF T e B b p bs w) (hs : Same [] w w') : Lib.BuilderAtF T e B b p bs w' := by
 obtain ⟨h1, v, h2, h3, h4⟩ := h
 refine ⟨h1, v, hs.get h2 (by simp), ⟨h3.1, ?_⟩, h4⟩
 rcases h3.2 with h | ⟨g, cap, cur, fz, e1, e2, e3, e4⟩
 ·exact .inl h
 ·exact .inr ⟨g, cap, cur, fz, e1, e2, hs.get e3 (by simp), e4⟩
theorem IsBuilderF.same {T e : TypeId} {B b : Nat} {bs : List Value} {w w' : World} (h : Lib.IsBuilderF T e B b bs w) (hs : Same [] w w') : Lib.IsBuilderF T e B b bs w' := h.imp (fun h => BuilderAtF.same h hs) (fun h => BuilderAtF.same h hs)
theorem Row.others {w w' : World} {e k n : Nat} {v : Value} {xs : List Value} {e' b : Nat} (h : Row w e k v n xs) (ho : Lib.OthersKept e' (some b) w w') (he : e ≠ e') (hb : v.ownBlock ≠ some b) : Row w' e k v n xs := by
 refine ⟨h.1, ?_⟩
 rcases h.2 with h2 | ⟨g, cap, cur, rfl, h0, h1, h3⟩
 ·exact .inl h2
 ·exact .inr ⟨g, cap, cur, rfl, h0, ho g _ h1 (fun e => hb e) (fun c fz e => by cases e; exact he rfl), h3⟩
theorem OrdA.le {n : Nat} : ∀ {l : List Asr} {p : Nat}, OrdA n l p → p ≤ n
 | [], _, h => h
 | a :: r, _, h => Nat.le_trans h.1 (Nat.le_trans h.2.1 h.2.2.le)
theorem fallsOf_len (L : List Asr) (n : Nat) : (fallsOf L n).length ≤ L.length := by
 unfold fallsOf
 split
 ·exact outTo_len _ _ _
 ·simp
theorem ext_len (t : ByteArray) (p q : Nat) : (t.extract p q).size ≤ q - p := by rw [ByteArray.size_extract]; omega
theorem byteCells_str (l : List UInt8) (t : ByteArray) : Lib.byteCells l ++ Lib.strCells t = Lib.byteCells (l ++ t.data.toList) := by simp [Lib.byteCells, Lib.strCells]
def WitI (w : World) (L : List Asr) (t : ByteArray) (l : List Int) (lv : Value) (bb : Nat) (v u : Value) (W : World) : Prop :=
 ∃ (k p : Nat) (bs : List UInt8), k ≤ l.length ∧ u = .int .i64 k ∧ v = .int .i64 p ∧ Lib.IsBuilderF 105 5 w.heap.size bb (Lib.byteCells bs) W ∧ bs.length ≤ p ∧ OrdA t.size (pickA L (l.drop k)) p ∧
  bs ++ cutOf t (pickA L (l.drop k)) p = cutOf t (pickA L l) 0 ∧ Row W 3 1 lv l.length (intCells l) ∧ Same [] w W
theorem Without_calls (w : World) (nb : Nat) (P : BP) (B : Bs) (h : BsAt w nb P B) (hN : B.Nice) (n : Nat) (hn : n < B.ld.asserts.length) (ht : B.text.size ≤ 140737488355328) (hO : OrdA B.text.size (pickA B.ld.asserts (fallsOf B.ld.asserts n)) 0) :
  Calls Tryz.prog 12 #[.pointer (some ⟨nb, 0, none⟩), .int .i64 n] w fun e w' => e = .returned (.tuple #[.string (withoutOf B n), .int .i64 0]) ∧ Same [] w w' := by
 unfold withoutOf
 have hfl := Falls_calls w nb P B h hN n hn
 have htx := fun (W : World) (hW : Same [] w W) => Text_calls W nb P B (h.same hW)
 have hat := fun (W : World) (hW : Same [] w W) (k : Nat) (hk : k < B.ld.asserts.length) => At_good W nb P B (h.same hW) k hk (hN.small _ (List.getElem_mem hk)) hN.n
 have hmem := mem_fallsOf B.ld.asserts n
 have hN1 := hN.n
 have hll := fallsOf_len B.ld.asserts n
 unfold FallsR at hfl
 clear h hN
 generalize B.ld.asserts = L at hat hfl hN1 hn hO hmem hll ⊢
 generalize B.text = t at htx ht hO ⊢
 obtain ⟨l, hl⟩ : ∃ l, fallsOf L n = l := ⟨_, rfl⟩
 rw [hl] at hfl hO hmem hll ⊢
 have Hat := Kd hat
 have HO := Kd hO
 have Hmem := Kd hmem
 clear hat hO hl hmem hn
 go_enter Tryz.func12, Tryz.ntmps12
 go_wp2_with (first
  | (go_at_call 10; go_must (refine hfl.mono ?_; rintro e1 W1 ⟨v1, rfl, hr1, hf1, hs1⟩; obtain ⟨A1, cl, rfl⟩ := hr1.shape; have Hr1 := Kd hr1; have Hs1 := Kd hs1; clear hr1 hf1 hs1))
  | (go_at_call 20; go_must (refine (htx _ Hs1.out).mono ?_; rintro e2 W2 ⟨rfl, hw2⟩; have hw3 := hw2.symm; subst hw3; clear hw2)))
 have hs2 : Same [] w (W1.alloc (.cells #[.pointer none, .slice none 0 0] 105)) := Hs1.out.trans (Same.alloc _ _ _)
 have h0 : WitI w L t l (.slice A1 l.length cl) W1.heap.size (.int .i64 0) (.int .i64 0) (W1.alloc (.cells #[.pointer none, .slice none 0 0] 105)) :=
  ⟨0, 0, [], Nat.zero_le _, rfl, rfl, .inl ⟨Hs1.out.size, .slice none 0 0, blk_new _ _, ⟨rfl, .inl ⟨rfl, rfl⟩⟩, fun e => by cases e⟩, Nat.le_refl _, HO.out, rfl, Hr1.out.same (Same.alloc [] _ _) (by simp), hs2⟩
 obtain ⟨bb, hbb⟩ : ∃ g, W1.heap.size = g := ⟨_, rfl⟩
 rw [hbb] at h0
 simp only [hbb]
 have hsz := Hs1.out.size
 have H0 := Kd h0
 clear hbb h0 hs2 Hr1 Hs1 HO hfl htx
 go_loopw [9, 28] (fun v u wr => WitI w L t l (.slice A1 l.length cl) bb v u wr) (fun _ u _ => l.length - (intOf u).toNat)
 case atStart => exact H0.out
 case round =>
  obtain ⟨k, p, bs, hk, rfl, rfl, hB, hbl, hO, hcut, hrow, hsm⟩ := hrel
  by_cases hlt : k < l.length
  ·obtain ⟨g, c, hv, lc1, lc2⟩ := hrow.cell (j := k) (by omega)
   cases hv
   rw [intCells_at l k hlt] at lc1
   obtain ⟨m, hm, hmL⟩ := Hmem.out l[k] (List.getElem_mem hlt)
   rw [hm] at lc1
   have hpd := pickA_drop L l k hlt m hm hmL
   rw [hpd] at hO hcut
   have hat1 := Hat.out wr hsm m hmL
   obtain ⟨a, ha⟩ : ∃ a, L[m] = a := ⟨_, rfl⟩
   rw [ha] at hat1 hO hcut
   obtain ⟨hp1, hp4, hO2⟩ := hO
   have hp3 := hO2.le
   have hp2 := Nat.le_trans hp4 hp3
   have hbl1 : w.heap.size ≤ bb := by rcases hB with h | h <;> exact h.1
   have hbl2 : bb < wr.heap.size := by rcases hB with ⟨_, v, h, _⟩ | ⟨_, v, h, _⟩ <;> exact blk_lt h
   have hbr : (Value.slice (some ⟨g, 0, none⟩) l.length cl).ownBlock ≠ some bb := by
    rcases hB with ⟨_, v, h, _⟩ | ⟨_, v, h, _⟩ <;> exact hrow.ne h (by decide)
   have HB := Kd hB
   have HO2 := Kd hO2
   have Hcut := Kd hcut
   have Hrow := Kd hrow
   have Hsm := Kd hsm
   have Hbr := Kd hbr
   clear hpd ha hB hO2 hcut hrow hsm hm hbr H0
   go_wp2_with (first
    | (go_at_call 18; go_must (refine (hat1).mono ?_; rintro e1 W1 ⟨⟨fh, fp, fg, sh, sp, pr, fes, ses⟩, rfl, hnw, hs1⟩; obtain ⟨A1, c1, A2, c2, A3, c3, A4, c4, A5, c5, A6, c6, q1, q2, q3, q4, q5, q6⟩ := hnw.inn.shapes; dsimp only at q1 q2 q3 q4 q5 q6; subst q1 q2 q3 q4 q5 q6; have Hs1 := Kd hs1; unfold asV; clear hs1 hnw))
    | (
     (refine wp_stRow rfl 56 _ _ rfl W1.heap.size #[.int .i64 a.number, .string a.label, .bool a.isThm, .slice A1 a.hyps.length c1, .slice A2 a.pairs.length c2, .slice A3 a.goal.length c3, .slice A4 a.shyps.length c4, .slice A5 a.spairs.length c5, .slice A6 a.proof.length c6, .string a.at_.text, .int .i64 a.at_.at_.off, .int .i64 a.at_.at_.line, .int .i64 a.at_.at_.col, .string a.end_.text, .int .i64 a.end_.at_.off, .int .i64 a.end_.at_.line, .int .i64 a.end_.at_.col] (by go_simp) (by go_simp) 56 #[.int .i64 0, .string ⟨#[]⟩, .bool false, .slice none 0 0, .slice none 0 0, .slice none 0 0, .slice none 0 0, .slice none 0 0, .slice none 0 0, .string ⟨#[]⟩, .int .i64 0, .int .i64 0, .int .i64 0, .string ⟨#[]⟩, .int .i64 0, .int .i64 0, .int .i64 0] (blk_new W1 (.cells #[.int .i64 0, .string ⟨#[]⟩, .bool false, .slice none 0 0, .slice none 0 0, .slice none 0 0, .slice none 0 0, .slice none 0 0, .slice none 0 0, .string ⟨#[]⟩, .int .i64 0, .int .i64 0, .int .i64 0, .string ⟨#[]⟩, .int .i64 0, .int .i64 0, .int .i64 0] 56)) (by kernel_rfl) rfl (by simp [Value.oneCell']) ?_; intro W2 hB2 hs2; have Hs12 : Hid (Same [] W1 W2) := Kd ((Same.alloc [] W1 _).then hs2 fun x hx => .inr (by simp at hx; omega)); obtain ⟨-, b1, -, -, -, -, -, -, -, -, -, -, -, -, -, -, -, bf⟩ := asO_cells (a := a) (fh := .slice A1 a.hyps.length c1) (fp := .slice A2 a.pairs.length c2) (fg := .slice A3 a.goal.length c3) (sh := .slice A4 a.shyps.length c4) (sp := .slice A5 a.spairs.length c5) (pr := .slice A6 a.proof.length c6) hB2; have bl := blk_lt hB2; have HB2 := Kd hB2; clear hB2 hs2)
     ; obtain ⟨-, -, -, -, -, -, -, -, -, -, b10, -, -, b13, b14, -, -, -⟩ := asO_cells (a := a) (fh := .slice A1 a.hyps.length c1) (fp := .slice A2 a.pairs.length c2) (fg := .slice A3 a.goal.length c3) (sh := .slice A4 a.shyps.length c4) (sp := .slice A5 a.spairs.length c5) (pr := .slice A6 a.proof.length c6) HB2.out)
    | (go_at_call 38; go_must (refine (WriteString_calls w.heap.size bb (Lib.byteCells bs) _ W2 (IsBuilderF.same HB.out (Hs1.out.trans Hs12.out)) (by have := ext_len t p a.at_.at_.off; rw [Lib.byteCells_length]; exact Nat.le_trans (Nat.add_le_add hbl this) (by omega)) (Nat.le_trans Hsm.out.size (Hs1.out.trans Hs12.out).size)).mono ?_; rintro e3 W3 ⟨rfl, hB3, hb3, ho3⟩; have hBx := ho3 _ _ HB2.out (fun e => by have := Hs1.out.size; cases e; omega) (fun c fz e => by cases e); have HBx := Kd hBx; obtain ⟨-, -, -, -, -, -, -, -, -, -, x10, -, -, x13, x14, -, -, xf⟩ := asO_cells (a := a) (fh := .slice A1 a.hyps.length c1) (fp := .slice A2 a.pairs.length c2) (fg := .slice A3 a.goal.length c3) (sh := .slice A4 a.shyps.length c4) (sp := .slice A5 a.spairs.length c5) (pr := .slice A6 a.proof.length c6) hBx; have xl := blk_lt hBx; have HB3 := Kd hB3; have Hb3 := Kd hb3; have Ho3 := Kd ho3; clear hBx hB3 hb3 ho3)))
   go_roundw
   case rel =>
    have hB3 := HB3.out
    rw [byteCells_str] at hB3
    have h12 := Hs1.out.trans Hs12.out
    refine ⟨k + 1, a.end_.at_.off + a.end_.text.size, bs ++ (t.extract p a.at_.at_.off).data.toList, hlt, by go_num, by go_num, .inr hB3, ?_, HO2.out, ?_, (Hrow.out.same h12 (by simp)).others Ho3.out (by decide) Hbr.out, (Hsm.out.trans h12).below' Hb3.out⟩
    ·have := ext_len t p a.at_.at_.off
     rw [List.length_append]
     have e1 : (t.extract p a.at_.at_.off).data.toList.length = (t.extract p a.at_.at_.off).size := by rw [Array.length_toList]; rfl
     rw [e1]
     omega
    ·rw [← Hcut.out]
     simp [cutOf]
   case measure => simp [intOf]; omega
  ·have hkk : k = l.length := by omega
   subst hkk
   have hd : pickA L (l.drop l.length) = [] := by simp [pickA]
   rw [hd] at hO hcut
   have hO2 : p ≤ t.size := hO
   have Hcut := Kd hcut
   have HB := Kd hB
   have Hsm := Kd hsm
   clear hd hO hcut hB hrow hsm H0
   go_wp2_with (first
    | (go_at_call 38; go_must (refine (WriteString_calls w.heap.size bb (Lib.byteCells bs) _ wr HB.out (by have := ext_len t p t.size; rw [Lib.byteCells_length]; exact Nat.le_trans (Nat.add_le_add hbl this) (by omega)) Hsm.out.size).mono ?_; rintro e3 W3 ⟨rfl, hB3, hb3, ho3⟩; rw [byteCells_str] at hB3; obtain ⟨ys, hys⟩ : ∃ ys, bs ++ (t.extract p t.size).data.toList = ys := ⟨_, rfl⟩; rw [hys] at hB3; have Hys := Kd (show ys = cutOf t (pickA L l) 0 from hys.symm.trans Hcut.out); clear hys; have HB3 := Kd hB3; have Hb3 := Kd hb3; clear hB3 hb3 ho3))
    | (go_at_call 39; go_must (refine (Tryz.Builder_String_any_k w.heap.size bb _ W3 (.inr HB3.out) (Nat.le_trans Hsm.out.size Hb3.out.size)).mono ?_; rintro e4 W4 ⟨rfl, -, hb4, -⟩; have Hb4 := Kd hb4; clear hb4)))
   go_ret2
   refine ⟨?_, (Hsm.out.below' Hb3.out).below' Hb4.out⟩
   rw [← Hys.out]
   rfl
def aliveT : ByteArray := ⟨#[36, 99, 32, 119, 102, 102, 32, 40, 32, 41, 32, 45, 62, 32, 36, 46, 32, 36, 118, 32, 120, 32, 36, 46, 32, 119, 120, 32, 36, 102, 32, 119, 102, 102, 32, 120, 32, 36, 46, 32, 119, 105, 32, 36, 97, 32, 119, 102, 102, 32, 40, 32, 120, 32, 45, 62, 32, 120, 32, 41, 32, 36, 46, 10, 116, 49, 32, 36, 112, 32, 119, 102, 102, 32, 40, 32, 40, 32, 120, 32, 45, 62, 32, 120, 32, 41, 32, 45, 62, 32, 40, 32, 120, 32, 45, 62, 32, 120, 32, 41, 32, 41, 32, 36, 61, 32, 119, 120, 32, 119, 105, 32, 119, 105, 32, 36, 46, 10, 116, 51, 32, 36, 112, 32, 119, 102, 102, 32, 120, 32, 36, 61, 32, 119, 120, 32, 36, 46, 10]⟩
def aliveS : ByteArray := ⟨#[36, 99, 32, 119, 102, 102, 32, 40, 32, 41, 32, 45, 62, 32, 36, 46, 32, 36, 118, 32, 120, 32, 36, 46, 32, 119, 120, 32, 36, 102, 32, 119, 102, 102, 32, 120, 32, 36, 46, 32, 10, 10, 116, 51, 32, 36, 112, 32, 119, 102, 102, 32, 120, 32, 36, 61, 32, 119, 120, 32, 36, 46, 10]⟩
def ordB (n : Nat) : List Asr → Nat → Bool
 | [], p => decide (p ≤ n)
 | a :: r, p => decide (p ≤ a.at_.at_.off) && decide (a.at_.at_.off ≤ a.end_.at_.off + a.end_.text.size) && ordB n r (a.end_.at_.off + a.end_.text.size)
theorem ordB_iff {n : Nat} : ∀ {l : List Asr} {p : Nat}, ordB n l p = true → OrdA n l p
 | [], p, h => (of_decide_eq_true h : p ≤ n)
 | a :: r, _, h => by
  simp only [ordB, Bool.and_eq_true, decide_eq_true_eq] at h
  exact ⟨h.1.1, h.1.2, ordB_iff h.2⟩
def onOk (x : Except Flt Bs) (f : Bs → Bool) : Bool := match x with | .ok B => f B | .error _ => false
theorem onOk_ok {x : Except Flt Bs} {f : Bs → Bool} (h : onOk x f = true) : ∃ B, x = .ok B ∧ f B = true := by
 cases x with
 | ok B => exact ⟨B, rfl, h⟩
 | error e => cases h
theorem load_text {t : ByteArray} {B : Bs} (h : loadOf t = .ok B) : B.text = t := by
 unfold loadOf at h
 split at h
 ·cases h
 ·split at h
  ·cases h
  ·split at h
   ·cases h
   ·cases h; rfl
theorem alive_fact : onOk (loadOf aliveT) (fun B => decide (0 < B.ld.asserts.length) && decide (fallsOf B.ld.asserts 0 = [0, 1]) && decide ((withoutOf B 0).data.toList = aliveS.data.toList) && ordB B.text.size (pickA B.ld.asserts (fallsOf B.ld.asserts 0)) 0) = true := by kernel_rfl
theorem num_calls (w : World) (n : Int) (hn : -9223372036854775808 ≤ n ∧ n ≤ 9223372036854775807) : Calls Tryz.prog 15 #[.int .i64 n] w fun e w' => e = .returned (.int .i64 n) ∧ w' = w := by
 go_enter Tryz.func15, Tryz.ntmps15
 go_wp2
 go_ret
 exact ⟨rfl, rfl⟩
theorem row_lit (w : World) (ys : List Value) (e n : Nat) (hn : ys.length = n) (hm : n ≤ maxLen) : Row (w.alloc (.cells ys.toArray e)) e 1 (.slice (some ⟨w.heap.size, 0, none⟩) n n) n ys :=
 ⟨by omega, .inr ⟨_, n, _, rfl, Nat.zero_le _, blk_new _ _, Nat.le_refl _, hm, by simp [hn], by simp [← hn]⟩⟩
def SamI (w : World) (la lb : List Int) (u : Value) (W : World) : Prop := ∃ k : Nat, k ≤ la.length ∧ u = .int .i64 k ∧ la.take k = lb.take k ∧ Same [] w W
theorem int_elem {w : World} {A : Option Addr} {c n : Nat} {l : List Int} (h : Row w 3 1 (.slice A n c) n (intCells l)) {k : Nat} (hk : k < l.length) : ∃ g, A = some ⟨g, 0, none⟩ ∧ w.cell? ⟨g, k, none⟩ = some (.int .i64 l[k]) ∧ w.frozen? ⟨g, k, none⟩ = false := by
 have hl : l.length = n := by have := h.1; rw [intCells_len] at this; omega
 obtain ⟨g, c', hv, h1, h2⟩ := h.cell (j := k) (by omega)
 cases hv
 exact ⟨g, rfl, by rw [h1, intCells_at l k hk], h2⟩
theorem sameInts_calls (w : World) (va vb : Value) (la lb : List Int) (ha : Row w 3 1 va la.length (intCells la)) (hb : Row w 3 1 vb lb.length (intCells lb)) (hla : la.length ≤ 1000000) (hlb : lb.length ≤ 1000000) :
  Calls Tryz.prog 14 #[va, vb] w fun e w' => e = .returned (.bool (decide (la = lb))) ∧ Same [] w w' := by
 obtain ⟨A1, c1, rfl⟩ := ha.shape
 obtain ⟨A2, c2, rfl⟩ := hb.shape
 have Ha := Kd ha
 have Hb := Kd hb
 clear ha hb
 by_cases hl : la.length = lb.length
 ·have Hl := Kd hl
  have hli : ((la.length : Int) != (lb.length : Int)) = false := by simp [hl]
  clear hl
  go_enter Tryz.func14, Tryz.ntmps14
  go_wp2
  have h0 : SamI w la lb (.int .i64 0) w := ⟨0, Nat.zero_le _, rfl, by simp, Same.refl _ _⟩
  have H0 := Kd h0
  clear h0
  go_loopw [5] (fun u wr => SamI w la lb u wr) (fun u _ => la.length - (intOf u).toNat)
  case atStart => exact H0.out
  case round =>
   obtain ⟨k, hk, rfl, htk, hsm⟩ := hrel
   by_cases hlt : k < la.length
   ·have hlb : k < lb.length := by rw [← Hl.out]; exact hlt
    obtain ⟨g1, rfl, x1, x2⟩ := int_elem (Ha.out.same hsm (by simp)) hlt
    obtain ⟨g2, rfl, y1, y2⟩ := int_elem (Hb.out.same hsm (by simp)) hlb
    have e1 : la.take (k + 1) = la.take k ++ [la[k]] := List.take_succ_eq_append_getElem hlt
    have e2 : lb.take (k + 1) = lb.take k ++ [lb[k]] := List.take_succ_eq_append_getElem hlb
    have hgl1 := World.block_lt_of_cell? _ _ x1
    have hgl2 := World.block_lt_of_cell? _ _ y1
    have Hsm := Kd hsm
    by_cases he : la[k] = lb[k]
    ·rw [← he] at y1 e2
     have Htk : Hid (la.take (k + 1) = lb.take (k + 1)) := Kd (by rw [e1, e2, htk])
     clear he e1 e2 htk hsm H0
     go_wp2
     go_quiet (fail)
     go_wp2
     go_roundw
     case rel => exact ⟨k + 1, hlt, by go_num, Htk.out, Hsm.out.trans (Same.drewN _ _ _)⟩
     case measure => simp [intOf]; omega
    ·have hd : decide (la = lb) = false := decide_eq_false fun e => he (by subst e; rfl)
     have hb : (la[k] != lb[k]) = true := by simpa using he
     have Hd := Kd hd
     generalize la[k] = a at x1 hb
     generalize lb[k] = b at y1 hb
     clear he e1 e2 htk hsm hd H0
     go_wp2
     go_quiet (fail)
     go_wp2
     go_ret
     exact ⟨by rw [Hd.out]; rfl, Hsm.out.trans (Same.drewN _ _ _)⟩
   ·have hkk : k = la.length := by omega
    subst hkk
    have hd : decide (la = lb) = true := decide_eq_true (by rw [List.take_length, Hl.out, List.take_length] at htk; exact htk)
    have Hd := Kd hd
    have Hsm := Kd hsm
    clear hd htk hsm H0
    go_wp2
    go_ret
    exact ⟨by rw [Hd.out]; rfl, Hsm.out⟩
 ·have hd : decide (la = lb) = false := decide_eq_false fun e => hl (by rw [e])
  rw [hd]
  have hli : ((la.length : Int) != (lb.length : Int)) = true := by simp; omega
  clear hl hd
  go_enter Tryz.func14, Tryz.ntmps14
  go_wp2
  go_ret
  exact ⟨rfl, Same.refl _ _⟩
theorem alive_calls (w : World) (hb : Blanks w) (hl : LibCell w) : Calls Tryz.prog 6 #[] w fun e w' => e = .returned (.bool true) ∧ Same [] w w' := by
 obtain ⟨B, hB, hf⟩ := onOk_ok alive_fact
 simp only [Bool.and_eq_true, decide_eq_true_eq] at hf
 obtain ⟨⟨⟨h1, h2⟩, h3⟩, h4⟩ := hf
 have hO := ordB_iff h4
 have hN := (load_nice hB).1
 have ht := load_text hB
 have hld := Load_calls aliveT w (by decide) hb hl
 unfold LoadR at hld
 rw [hB] at hld
 have hw : withoutOf B 0 = aliveS := by
  have e : ∀ x y : ByteArray, x.data.toList = y.data.toList → x = y := fun x y h => by
   cases x; cases y
   exact congrArg ByteArray.mk (Array.toList_inj.1 h)
  exact e _ _ h3
 have hfl := fun (W : World) nb P (hA : BsAt W nb P B) => Falls_calls W nb P B hA hN 0 h1
 have hwt := fun (W : World) nb P (hA : BsAt W nb P B) => Without_calls W nb P B hA hN 0 h1 (by rw [ht]; decide) hO
 unfold FallsR at hfl
 rw [h2] at hfl
 rw [hw] at hwt
 unfold aliveS at hwt
 clear hO hN ht hb hl h1 h2 h3 h4 hw
 go_enter Tryz.func6, Tryz.ntmps6
 go_wp2_with (first
  | (go_at_call 8; go_must (refine hld.mono ?_; rintro e1 W1 ⟨hs1, nb, P, rfl, hA⟩; have HA := Kd hA; have Hs1 := Kd hs1; clear hA hs1))
  | (go_at_call 10; go_must (refine (hfl _ nb P HA.out).mono ?_; rintro e2 W2 ⟨v2, rfl, hr2, hf2, hs2⟩; obtain ⟨A2, c2, rfl⟩ := hr2.shape; have Hr2 := Kd hr2; have Hs2 := Kd hs2; clear hr2 hf2 hs2))
  | (go_at_call 12; go_must (refine (hwt _ nb P (HA.out.same Hs2.out)).mono ?_; rintro e3 W3 ⟨rfl, hs3⟩; have Hs3 := Kd hs3; clear hs3))
  | (go_at_call 15; go_must (refine (num_calls W3 0 (by decide)).mono ?_; rintro e4 W4 ⟨rfl, hw4⟩; have hw5 := hw4.symm; subst hw5; clear hw4))
  | (go_at_call 14; go_must (refine (sameInts_calls _ _ _ [0, 1] [0, 1] ((Hr2.out.same Hs3.out (by simp)).same (Same.alloc [] W3 (.cells #[.int .i64 0, .int .i64 1] 3)) (by simp)) (row_lit W3 [.int .i64 0, .int .i64 1] 3 2 rfl (by decide)) (by decide) (by decide)).mono ?_; rintro e5 W5 ⟨rfl, hs5⟩; have Hs5 := Kd hs5; clear hs5)))
 go_ret
 exact ⟨rfl, (((Hs1.out.trans Hs2.out).trans Hs3.out).trans (Same.alloc [] _ _)).trans Hs5.out⟩
end Go.Proofs.YtdhkmfpfbjcdiaaGreatDoor
