/- lemmalaw texts, part 45. -/
import Derived.Test.YtdhkmfpfbjcdiaaGreatDoorYbq
import Derived.Test.YtdhkmfpfbjcdiaaGreatDoorYbr
set_option maxRecDepth 100000
set_option linter.unusedVariables false
set_option linter.unusedSimpArgs false
set_option maxHeartbeats 32000000
namespace Go.Proofs.YtdhkmfpfbjcdiaaGreatDoor
open Go.RowKit
theorem Tryz.infoStrings : (Tryz.prog.info? 66).map (fun i => (i.zero, i.size, i.bytes)) = some (some (.slice none 0 0), 1, 24) := by kernel_rfl
theorem madeStr (n : Nat) : (madeCells (Value.string ByteArray.empty).cells (n * 1)).toList = strCells (List.replicate n ⟨#[]⟩) := by
 apply List.ext_getElem
 ·simp [madeCells, strCells]
 ·intro i h1 h2
  simp [madeCells, strCells, Value.cells, Nat.mod_one]
  rfl
theorem madeSl (n : Nat) : (madeCells (Value.slice none 0 0).cells (n * 1)).toList = List.replicate n (Value.slice none 0 0) := by
 apply List.ext_getElem
 ·simp [madeCells]
 ·intro i h1 h2
  simp [madeCells, Value.cells, Nat.mod_one]
def filled {α : Type} (l : List α) (n : Nat) (z : α) : List α := l ++ List.replicate (n - l.length) z
theorem filled_set {α : Type} (l : List α) (n : Nat) (z x : α) (h : l.length < n) : (filled l n z).set l.length x = filled (l ++ [x]) n z := by
 unfold filled
 rw [List.set_append_right _ _ (Nat.le_refl _), Nat.sub_self]
 obtain ⟨m, hm⟩ : ∃ m, n - l.length = m + 1 := ⟨n - l.length - 1, by omega⟩
 rw [hm, List.replicate_succ, List.set_cons_zero, List.length_append, show n - (l.length + [x].length) = m by simp; omega]
 simp
theorem strCells_set (l : List ByteArray) (k : Nat) (x : ByteArray) : (strCells l).set k (.string x) = strCells (l.set k x) := by simp [strCells, List.map_set]
abbrev NamesAt (W : World) (M : List Nat) (us : List Value) (l : List Asr) : Prop := All2 (fun u a => Fix W M 9 1 u (namedOf a).length (strCells (namedOf a))) us l
theorem NamesAt.move {w w' : World} {M M' : List Nat} {us : List Value} {l : List Asr} (h : NamesAt w M us l) (m : Move M M' w w') : NamesAt w' M' us l := h.imp fun _ _ h => h.move m
structure FalS (w W : World) (L l : List Asr) (S : List ByteArray) (gl gn bm : Nat) (lb : List ByteArray) (us xs : List Value) : Prop where
 lab : Row W 9 1 (.slice (some ⟨gl, 0, none⟩) L.length L.length) L.length (strCells lb)
 nam : Row W 66 1 (.slice (some ⟨gn, 0, none⟩) L.length L.length) L.length xs
 nms : NamesAt W [gl, gn, bm] us l
 map : SMap W bm (setM S)
 same : Same [] w W
 fl : w.heap.size ≤ gl
 fn : w.heap.size ≤ gn
 fm : w.heap.size ≤ bm
theorem FalS.next {w W W' : World} {L l : List Asr} {S : List ByteArray} {gl gn bm : Nat} {lb : List ByteArray} {us xs : List Value} (h : FalS w W L l S gl gn bm lb us xs) (hs : Same [] W W') : FalS w W' L l S gl gn bm lb us xs :=
 ⟨h.lab.same hs (by simp), h.nam.same hs (by simp), h.nms.move (Move.of_same hs), h.map.same hs (by simp), h.same.trans hs, h.fl, h.fn, h.fm⟩
theorem FalS.ne {w W : World} {L l : List Asr} {S : List ByteArray} {gl gn bm : Nat} {lb : List ByteArray} {us xs : List Value} (h : FalS w W L l S gl gn bm lb us xs) : gl ≠ gn ∧ gl ≠ bm ∧ gn ≠ bm := by
 refine ⟨fun e => ?_, fun e => ?_, fun e => ?_⟩
 ·exact h.lab.ne_row h.nam (by decide) (b := gl) (by rw [e]; rfl) rfl
 ·subst e; exact h.map.ne_row h.lab rfl
 ·subst e; exact h.map.ne_row h.nam rfl
theorem FalS.setLab {w W : World} {L l : List Asr} {S : List ByteArray} {gl gn bm : Nat} {lb : List ByteArray} {us xs : List Value} (h : FalS w W L l S gl gn bm lb us xs) {k : Nat} (hk : k < L.length) (x : ByteArray) : FalS w (W.setCell ⟨gl, k, none⟩ (.string x)) L l S gl gn bm (lb.set k x) us xs := by
 have hs : Same [gl] W (W.setCell ⟨gl, k, none⟩ (.string x)) := Same.setCell _ _ _ (by simp)
 obtain ⟨n1, n2, n3⟩ := h.ne
 refine ⟨?_, h.nam.same hs (fun b hb hm => ?_), h.nms.move ⟨fun b hb => .inl hb, hs.mono (by simp)⟩, h.map.same hs (by simpa using n2.symm), h.same.then hs (by simp [h.fl]), h.fl, h.fn, h.fm⟩
 ·rw [← strCells_set]; exact h.lab.set1 (by omega) _
 ·simp at hm; subst hm; simp [Value.ownBlock] at hb; exact n1 hb.symm
theorem FalS.setNam {w W : World} {L l : List Asr} {S : List ByteArray} {gl gn bm : Nat} {lb : List ByteArray} {us xs : List Value} (h : FalS w W L l S gl gn bm lb us xs) {k : Nat} (hk : k < L.length) (v : Value) : FalS w (W.setCell ⟨gn, k, none⟩ v) L l S gl gn bm lb us (xs.set k v) := by
 have hs : Same [gn] W (W.setCell ⟨gn, k, none⟩ v) := Same.setCell _ _ _ (by simp)
 obtain ⟨n1, n2, n3⟩ := h.ne
 refine ⟨h.lab.same hs (fun b hb hm => ?_), h.nam.set1 (by omega) _, h.nms.move ⟨fun b hb => .inl hb, hs.mono (by simp)⟩, h.map.same hs (by simpa using n3.symm), h.same.then hs (by simp [h.fn]), h.fl, h.fn, h.fm⟩
 simp at hm; subst hm; simp [Value.ownBlock] at hb; exact n1 hb
theorem FalS.setMap {w W W' : World} {L l : List Asr} {S S' : List ByteArray} {gl gn bm : Nat} {lb : List ByteArray} {us xs : List Value} (h : FalS w W L l S gl gn bm lb us xs) (hs : Same [bm] W W') (hm : SMap W' bm (setM S')) : FalS w W' L l S' gl gn bm lb us xs := by
 obtain ⟨n1, n2, n3⟩ := h.ne
 refine ⟨h.lab.same hs (fun b hb hx => ?_), h.nam.same hs (fun b hb hx => ?_), h.nms.move ⟨fun b hb => .inl hb, hs.mono (by simp)⟩, hm, h.same.then hs (by simp [h.fm]), h.fl, h.fn, h.fm⟩
 ·simp at hx; subst hx; simp [Value.ownBlock] at hb; exact n2 hb
 ·simp at hx; subst hx; simp [Value.ownBlock] at hb; exact n3 hb
theorem FalS.push {w W W0 : World} {L l : List Asr} {S : List ByteArray} {gl gn bm : Nat} {lb : List ByteArray} {us xs : List Value} (h : FalS w W L l S gl gn bm lb us xs) {v : Value} {a : Asr} (hr : Row W 9 1 v (namedOf a).length (strCells (namedOf a))) (hf : FreshB W0 v) (h0 : ∀ b ∈ [gl, gn, bm], b < W0.heap.size) : FalS w W L (l ++ [a]) S gl gn bm lb (us ++ [v]) xs :=
 ⟨h.lab, h.nam, h.nms.snoc (Fix.fresh hr hf h0), h.map, h.same, h.fl, h.fn, h.fm⟩
theorem FalS.lts {w W : World} {L l : List Asr} {S : List ByteArray} {gl gn bm : Nat} {lb : List ByteArray} {us xs : List Value} (h : FalS w W L l S gl gn bm lb us xs) : ∀ b ∈ [gl, gn, bm], b < W.heap.size := by
 intro b hb
 simp only [List.mem_cons, List.not_mem_nil, or_false] at hb
 rcases hb with rfl | rfl | rfl
 ·exact h.lab.lt rfl
 ·exact h.nam.lt rfl
 ·exact h.map.lt
theorem FalS.labCell {w W : World} {L l : List Asr} {S : List ByteArray} {gl gn bm : Nat} {lb : List ByteArray} {us xs : List Value} (h : FalS w W L l S gl gn bm lb us xs) {k : Nat} (hk : k < L.length) (hl : k < lb.length) : W.cell? ⟨gl, k, none⟩ = some (.string lb[k]) ∧ W.frozen? ⟨gl, k, none⟩ = false := by
 obtain ⟨g, c, hv, h1, h2⟩ := h.lab.cell (j := k) (by omega)
 cases hv
 refine ⟨?_, h2⟩
 rw [h1]
 simp [strCells, List.getD_eq_getElem?_getD, hl]
theorem FalS.namCell {w W : World} {L l : List Asr} {S : List ByteArray} {gl gn bm : Nat} {lb : List ByteArray} {us xs : List Value} (h : FalS w W L l S gl gn bm lb us xs) {k : Nat} (hk : k < L.length) (hl : k < xs.length) : W.cell? ⟨gn, k, none⟩ = some xs[k] ∧ W.frozen? ⟨gn, k, none⟩ = false := by
 obtain ⟨g, c, hv, h1, h2⟩ := h.nam.cell (j := k) (by omega)
 cases hv
 refine ⟨?_, h2⟩
 rw [h1]
 simp [List.getD_eq_getElem?_getD, hl]
theorem FalS.apart {w W W' : World} {L l : List Asr} {S : List ByteArray} {gl gn bm : Nat} {lb : List ByteArray} {us xs : List Value} (h : FalS w W L l S gl gn bm lb us xs) {v : Value} {n : Nat} {ys : List Value} (hr : Row W 3 1 v n ys) (hf : FreshB w v) (hs : Same v.ownBlock.toList W W') : FalS w W' L l S gl gn bm lb us xs := by
 refine ⟨h.lab.same hs fun b hb hm => ?_, h.nam.same hs fun b hb hm => ?_, h.nms.imp fun _ _ hx => ⟨hx.row.same hs fun b hb hm => hr.ne_row hx.row (by decide) hb (Option.mem_toList.1 hm), hx.not⟩, h.map.same hs fun hm => ?_, h.same.then hs fun x hx => .inr (hf x (Option.mem_toList.1 hx)), h.fl, h.fn, h.fm⟩
 ·exact hr.ne_row h.lab (by decide) hb (Option.mem_toList.1 hm)
 ·exact hr.ne_row h.nam (by decide) hb (Option.mem_toList.1 hm)
 ·exact h.map.ne_row hr (Option.mem_toList.1 hm)
def mapLen (W : World) (b : Nat) : Nat := match W.heap[b]? with | some (.map es _) => es.size | _ => 0
theorem mapLen_of {W : World} {b : Nat} {S : List ByteArray} (h : SMap W b (setM S)) : mapLen W b = S.length := by
 obtain ⟨es, clock, hb, he⟩ := h
 have := congrArg List.length he
 unfold mapLen
 rw [hb]
 simpa [setM] using this
def boolN : Value → Nat | .bool true => 1 | _ => 0
def FalI1 (w : World) (L : List Asr) (S : List ByteArray) (gl gn bm : Nat) (u : Value) (W : World) : Prop :=
 ∃ (k : Nat) (us : List Value), k ≤ L.length ∧ u = .int .i64 k ∧ us.length = k ∧ FalS w W L (L.take k) S gl gn bm (filled ((L.take k).map (·.label)) L.length ⟨#[]⟩) us (filled us L.length (.slice none 0 0))
def FalI2 (w : World) (L : List Asr) (F : List ByteArray) (us : List Value) (gl gn bm : Nat) (u : Value) (W : World) : Prop :=
 ∃ (S : List ByteArray) (m : Bool), u = .bool m ∧ (if m = true then ∃ f, stays L S < f ∧ fallGo L f S = F else S = F) ∧ S.length + stays L S ≤ L.length + 1 ∧ FalS w W L L S gl gn bm (L.map (·.label)) us us
def FalI3 (w : World) (L : List Asr) (S0 : List ByteArray) (us : List Value) (gl gn bm : Nat) (v u : Value) (W : World) : Prop :=
 ∃ k : Nat, k ≤ L.length ∧ u = .int .i64 k ∧ v = .bool ((L.take k).foldl fallStep (S0, false)).2 ∧ FalS w W L L ((L.take k).foldl fallStep (S0, false)).1 gl gn bm (L.map (·.label)) us us
def FalI4 (w : World) (L : List Asr) (S : List ByteArray) (us : List Value) (gl gn bm : Nat) (v u : Value) (W : World) : Prop :=
 ∃ k : Nat, k ≤ L.length ∧ u = .int .i64 k ∧ Row W 3 1 v (outTo S L k).length (intCells (outTo S L k)) ∧ FreshB w v ∧ FalS w W L L S gl gn bm (L.map (·.label)) us us
theorem fallStep_inv (L : List Asr) (p : List ByteArray × Bool) (a : Asr) (ha : a ∈ L) : (fallStep p a).1.length + stays L (fallStep p a).1 ≤ p.1.length + stays L p.1 ∧ p.1.length ≤ (fallStep p a).1.length ∧ ((fallStep p a).2 = true → p.2 = true ∨ p.1.length < (fallStep p a).1.length) := by
 unfold fallStep
 split
 ·exact ⟨Nat.le_refl _, Nat.le_refl _, .inl⟩
 ·split
  ·have := stays_put L p.1 a ha (by simp_all)
   refine ⟨?_, ?_, fun _ => .inr ?_⟩ <;> simp <;> omega
  ·exact ⟨Nat.le_refl _, Nat.le_refl _, .inl⟩
theorem fallFold_inv (L : List Asr) : ∀ (l : List Asr) (p : List ByteArray × Bool), (∀ a ∈ l, a ∈ L) → (l.foldl fallStep p).1.length + stays L (l.foldl fallStep p).1 ≤ p.1.length + stays L p.1 ∧ p.1.length ≤ (l.foldl fallStep p).1.length ∧ ((l.foldl fallStep p).2 = true → p.2 = true ∨ p.1.length < (l.foldl fallStep p).1.length)
 | [], p, _ => ⟨Nat.le_refl _, Nat.le_refl _, .inl⟩
 | a :: l, p, h => by
  obtain ⟨h1, h2, h3⟩ := fallStep_inv L p a (h a List.mem_cons_self)
  obtain ⟨h4, h5, h6⟩ := fallFold_inv L l (fallStep p a) fun x hx => h x (List.mem_cons_of_mem _ hx)
  refine ⟨Nat.le_trans h4 h1, Nat.le_trans h2 h5, fun hm => ?_⟩
  rcases h6 hm with h | h
  ·rcases h3 h with h | h
   ·exact .inl h
   ·exact .inr (Nat.lt_of_lt_of_le h h5)
  ·exact .inr (Nat.lt_of_le_of_lt h2 h)
def FallsR (L : List Asr) (n : Nat) (w : World) (e : Ending) (w' : World) : Prop := ∃ v, e = .returned (.tuple #[v, .int .i64 0]) ∧ Row w' 3 1 v (fallsOf L n).length (intCells (fallsOf L n)) ∧ FreshB w v ∧ Same [] w w'
theorem falls_eq (L : List Asr) (n : Nat) (hn : n < L.length) : fallsOf L n = outTo (fallGo L (L.length + 1) [L[n].label]) L L.length := by
 unfold fallsOf
 rw [List.getElem?_eq_getElem hn]
theorem fallStep_1 {p : List ByteArray × Bool} {a : Asr} (h : inS a.label p.1 = true) : fallStep p a = p := by unfold fallStep; rw [if_pos h]
theorem fallStep_2 {p : List ByteArray × Bool} {a : Asr} (h : inS a.label p.1 = false) (h2 : ((namedOf a).any fun s => inS s p.1) = false) : fallStep p a = p := by unfold fallStep; rw [if_neg (by rw [h]; decide), if_neg (by rw [h2]; decide)]
theorem fallStep_3 {p : List ByteArray × Bool} {a : Asr} (h : inS a.label p.1 = false) (h2 : ((namedOf a).any fun s => inS s p.1) = true) : fallStep p a = (p.1 ++ [a.label], true) := by unfold fallStep; rw [if_neg (by rw [h]; decide), if_pos h2]
theorem namedOf_len (a : Asr) : (namedOf a).length ≤ a.proof.length := by
 unfold namedOf
 split
 ·have h1 := namesOf_len (parseOf a.proof a.end_).labels _ (Nat.le_refl _)
  rw [List.take_length] at h1
  exact Nat.le_trans h1 (parse_len _ _)
 ·simp
theorem setM_unit (S : List ByteArray) : ∀ p ∈ setM S, p.2 = Value.agg #[] := by
 intro p hp
 simp only [setM, List.mem_map] at hp
 obtain ⟨s, -, rfl⟩ := hp
 rfl
theorem Falls_calls (w : World) (nb : Nat) (P : BP) (B : Bs) (h : BsAt w nb P B) (hN : B.Nice) (n : Nat) (hn : n < B.ld.asserts.length) :
  Calls Tryz.prog 10 #[.pointer (some ⟨nb, 0, none⟩), .int .i64 n] w (FallsR B.ld.asserts n w) := by
 have hmm := @run_makeMap Tryz.prog
 have hmf : ∀ (fn : Fn) (first cap : Array Value) (w : World), (Instr.makeFunc fn first cap).run Tryz.prog w = .ok (.func fn first cap) w := fun _ _ _ _ => rfl
 have hat := fun (W : World) (hW : Same [] w W) (k : Nat) (hk : k < B.ld.asserts.length) => At_good W nb P B (h.same hW) k hk (hN.small _ (List.getElem_mem hk)) hN.n
 have hnm := fun (W : World) (hW : Same [] w W) (k : Nat) (hk : k < B.ld.asserts.length) => Named_calls W nb P B (h.same hW) k hk (hN.small _ (List.getElem_mem hk)) hN.n (hN.pl _ (List.getElem_mem hk)) (hN.tkp _ (List.getElem_mem hk)) (hN.asc _ (List.getElem_mem hk))
 have hct := fun (W : World) (hW : Same [] w W) => Count_calls W nb P B (h.same hW)
 have hN1 := hN.n
 have hNL := fun (a : Asr) (ha : a ∈ B.ld.asserts) => hN.pl a ha
 clear h hN
 generalize B.ld.asserts = L at hat hnm hct hN1 hNL hn ⊢
 have hfe := falls_eq L n hn
 have Hat := Kd hat
 have Hnm := Kd hnm
 have HNL := Kd hNL
 have hat0 := hat w (Same.refl _ _) n hn
 obtain ⟨a, ha⟩ : ∃ a, L[n] = a := ⟨_, rfl⟩
 rw [ha] at hat0 hfe
 have Hfe := Kd hfe
 obtain ⟨i1, hi1, hz0, hz1, hz2⟩ := info_split Tryz.infoString
 obtain ⟨i2, hi2, hy0, hy1, hy2⟩ := info_split Tryz.infoStrings
 have hb1 : i1.bytes * L.length ≤ 281474976710656 := by rw [hz2]; omega
 have hb2 : i2.bytes * L.length ≤ 281474976710656 := by rw [hy2]; omega
 have hml : L.length ≤ maxLen := by unfold maxLen; omega
 clear ha hat hnm hn hfe hz2 hy2 hNL
 go_enter Tryz.func10, Tryz.ntmps10
 go_wp2_with (first
  | (go_at_call 18; go_must (refine (hat0).mono ?_; rintro e1 W1 ⟨⟨fh, fp, fg, sh, sp, pr, fes, ses⟩, rfl, hnw, hs1⟩; obtain ⟨A1, c1, A2, c2, A3, c3, A4, c4, A5, c5, A6, c6, q1, q2, q3, q4, q5, q6⟩ := hnw.inn.shapes; dsimp only at q1 q2 q3 q4 q5 q6; subst q1 q2 q3 q4 q5 q6; have Hs1 := Kd hs1; unfold asV; clear hs1 hnw))
  | (refine wp_stRow rfl 56 _ _ rfl W1.heap.size #[.int .i64 a.number, .string a.label, .bool a.isThm, .slice A1 a.hyps.length c1, .slice A2 a.pairs.length c2, .slice A3 a.goal.length c3, .slice A4 a.shyps.length c4, .slice A5 a.spairs.length c5, .slice A6 a.proof.length c6, .string a.at_.text, .int .i64 a.at_.at_.off, .int .i64 a.at_.at_.line, .int .i64 a.at_.at_.col, .string a.end_.text, .int .i64 a.end_.at_.off, .int .i64 a.end_.at_.line, .int .i64 a.end_.at_.col] (by go_simp) (by go_simp) 56 #[.int .i64 0, .string ⟨#[]⟩, .bool false, .slice none 0 0, .slice none 0 0, .slice none 0 0, .slice none 0 0, .slice none 0 0, .slice none 0 0, .string ⟨#[]⟩, .int .i64 0, .int .i64 0, .int .i64 0, .string ⟨#[]⟩, .int .i64 0, .int .i64 0, .int .i64 0] (blk_new W1 (.cells #[.int .i64 0, .string ⟨#[]⟩, .bool false, .slice none 0 0, .slice none 0 0, .slice none 0 0, .slice none 0 0, .slice none 0 0, .slice none 0 0, .string ⟨#[]⟩, .int .i64 0, .int .i64 0, .int .i64 0, .string ⟨#[]⟩, .int .i64 0, .int .i64 0, .int .i64 0] 56)) (by kernel_rfl) rfl (by simp [Value.oneCell']) ?_; intro W2 hB2 hs2; have Hs12 : Hid (Same [] W1 W2) := Kd ((Same.alloc [] W1 _).then hs2 fun x hx => .inr (by simp at hx; omega)); obtain ⟨-, b1, -, -, -, -, -, -, -, -, -, -, -, -, -, -, -, bf⟩ := asO_cells (a := a) (fh := .slice A1 a.hyps.length c1) (fp := .slice A2 a.pairs.length c2) (fg := .slice A3 a.goal.length c3) (sh := .slice A4 a.shyps.length c4) (sp := .slice A5 a.spairs.length c5) (pr := .slice A6 a.proof.length c6) hB2; have bl := blk_lt hB2; have HB2 := Kd hB2; clear hB2 hs2)
  | (refine wp_sins (SMap.new W2) Tryz.underlying95 Tryz.underlying9 rfl _ _ _ rfl a.label (.agg #[]) (by go_simp) (by go_simp <;> rfl) (by go_simp) ?_; intro W3 hm3 hs3; have Hs23 : Hid (Same [] W2 W3) := Kd ((Same.alloc [] W2 (.map #[] 0)).then hs3 (fun x hx => .inr (by simp at hx; omega))); have Hm3 := Kd hm3; have Hs3 : Hid (Same [] w W3) := Kd ((Hs1.out.trans Hs12.out).trans Hs23.out); clear hm3 hs3)
  | (go_at_call 16; go_must ((first | refine (hct _ (Hs3.out.trans Hs5.out)).mono ?_ | refine (hct _ Hs3.out).mono ?_); rintro e4 W4 ⟨rfl, hw4⟩; have hw5 := hw4.symm; subst hw5; clear hw4))
  | (at_make; refine wpList_make_full W3 rfl _ _ 66 rfl 0 9 i1 _ 1 Tryz.underlying66 hi1 hz0 hz1 .i64 .i64 L.length L.length L.length rfl rfl rfl rfl hb1 hml (Nat.zero_le _) ?_; intro W5 hr5 hg5; have hs5 := Same.of_grown hg5; have Hr5 := Kd hr5; have Hs5 : Hid (Same [] W3 W5) := Kd hs5; clear hr5 hg5 hs5)
  | (at_make; refine wpList_make_full W5 rfl _ _ 96 rfl 0 66 i2 _ 1 Tryz.underlying96 hi2 hy0 hy1 .i64 .i64 L.length L.length L.length rfl rfl rfl rfl hb2 hml (Nat.zero_le _) ?_; intro W6 hr6 hg6; have hs6 := Same.of_grown hg6; have Hr6 := Kd hr6; have Hs6 : Hid (Same [] W5 W6) := Kd hs6; clear hr6 hg6 hs6)
  )
 have hF0 : FalS w W6 L [] [a.label] W3.heap.size W5.heap.size W2.heap.size (List.replicate L.length ⟨#[]⟩) [] (List.replicate L.length (.slice none 0 0)) := by
  have hr5 := Hr5.out
  have hr6 := Hr6.out
  rw [madeStr] at hr5
  rw [madeSl] at hr6
  have hm3 : SMap W3 W2.heap.size (setM [a.label]) := Hm3.out
  refine ⟨Row.same hr5 Hs6.out (by simp), hr6, trivial, hm3.same (Hs5.out.trans Hs6.out) (by simp), (Hs3.out.trans Hs5.out).trans Hs6.out, Hs3.out.size, (Hs3.out.trans Hs5.out).size, (Hs1.out.trans Hs12.out).size⟩
 have h0 : FalI1 w L [a.label] W3.heap.size W5.heap.size W2.heap.size (.int .i64 0) W6 := ⟨0, [], Nat.zero_le _, rfl, rfl, by simpa [filled] using hF0⟩
 obtain ⟨gl, hgl⟩ : ∃ g, W3.heap.size = g := ⟨_, rfl⟩
 obtain ⟨gn, hgn⟩ : ∃ g, W5.heap.size = g := ⟨_, rfl⟩
 obtain ⟨bm, hbm⟩ : ∃ g, W2.heap.size = g := ⟨_, rfl⟩
 rw [hgl, hgn, hbm] at h0
 simp only [hgl, hgn, hbm]
 have H0 := Kd h0
 clear h0 hF0 Hr5 Hr6 Hm3 Hs3 Hs5 Hs6 Hs23 Hs12 Hs1 HB2 b1 bf bl hi1 hi2 hz0 hz1 hy0 hy1 hb1 hb2 hat0
 clear hgl hgn hbm
 go_loopw [44] (fun u wr => FalI1 w L [a.label] gl gn bm u wr) (fun u _ => L.length - (intOf u).toNat)
 case atStart => exact H0.out
 case round =>
  obtain ⟨k, us, hk, rfl, hul, hS⟩ := hrel
  by_cases hlt : k < L.length
  ·have hat1 := Hat.out wr hS.same k hlt
   have hnm1 := fun (W : World) (hW : Same [] w W) => Hnm.out W hW k hlt
   have htk : L.take (k + 1) = L.take k ++ [L[k]] := List.take_succ_eq_append_getElem hlt
   obtain ⟨a, ha⟩ : ∃ a, L[k] = a := ⟨_, rfl⟩
   rw [ha] at hat1 hnm1 htk
   have Htk := Kd htk
   have HS := Kd hS
   have Hul := Kd hul
   clear ha htk hS hul H0
   go_wp2_with (first
    | (go_at_call 18; go_must (refine (hat1).mono ?_; rintro e1 W1 ⟨⟨fh, fp, fg, sh, sp, pr, fes, ses⟩, rfl, hnw, hs1⟩; obtain ⟨A1, c1, A2, c2, A3, c3, A4, c4, A5, c5, A6, c6, q1, q2, q3, q4, q5, q6⟩ := hnw.inn.shapes; dsimp only at q1 q2 q3 q4 q5 q6; subst q1 q2 q3 q4 q5 q6; have Hs1 := Kd hs1; unfold asV; clear hs1 hnw))
    | (
     (refine wp_stRow rfl 56 _ _ rfl W1.heap.size #[.int .i64 a.number, .string a.label, .bool a.isThm, .slice A1 a.hyps.length c1, .slice A2 a.pairs.length c2, .slice A3 a.goal.length c3, .slice A4 a.shyps.length c4, .slice A5 a.spairs.length c5, .slice A6 a.proof.length c6, .string a.at_.text, .int .i64 a.at_.at_.off, .int .i64 a.at_.at_.line, .int .i64 a.at_.at_.col, .string a.end_.text, .int .i64 a.end_.at_.off, .int .i64 a.end_.at_.line, .int .i64 a.end_.at_.col] (by go_simp) (by go_simp) 56 #[.int .i64 0, .string ⟨#[]⟩, .bool false, .slice none 0 0, .slice none 0 0, .slice none 0 0, .slice none 0 0, .slice none 0 0, .slice none 0 0, .string ⟨#[]⟩, .int .i64 0, .int .i64 0, .int .i64 0, .string ⟨#[]⟩, .int .i64 0, .int .i64 0, .int .i64 0] (blk_new W1 (.cells #[.int .i64 0, .string ⟨#[]⟩, .bool false, .slice none 0 0, .slice none 0 0, .slice none 0 0, .slice none 0 0, .slice none 0 0, .slice none 0 0, .string ⟨#[]⟩, .int .i64 0, .int .i64 0, .int .i64 0, .string ⟨#[]⟩, .int .i64 0, .int .i64 0, .int .i64 0] 56)) (by kernel_rfl) rfl (by simp [Value.oneCell']) ?_; intro W2 hB2 hs2; have Hs12 : Hid (Same [] W1 W2) := Kd ((Same.alloc [] W1 _).then hs2 fun x hx => .inr (by simp at hx; omega)); obtain ⟨-, b1, -, -, -, -, -, -, -, -, -, -, -, -, -, -, -, bf⟩ := asO_cells (a := a) (fh := .slice A1 a.hyps.length c1) (fp := .slice A2 a.pairs.length c2) (fg := .slice A3 a.goal.length c3) (sh := .slice A4 a.shyps.length c4) (sp := .slice A5 a.spairs.length c5) (pr := .slice A6 a.proof.length c6) hB2; have bl := blk_lt hB2; have HB2 := Kd hB2; clear hB2 hs2)
     ; have hF2 := HS.out.next (Hs1.out.trans Hs12.out); obtain ⟨lc1, lc2⟩ := hF2.labCell hlt (by simp [filled]; omega); have HF2 := Kd hF2; clear hF2)
    | (go_at_call 35; go_must (refine (hnm1 _ (HF2.out.setLab hlt a.label).same).mono ?_; rintro e5 W5 ⟨v5, n5, rfl, hr5, hf5, hs5⟩; obtain ⟨A5', c5', rfl⟩ := hr5.shape; have hF5 := (HF2.out.setLab hlt a.label).next hs5; obtain ⟨nc1, nc2⟩ := hF5.namCell hlt (by simp [filled]; omega); have HF5 := Kd (hF5.push hr5 hf5 (HF2.out.setLab hlt a.label).lts); clear hF5 hr5 hf5 hs5))
    )
   go_roundw
   case rel =>
    have h := HF5.out.setNam hlt (.slice A5' (namedOf a).length c5')
    have e1 := filled_set ((L.take k).map (·.label)) L.length (⟨#[]⟩ : ByteArray) a.label (by simp; omega)
    have e2 := filled_set us L.length (.slice none 0 0) (.slice A5' (namedOf a).length c5') (by rw [Hul.out]; exact hlt)
    rw [List.length_map, List.length_take, Nat.min_eq_left hk] at e1
    rw [Hul.out] at e2
    rw [e1, e2] at h
    refine ⟨k + 1, us ++ [.slice A5' (namedOf a).length c5'], hlt, by go_num, by simp [Hul.out], ?_⟩
    rw [Htk.out, List.map_append]
    exact h
   case measure => simp [intOf]; omega
  ·have hkk : k = L.length := by omega
   subst hkk
   have hz1 : filled ((L.take L.length).map (·.label)) L.length (⟨#[]⟩ : ByteArray) = L.map (·.label) := by simp [filled]
   have hz2 : filled us L.length (.slice none 0 0) = us := by simp [filled, hul]
   rw [hz1, hz2, List.take_length] at hS
   have h2 : FalI2 w L (fallGo L (L.length + 1) [a.label]) us gl gn bm (.bool true) wr := ⟨[a.label], true, rfl, ⟨L.length + 1, by have := stays_le L [a.label]; omega, rfl⟩, by have := stays_le L [a.label]; simp; omega, hS⟩
   obtain ⟨F, hF⟩ : ∃ F, fallGo L (L.length + 1) [a.label] = F := ⟨_, rfl⟩
   rw [hF] at h2 Hfe
   have H2 := Kd h2
   clear hz1 hz2 hS h2 hF Hat Hnm hct H0
   go_wp2
   go_loopw [15] (fun u wr => FalI2 w L F us gl gn bm u wr) (fun u wr => 2 * (L.length + 1 - mapLen wr bm) + boolN u)
   case atStart => exact H2.out
   case round =>
    obtain ⟨S, m, rfl, hm, hinv, hS⟩ := hrel
    cases m with
    | true =>
     rw [if_pos rfl] at hm
     obtain ⟨f, hf, hfF⟩ := hm
     have hlu := hul
     have hml0 := mapLen_of hS.map
     have h3 : FalI3 w L S us gl gn bm (.bool false) (.int .i64 0) wr := ⟨0, Nat.zero_le _, rfl, rfl, hS⟩
     have H3 := Kd h3
     have Hinv := Kd hinv
     have HfF := Kd hfF
     have Hml0 := Kd hml0
     clear h3 hinv hS hfF hml0 H2
     go_wp2
     go_loopw [15, 71] (fun v u wr => FalI3 w L S us gl gn bm v u wr) (fun _ u _ => L.length - (intOf u).toNat)
     case atStart => exact H3.out
     case round =>
      obtain ⟨k, hk, rfl, rfl, hS⟩ := hrel
      by_cases hlt : k < L.length
      ·obtain ⟨⟨S1, m1⟩, hp⟩ : ∃ p, (L.take k).foldl fallStep (S, false) = p := ⟨_, rfl⟩
       have hst := fold_take L (S, false) k hlt
       rw [hp] at hS hst
       simp only [hp]
       obtain ⟨nc1, nc2⟩ := hS.namCell hlt (by omega)
       obtain ⟨lc1, lc2⟩ := hS.labCell hlt (by simpa using hlt)
       rw [List.getElem_map] at lc1
       obtain ⟨b1, hb1, hfx⟩ := hS.nms.get (List.getElem?_eq_getElem (show k < us.length by omega))
       rw [List.getElem?_eq_getElem hlt] at hb1
       have hb2 := Option.some.inj hb1
       subst hb2
       have hrk := hfx.row
       obtain ⟨Ak, ck, hus⟩ := hrk.shape
       rw [hus] at nc1 hrk
       have hnl : (namedOf L[k]).length ≤ 1000000 := by have := namedOf_len L[k]; have := HNL.out L[k] (List.getElem_mem hlt); omega
       obtain ⟨a, ha⟩ : ∃ a, L[k] = a := ⟨_, rfl⟩
       rw [ha] at lc1 nc1 hrk hnl hst
       have hgs := goes_calls wr bm S1 hS.map a.label
       have hcs := fun (W : World) (hW : Same [] wr W) => SContains_calls W (.slice Ak (namedOf a).length ck) (namedOf a) (hrk.same hW (by simp)) hnl bm S1 (hS.map.same hW (by simp))
       have HS := Kd hS
       have Ha := Kd ha
       clear hp hb1 hfx hus hrk hnl hS ha H3
       cases hin : inS a.label S1 with
       | true =>
        rw [hin] at hgs
        rw [fallStep_1 hin] at hst
        have Hst := Kd hst
        clear hin hst hcs
        go_wp2_with (go_at_call 34; go_must (refine hgs.mono ?_; rintro e1 W1 ⟨rfl, hs1⟩; have Hs1 := Kd hs1; clear hs1))
        go_roundw
        case rel => exact ⟨k + 1, hlt, by go_num, by rw [Hst.out], by rw [Hst.out]; exact HS.out.next Hs1.out⟩
        case measure => simp [intOf]; omega
       | false =>
        rw [hin] at hgs
        cases han : (namedOf a).any fun s => inS s S1 with
        | false =>
         simp only [han] at hcs
         rw [fallStep_2 hin han] at hst
         have Hst := Kd hst
         clear hin hst han
         go_wp2_with (first
          | (go_at_call 34; go_must (refine hgs.mono ?_; rintro e1 W1 ⟨rfl, hs1⟩; have Hs1 := Kd hs1; clear hs1))
          | (go_at_call 36; go_must (refine (hcs _ Hs1.out).mono ?_; rintro e2 W2 ⟨rfl, hs2⟩; have Hs2 := Kd hs2; clear hs2)))
         go_roundw
         case rel => exact ⟨k + 1, hlt, by go_num, by rw [Hst.out], by rw [Hst.out]; exact HS.out.next (Hs1.out.trans Hs2.out)⟩
         case measure => simp [intOf]; omega
        | true =>
         simp only [han] at hcs
         rw [fallStep_3 hin han] at hst
         have Hst := Kd hst
         have hno : aget a.label (setM S1) = none := by rw [setM_get, hin]; rfl
         have hpt : aput a.label (.agg #[]) (setM S1) = setM (S1 ++ [a.label]) := by rw [setM_put, hin]; rfl
         have Hno := Kd hno
         have Hpt := Kd hpt
         clear hin hst han hno hpt
         go_wp2_with (first
          | (go_at_call 34; go_must (refine hgs.mono ?_; rintro e1 W1 ⟨rfl, hs1⟩; have Hs1 := Kd hs1; clear hs1))
          | (go_at_call 36; go_must (refine (hcs _ Hs1.out).mono ?_; rintro e2 W2 ⟨rfl, hs2⟩; have hF2 := HS.out.next (Hs1.out.trans hs2); obtain ⟨ld1, ld2⟩ := hF2.labCell hlt (by simpa using hlt); rw [List.getElem_map, Ha.out] at ld1; have HF2 := Kd hF2; clear hs2 hF2))
          | (refine wp_sentry HF2.out.map Tryz.underlying95 Tryz.underlying9 rfl _ _ rfl a.label rfl rfl Hno.out (.agg #[]) (zeroUnit _) ?_; intro W3 c3 hm3 hB3 hs3; rw [Hpt.out] at hm3; have HF3 := Kd (HF2.out.setMap hs3 hm3); have HB3 := Kd hB3; clear hm3 hB3 hs3)
          | (refine wp_sfill HF3.out.map _ HB3.out (.agg #[]) (setM_unit _) rfl _ _ _ rfl rfl rfl rfl ?_; intro W4 hm4 hs4; have HF4 := Kd (HF3.out.setMap hs4 hm4); clear hm4 hs4))
         go_roundw
         case rel => exact ⟨k + 1, hlt, by go_num, by rw [Hst.out], by rw [Hst.out]; exact HF4.out⟩
         case measure => simp [intOf]; omega
      ·have hkk : k = L.length := by omega
       subst hkk
       rw [List.take_length] at hS ⊢
       obtain ⟨v1, v2, v3⟩ := fallFold_inv L L (S, false) fun _ h => h
       have hps := fun h => fallPass_stays L S h
       obtain ⟨f0, rfl⟩ : ∃ f0, f = f0 + 1 := ⟨f - 1, by omega⟩
       have hfF := HfF.out
       rw [fallGo] at hfF
       unfold fallPass at hfF hps
       obtain ⟨⟨S1, m1⟩, hp⟩ : ∃ p, L.foldl fallStep (S, false) = p := ⟨_, rfl⟩
       rw [hp] at hS v1 v2 v3 hps hfF
       simp only [hp]
       dsimp only at hS v1 v2 v3 hps hfF
       have hml1 := mapLen_of hS.map
       have HS := Kd hS
       have Hv1 := Kd v1
       have Hv2 := Kd v2
       have Hv3 := Kd v3
       have Hps := Kd hps
       have HfF2 := Kd hfF
       have Hml1 := Kd hml1
       clear hS v1 v2 v3 hps hp hfF hml1 HfF H3
       go_wp2
       go_roundw
       case rel =>
        have e1 := Hv1.out
        have e2 := Hinv.out
        refine ⟨S1, m1, rfl, ?_, by omega, HS.out⟩
        have h9 := HfF2.out
        have h8 := Hps.out
        cases m1 with
        | true => rw [if_pos rfl] at h9 ⊢; exact ⟨f0, by have := h8 rfl; omega, h9⟩
        | false => rw [if_neg (by decide)] at h9 ⊢; exact h9
       case measure =>
        have e1 := Hv1.out
        have e2 := Hinv.out
        have e3 := Hv2.out
        have e4 := Hv3.out
        have e5 := Hml0.out
        have e6 := Hml1.out
        rw [e5, e6]
        cases m1 with
        | true =>
         have := (e4 rfl).resolve_left (by decide)
         simp [boolN]
         omega
        | false => simp [boolN]; omega
    | false =>
     rw [if_neg (by decide)] at hm
     subst hm
     obtain ⟨F, hF⟩ : ∃ F, S = F := ⟨_, rfl⟩
     have h4 : FalI4 w L S us gl gn bm (.slice none 0 0) (.int .i64 0) wr := ⟨0, Nat.zero_le _, rfl, World.ownsRow_nil _ _ _ _, by simp [FreshB, Value.ownBlock], hS⟩
     have H4 := Kd h4
     clear h4 hinv hS hF H2
     go_wp2
     go_loopw [18, 99] (fun v u wr => FalI4 w L S us gl gn bm v u wr) (fun _ u _ => L.length - (intOf u).toNat)
     case atStart => exact H4.out
     case round =>
      obtain ⟨k, hk, rfl, hr, hf, hS⟩ := hrel
      by_cases hlt : k < L.length
      ·obtain ⟨lc1, lc2⟩ := hS.labCell hlt (by simpa using hlt)
       rw [List.getElem_map] at lc1
       have hgs := goes_calls wr bm S hS.map L[k].label
       have hst := outTo_step S L k hlt
       have hol := outTo_len S L k
       obtain ⟨Av, cv, rfl⟩ := hr.shape
       have HS := Kd hS
       have Hr := Kd hr
       have Hf := Kd hf
       clear hS hr hf H4
       cases hin : inS L[k].label S with
       | true =>
        rw [hin] at hgs
        rw [if_pos hin] at hst
        have Hst := Kd hst
        clear hin hst
        go_wp2_with (first
         | (go_at_call 34; go_must (refine hgs.mono ?_; rintro e1 W1 ⟨rfl, hs1⟩; have Hs1 := Kd hs1; clear hs1))
         | (at_builtin; refine wp_push (W := W1) rfl _ _ 31 rfl 3 1 8 _ Tryz.underlying31 Tryz.infoInt rfl (by decide) (.slice Av (outTo S L k).length cv) _ _ rfl (Hr.out.same Hs1.out (by simp)) [.int .i64 k] rfl rfl (by simp [Value.oneCell']) (by omega) (by decide) ?_; go_must (intro v6 W6 hr6 hs6 ho6; obtain ⟨A6', c6', rfl⟩ := hr6.shape; have Hr6 := Kd hr6; have Hs6 := Kd hs6; have Ho6 := Kd ho6; clear hr6 hs6 ho6)))
        go_roundw
        case rel =>
         have hr6 := Hr6.out
         refine ⟨k + 1, hlt, by go_num, ?_, Hf.out.next (HS.out.same.trans Hs1.out).size Ho6.out, (HS.out.next Hs1.out).apart (Hr.out.same Hs1.out (by simp)) Hf.out Hs6.out⟩
         rw [Hst.out, List.length_append, intCells_snoc]
         exact hr6
        case measure => simp [intOf]; omega
       | false =>
        rw [hin] at hgs
        rw [if_neg (by rw [hin]; decide)] at hst
        have Hst := Kd hst
        clear hin hst
        go_wp2_with (go_at_call 34; go_must (refine hgs.mono ?_; rintro e1 W1 ⟨rfl, hs1⟩; have Hs1 := Kd hs1; clear hs1))
        go_roundw
        case rel => exact ⟨k + 1, hlt, by go_num, by rw [Hst.out]; exact Hr.out.same Hs1.out (by simp), Hf.out, HS.out.next Hs1.out⟩
        case measure => simp [intOf]; omega
      ·have hkk : k = L.length := by omega
       subst hkk
       obtain ⟨Av, cv, rfl⟩ := hr.shape
       have Hr := Kd hr
       have Hf := Kd hf
       have Hs := Kd hS.same
       clear hr hf hS H4
       go_wp2
       go_ret2
       unfold FallsR
       rw [Hfe.out]
       exact ⟨.slice Av _ cv, rfl, Hr.out, Hf.out, Hs.out⟩
end Go.Proofs.YtdhkmfpfbjcdiaaGreatDoor
