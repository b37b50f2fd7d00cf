/- lemmalaw texts, part 5. -/
import Derived.Test.YtbfbgfpghkijdaaGreatDoorYab
set_option maxRecDepth 100000
set_option linter.unusedVariables false
set_option linter.unusedSimpArgs false
set_option maxHeartbeats 32000000
namespace Go.Proofs.YtbfbgfpghkijdaaGreatDoor
open Go.RowKit
structure Tbl where
 syms : List (ByteArray × Bool)
 numbers : List (ByteArray × Nat)
 active : List (ByteArray × Nat)
 scopes : List (List Nat)
 taken : List (ByteArray × Nat)
 labels : List ByteArray
def Em (l : List (ByteArray × Bool)) : List Value := l.flatMap fun p => [.string p.1, .bool p.2]
def Cd (l : List (ByteArray × Nat)) : List (ByteArray × Value) := l.map fun p => (p.1, .int .i64 p.2)
def DI (l : List Nat) : List Value := l.map fun (n : Nat) => Value.int .i64 n
def DP (l : List ByteArray) : List Value := l.map fun s => .string s
structure TA where
 vs : Value
 mn : Nat
 ma : Nat
 vc : Value
 mt : Nat
 vl : Value
 inner : List Value
structure AW (w : World) (t : Nat) (A : TA) (T : Tbl) : Prop where
 blk : w.heap[t]? = some (.cells #[A.vs, .map (some A.mn), .map (some A.ma), A.vc, .map (some A.mt), A.vl] 131 (0, 0))
 syms : Row w 136 2 A.vs T.syms.length (Em T.syms)
 numbers : BN w A.mn (Cd T.numbers)
 active : BN w A.ma (Cd T.active)
 scopes : Row w 212 1 A.vc T.scopes.length A.inner
 inner : A.inner.length = T.scopes.length ∧ ∀ (i : Nat) (v : Value) (l : List Nat), A.inner[i]? = some v → T.scopes[i]? = some l → Row w 3 1 v l.length (DI l)
 apart : ∀ (i j : Nat) (u v : Value) (b : Nat), A.inner[i]? = some u → A.inner[j]? = some v → u.ownBlock = some b → v.ownBlock = some b → i = j
 taken : BN w A.mt (Cd T.taken)
 labels : Row w 9 1 A.vl T.labels.length (DP T.labels)
 maps : A.mn ≠ A.ma ∧ A.mn ≠ A.mt ∧ A.ma ≠ A.mt
def TA.blocks (A : TA) (t : Nat) : List Nat := t :: A.mn :: A.ma :: A.mt :: (A.vs.ownBlock.toList ++ A.vc.ownBlock.toList ++ A.vl.ownBlock.toList ++ A.inner.flatMap fun v => v.ownBlock.toList)
theorem AW.same {w w' : World} {t : Nat} {A : TA} {T : Tbl} {S : List Nat} (h : AW w t A T) (hs : Ad S w w') (hd : ∀ b ∈ A.blocks t, b ∉ S) : AW w' t A T := {
 blk := hs.get h.blk (hd _ (by simp [TA.blocks]))
 syms := h.syms.same hs fun b hb => hd _ (by simp [TA.blocks, hb])
 numbers := h.numbers.same hs (hd _ (by simp [TA.blocks]))
 active := h.active.same hs (hd _ (by simp [TA.blocks]))
 scopes := h.scopes.same hs fun b hb => hd _ (by simp [TA.blocks, hb])
 inner := ⟨h.inner.1, fun i v l hv hl => (h.inner.2 i v l hv hl).same hs fun b hb => hd _ (by
  have := List.mem_of_getElem? hv
  simp only [TA.blocks, List.mem_cons, List.mem_append, List.mem_flatMap]
  exact .inr (.inr (.inr (.inr (.inr ⟨v, this, by simp [hb]⟩)))))⟩
 apart := h.apart
 taken := h.taken.same hs (hd _ (by simp [TA.blocks]))
 labels := h.labels.same hs fun b hb => hd _ (by simp [TA.blocks, hb])
 maps := h.maps }
theorem AW.lt {w : World} {t : Nat} {A : TA} {T : Tbl} (h : AW w t A T) : ∀ b ∈ A.blocks t, b < w.heap.size := by
 intro b hb
 simp only [TA.blocks, List.mem_cons, List.mem_append, List.mem_flatMap, Option.mem_toList] at hb
 rcases hb with rfl | rfl | rfl | rfl | ((hb | hb) | hb) | ⟨v, hv, hb⟩
 ·exact Af h.blk
 ·exact h.numbers.lt
 ·exact h.active.lt
 ·exact h.taken.lt
 ·exact h.syms.lt hb
 ·exact h.scopes.lt hb
 ·exact h.labels.lt hb
 ·obtain ⟨i, hi⟩ := List.getElem?_of_mem hv
  have : i < T.scopes.length := by rw [← h.inner.1]; exact (List.getElem?_eq_some_iff.1 hi).1
  exact (h.inner.2 i v _ hi (List.getElem?_eq_getElem this)).lt hb
theorem Tryz.infoSymbol : (Tryz.prog.info? 136).map (fun i => (i.zero, i.size, i.bytes)) = some (some (.agg #[.string ByteArray.empty, .bool false]), 2, 24) := by kernel_rfl
theorem AW.c0 {w : World} {t : Nat} {A : TA} {T : Tbl} (h : AW w t A T) : ∃ As cs, A.vs = .slice As T.syms.length cs ∧ w.cell? ⟨t, 0, none⟩ = some (.slice As T.syms.length cs) := by
 obtain ⟨As, cs, hvs⟩ := h.syms.shape
 exact ⟨As, cs, hvs, by rw [Cc h.blk, hvs]; rfl⟩
theorem FQ : ∀ (l : List (ByteArray × Bool)) (i : Nat) (h : i < l.length), (Em l).getD (i * 2) undef = .string l[i].1 ∧ (Em l).getD (i * 2 + 1) undef = .bool l[i].2
 | p :: l, 0, _ => ⟨rfl, rfl⟩
 | p :: l, i + 1, h => by
  have := FQ l i (by simpa using h)
  rw [show (i + 1) * 2 = i * 2 + 1 + 1 by omega]
  exact this
theorem AW.sym_at {w : World} {t : Nat} {A : TA} {T : Tbl} (h : AW w t A T) {i : Nat} (hi : i < T.syms.length) :
  ∃ g cs, A.vs = .slice (some ⟨g, 0, none⟩) T.syms.length cs ∧ w.cell? ⟨t, 0, none⟩ = some (.slice (some ⟨g, 0, none⟩) T.syms.length cs) ∧ w.cell? ⟨g, i * 2, none⟩ = some (.string T.syms[i].1) ∧ w.cell? ⟨g, i * 2 + 1, none⟩ = some (.bool T.syms[i].2) := by
 obtain ⟨g, cs, hvs, h0, _⟩ := h.syms.cell (j := i * 2) (by omega)
 obtain ⟨g', cs', hvs', h1, _⟩ := h.syms.cell (j := i * 2 + 1) (by omega)
 rw [hvs] at hvs'
 cases hvs'
 refine ⟨g, cs, hvs, by rw [Cc h.blk, hvs]; rfl, ?_, ?_⟩
 ·rw [h0, (FQ _ _ hi).1]
 ·rw [h1, (FQ _ _ hi).2]
theorem F0 (w : World) (t : Nat) (A : TA) (T : Tbl) (h : AW w t A T) (n : Int) :
  Calls Tryz.prog 54 #[.pointer (some ⟨t, 0, none⟩), .int .i64 n] w fun e w' => e = .returned (.bool (decide (0 ≤ n ∧ n < T.syms.length))) ∧ w = w' := by
 obtain ⟨As, cs, _, c0⟩ := h.c0
 clear h
 by_cases h0 : 0 ≤ n
 ·go_enter Tryz.func54, Tryz.ntmps54
  go_wp2
  go_ret
  exact ⟨by simp [h0], rfl⟩
 ·go_enter Tryz.func54, Tryz.ntmps54
  go_wp2
  go_ret
  exact ⟨B9 (by simp; omega), rfl⟩
theorem Ga (w : World) (t : Nat) (A : TA) (T : Tbl) (h : AW w t A T) (n : Int) :
  Calls Tryz.prog 30 #[.pointer (some ⟨t, 0, none⟩), .int .i64 n] w fun e w' => e = .returned (.bool (decide (0 ≤ n) && ((T.syms[n.toNat]?).map (·.2)).getD false)) ∧ w = w' := by
 by_cases h0 : 0 ≤ n ∧ n < T.syms.length
 ·obtain ⟨n, rfl⟩ := Int.eq_ofNat_of_zero_le h0.1
  have hn : n < T.syms.length := by omega
  obtain ⟨g, cs, _, c0, c1, c2⟩ := h.sym_at hn
  have hc := F0 w t A T h n
  clear h
  go_enter Tryz.func30, Tryz.ntmps30
  go_wp2_with (go_at_call 54; refine hc.mono ?_; rintro e w' ⟨rfl, rfl⟩)
  go_ret
  exact ⟨B9 (by simp [hn]), rfl⟩
 ·have hr : (decide (0 ≤ n) && ((T.syms[n.toNat]?).map (·.2)).getD false) = false := by
   by_cases h1 : 0 ≤ n
   ·have : T.syms.length ≤ n.toNat := by omega
    simp [List.getElem?_eq_none this]
   ·simp [h1]
  have hc := F0 w t A T h n
  rw [decide_eq_false h0] at hc
  have Hr := Kd hr
  clear h hr
  go_enter Tryz.func30, Tryz.ntmps30
  go_wp2_with (go_at_call 54; refine hc.mono ?_; rintro e w' ⟨rfl, rfl⟩)
  go_ret
  exact ⟨B9 Hr.out.symm, rfl⟩
theorem Ko (w : World) (t : Nat) (A : TA) (T : Tbl) (h : AW w t A T) (n : Nat) (hn : n < T.syms.length) :
  Calls Tryz.prog 36 #[.pointer (some ⟨t, 0, none⟩), .int .i64 n] w fun e w' => e = .returned (.string T.syms[n].1) ∧ w = w' := by
 obtain ⟨g, cs, _, c0, c1, c2⟩ := h.sym_at hn
 have hc := F0 w t A T h n
 rw [decide_eq_true (by omega)] at hc
 clear h
 go_enter Tryz.func36, Tryz.ntmps36
 go_wp2_with (go_at_call 54; refine hc.mono ?_; rintro e w' ⟨rfl, rfl⟩)
 go_ret
 exact ⟨rfl, rfl⟩
theorem Je (w : World) (t : Nat) (A : TA) (T : Tbl) (h : AW w t A T) :
  Calls Tryz.prog 35 #[.pointer (some ⟨t, 0, none⟩)] w fun e w' => e = .returned (.int .i64 T.syms.length) ∧ w = w' := by
 obtain ⟨As, cs, _, c0⟩ := h.c0
 clear h
 go_enter Tryz.func35, Tryz.ntmps35
 go_wp2
 go_ret
 exact ⟨rfl, rfl⟩
theorem AW.c3 {w : World} {t : Nat} {A : TA} {T : Tbl} (h : AW w t A T) : ∃ As cs, A.vc = .slice As T.scopes.length cs ∧ w.cell? ⟨t, 3, none⟩ = some (.slice As T.scopes.length cs) := by
 obtain ⟨As, cs, hvs⟩ := h.scopes.shape
 exact ⟨As, cs, hvs, by rw [Cc h.blk, hvs]; rfl⟩
theorem Ek (w : World) (t : Nat) (A : TA) (T : Tbl) (h : AW w t A T) :
  Calls Tryz.prog 33 #[.pointer (some ⟨t, 0, none⟩)] w fun e w' => e = .returned (.int .i64 T.scopes.length) ∧ w = w' := by
 obtain ⟨As, cs, _, c3⟩ := h.c3
 clear h
 go_enter Tryz.func33, Tryz.ntmps33
 go_wp2
 go_ret
 exact ⟨rfl, rfl⟩
theorem Bu (k : ByteArray) (l : List (ByteArray × Nat)) : AJ k (Cd l) = (AJ k l).map (fun n : Nat => Value.int .i64 n) := by
 induction l with
 | nil => rfl
 | cons p l ih => simp only [Cd, List.map_cons, AJ] at ih ⊢; split <;> simp_all
theorem Dp (w : World) : (zeroValue 3).run Tryz.prog w = .ok (.int .i64 0) w := by kernel_rfl
theorem Kk (w : World) (t : Nat) (A : TA) (T : Tbl) (h : AW w t A T) (s : ByteArray) :
  Calls Tryz.prog 152 #[.pointer (some ⟨t, 0, none⟩), .string s] w fun e w' => e = .returned (.tuple #[.int .i64 ((AJ s T.active).getD 0), .bool (AJ s T.active).isSome]) ∧ w = w' := by
 have c2 := Ai h.blk (i := 2) (v := .map (some A.ma)) rfl
 have hl := h.active.run_lookup Tryz.underlying84 Tryz.underlying9 (Dp w) s true
 rw [Bu] at hl
 cases hg : AJ s T.active
 all_goals
  rw [hg] at hl
  dsimp only [Option.map, Option.getD, Option.isSome] at hl
  rw [if_pos rfl] at hl
  clear h hg
  go_enter Tryz.func152, Tryz.ntmps152
  go_wp2
  go_ret2
  exact ⟨rfl, rfl⟩
theorem BN.ne_row {w : World} {b : Nat} {l : List (ByteArray × Value)} (h : BN w b l) {e k n : Nat} {v : Value} {xs : List Value} (hr : Row w e k v n xs) : v.ownBlock ≠ some b := by
 obtain ⟨es, cl, hb, _⟩ := h
 exact hr.ne_map hb
structure R8 (w : World) (t : Nat) (A : TA) : Prop where
 tm : A.mn ≠ t ∧ A.ma ≠ t ∧ A.mt ≠ t
 vs : A.vs.ownBlock ≠ some t ∧ A.vs.ownBlock ≠ some A.mn ∧ A.vs.ownBlock ≠ some A.ma ∧ A.vs.ownBlock ≠ some A.mt
 vc : A.vc.ownBlock ≠ some t ∧ A.vc.ownBlock ≠ some A.mn ∧ A.vc.ownBlock ≠ some A.ma ∧ A.vc.ownBlock ≠ some A.mt
 vl : A.vl.ownBlock ≠ some t ∧ A.vl.ownBlock ≠ some A.mn ∧ A.vl.ownBlock ≠ some A.ma ∧ A.vl.ownBlock ≠ some A.mt
 inn : ∀ v ∈ A.inner, v.ownBlock ≠ some t ∧ v.ownBlock ≠ some A.mn ∧ v.ownBlock ≠ some A.ma ∧ v.ownBlock ≠ some A.mt
 sc : ∀ b, A.vs.ownBlock = some b → A.vc.ownBlock ≠ some b
 sl : ∀ b, A.vs.ownBlock = some b → A.vl.ownBlock ≠ some b
 cl : ∀ b, A.vc.ownBlock = some b → A.vl.ownBlock ≠ some b
 si : ∀ b, A.vs.ownBlock = some b → ∀ v ∈ A.inner, v.ownBlock ≠ some b
 ci : ∀ b, A.vc.ownBlock = some b → ∀ v ∈ A.inner, v.ownBlock ≠ some b
 li : ∀ b, A.vl.ownBlock = some b → ∀ v ∈ A.inner, v.ownBlock ≠ some b
theorem AW.inner_row {w : World} {t : Nat} {A : TA} {T : Tbl} (h : AW w t A T) {v : Value} (hv : v ∈ A.inner) : ∃ l, Row w 3 1 v (List.length l) (DI l) := by
 obtain ⟨i, hi⟩ := List.getElem?_of_mem hv
 have : i < T.scopes.length := by rw [← h.inner.1]; exact (List.getElem?_eq_some_iff.1 hi).1
 exact ⟨_, h.inner.2 i v _ hi (List.getElem?_eq_getElem this)⟩
theorem AW.sep {w : World} {t : Nat} {A : TA} {T : Tbl} (h : AW w t A T) : R8 w t A := {
 tm := ⟨h.numbers.ne_cells h.blk, h.active.ne_cells h.blk, h.taken.ne_cells h.blk⟩
 vs := ⟨h.syms.ne h.blk (by decide), h.numbers.ne_row h.syms, h.active.ne_row h.syms, h.taken.ne_row h.syms⟩
 vc := ⟨h.scopes.ne h.blk (by decide), h.numbers.ne_row h.scopes, h.active.ne_row h.scopes, h.taken.ne_row h.scopes⟩
 vl := ⟨h.labels.ne h.blk (by decide), h.numbers.ne_row h.labels, h.active.ne_row h.labels, h.taken.ne_row h.labels⟩
 inn := fun v hv => by
  obtain ⟨l, hr⟩ := h.inner_row hv
  exact ⟨hr.ne h.blk (by decide), h.numbers.ne_row hr, h.active.ne_row hr, h.taken.ne_row hr⟩
 sc := fun b hb => h.scopes.ne_row h.syms (by decide) hb
 sl := fun b hb => h.labels.ne_row h.syms (by decide) hb
 cl := fun b hb => h.labels.ne_row h.scopes (by decide) hb
 si := fun b hb v hv => by
  obtain ⟨l, hr⟩ := h.inner_row hv
  exact hr.ne_row h.syms (by decide) hb
 ci := fun b hb v hv => by
  obtain ⟨l, hr⟩ := h.inner_row hv
  exact hr.ne_row h.scopes (by decide) hb
 li := fun b hb v hv => by
  obtain ⟨l, hr⟩ := h.inner_row hv
  exact hr.ne_row h.labels (by decide) hb }
theorem CH (k : ByteArray) (n : Nat) (l : List (ByteArray × Nat)) : Bd k (Value.int .i64 n) (Cd l) = Cd (Bd k n l) := by
 induction l with
 | nil => rfl
 | cons p l ih => simp only [Cd, List.map_cons, Bd] at ih ⊢; split <;> simp_all
theorem KC (l : List (ByteArray × Bool)) (p : ByteArray × Bool) : Em (l ++ [p]) = Em l ++ [.string p.1, .bool p.2] := by simp [Em]
structure BC (A : TA) (t : Nat) (A' : TA) (w w' : World) : Prop where
 blocks : ∀ b ∈ A'.blocks t, b ∈ A.blocks t ∨ w.heap.size ≤ b
 same : Ad (A.blocks t) w w'
theorem BC.refl (A : TA) (t : Nat) (w : World) : BC A t A w w := ⟨fun _ h => .inl h, Ad.refl _ _⟩
theorem BC.trans {A B C : TA} {t : Nat} {a b c : World} (h : BC A t B a b) (k : BC B t C b c) : BC A t C a c :=
 ⟨fun x hx => by
  rcases k.blocks x hx with h1 | h1
  ·exact h.blocks x h1
  ·exact .inr (Nat.le_trans h.same.size h1), h.same.then k.same h.blocks⟩
theorem BC.of_same {A : TA} {t : Nat} {w w' : World} (h : Ad [] w w') : BC A t A w w' := ⟨fun _ h => .inl h, h.mono (by simp)⟩
theorem Cf {v : Value} {S : List Nat} (h : ∀ x ∈ S, v.ownBlock ≠ some x) : ∀ b, v.ownBlock = some b → b ∉ S := fun b hb hm => h b hm hb
theorem AW.setNumbers {w w' : World} {t : Nat} {A : TA} {T : Tbl} {l : List (ByteArray × Nat)} (h : AW w t A T) (hm : BN w' A.mn (Cd l)) (hs : Ad [A.mn] w w') :
  AW w' t A { T with numbers := l } ∧ BC A t A w w' := by
 have sp := h.sep
 refine ⟨⟨hs.get h.blk (by simpa using sp.tm.1.symm), h.syms.same hs (Cf (by simpa using sp.vs.2.1)), hm, h.active.same hs (by simpa using h.maps.1.symm), h.scopes.same hs (Cf (by simpa using sp.vc.2.1)),
  ⟨h.inner.1, fun i u l hu hl => (h.inner.2 i u l hu hl).same hs (Cf (by simpa using (sp.inn u (List.mem_of_getElem? hu)).2.1))⟩, h.apart, h.taken.same hs (by simpa using h.maps.2.1.symm), h.labels.same hs (Cf (by simpa using sp.vl.2.1)), h.maps⟩, fun _ h => .inl h, hs.mono (by simp [TA.blocks])⟩
theorem AW.setActive {w w' : World} {t : Nat} {A : TA} {T : Tbl} {l : List (ByteArray × Nat)} (h : AW w t A T) (hm : BN w' A.ma (Cd l)) (hs : Ad [A.ma] w w') :
  AW w' t A { T with active := l } ∧ BC A t A w w' := by
 have sp := h.sep
 refine ⟨⟨hs.get h.blk (by simpa using sp.tm.2.1.symm), h.syms.same hs (Cf (by simpa using sp.vs.2.2.1)), h.numbers.same hs (by simpa using h.maps.1), hm, h.scopes.same hs (Cf (by simpa using sp.vc.2.2.1)),
  ⟨h.inner.1, fun i u l hu hl => (h.inner.2 i u l hu hl).same hs (Cf (by simpa using (sp.inn u (List.mem_of_getElem? hu)).2.2.1))⟩, h.apart, h.taken.same hs (by simpa using h.maps.2.2.symm), h.labels.same hs (Cf (by simpa using sp.vl.2.2.1)), h.maps⟩, fun _ h => .inl h, hs.mono (by simp [TA.blocks])⟩
theorem AW.setTaken {w w' : World} {t : Nat} {A : TA} {T : Tbl} {l : List (ByteArray × Nat)} (h : AW w t A T) (hm : BN w' A.mt (Cd l)) (hs : Ad [A.mt] w w') :
  AW w' t A { T with taken := l } ∧ BC A t A w w' := by
 have sp := h.sep
 refine ⟨⟨hs.get h.blk (by simpa using sp.tm.2.2.symm), h.syms.same hs (Cf (by simpa using sp.vs.2.2.2)), h.numbers.same hs (by simpa using h.maps.2.1), h.active.same hs (by simpa using h.maps.2.2), h.scopes.same hs (Cf (by simpa using sp.vc.2.2.2)),
  ⟨h.inner.1, fun i u l hu hl => (h.inner.2 i u l hu hl).same hs (Cf (by simpa using (sp.inn u (List.mem_of_getElem? hu)).2.2.2))⟩, h.apart, hm, h.labels.same hs (Cf (by simpa using sp.vl.2.2.2)), h.maps⟩, fun _ h => .inl h, hs.mono (by simp [TA.blocks])⟩
theorem B8 {v : Value} {t : Nat} {u : Value} (h1 : v.ownBlock ≠ some t) (h2 : ∀ b, u.ownBlock = some b → v.ownBlock ≠ some b) : ∀ b, v.ownBlock = some b → b ∉ t :: u.ownBlock.toList := fun b hb hm => by
 simp only [List.mem_cons, Option.mem_toList] at hm
 rcases hm with rfl | hm
 ·exact h1 hb
 ·exact h2 b hm hb
theorem BL {m t : Nat} {u : Value} (h1 : m ≠ t) (h2 : u.ownBlock ≠ some m) : m ∉ t :: u.ownBlock.toList := fun hm => by
 simp only [List.mem_cons, Option.mem_toList] at hm
 rcases hm with rfl | hm
 ·exact h1 rfl
 ·exact h2 hm
theorem GV {w w1 : World} {t f e k n : Nat} {v v1 : Value} {xs : List Value} {cs : Array Value} {T : TypeId} (hb : w.heap[t]? = some (.cells cs T (0, 0))) (hv : v.ownBlock ≠ some t) (hs : Ad v.ownBlock.toList w w1) (hr : Row w1 e k v1 n xs) (hT : e ≠ T) :
  (w1.setCell ⟨t, f, none⟩ v1).heap[t]? = some (.cells (cs.setIfInBounds f v1) T (0, 0)) ∧ Row (w1.setCell ⟨t, f, none⟩ v1) e k v1 n xs ∧ Ad (t :: v.ownBlock.toList) w (w1.setCell ⟨t, f, none⟩ v1) := by
 have hb1 := hs.get hb (by simpa using hv)
 refine ⟨AI hb1 f v1, hr.same (Ad.setCell w1 ⟨t, f, none⟩ v1 (S := [t]) (by simp)) (Cf (by simpa using hr.ne hb1 hT)), (hs.mono ?_).trans (Ad.setCell _ _ _ (by simp))⟩
 intro x hx
 exact .inl (List.mem_cons_of_mem _ hx)
theorem zq57 {P : Prop} (h : P := by
 simp only [TA.blocks, List.mem_cons, List.mem_append, Option.mem_toList] at hb ⊢
 rcases hb with rfl | rfl | rfl | rfl | ((hb | hb) | hb) | hb <;> first | (simp; done) | (simp [hb]; done) | skip
 rcases ho with h1 | ⟨b', h1, h2⟩
 ·rw [h1] at hb; simp [hb]
 ·rw [h1] at hb; cases hb; exact .inr h2) : P := h
theorem zq65 {P : Prop} (h : P := by
 simp only [TA.blocks, List.mem_cons, List.mem_append, Option.mem_toList] at hb ⊢
 rcases hb with rfl | hb <;> simp [*]) : P := h
theorem AW.pushSyms {w w1 : World} {t : Nat} {A : TA} {T : Tbl} {s : ByteArray} {x : Bool} {v1 : Value} (h : AW w t A T)
  (hr : Row w1 136 2 v1 (T.syms.length + 1) (Em T.syms ++ [.string s, .bool x])) (hs : Ad A.vs.ownBlock.toList w w1) (ho : v1.ownBlock = A.vs.ownBlock ∨ ∃ b, v1.ownBlock = some b ∧ w.heap.size ≤ b) :
  AW (w1.setCell ⟨t, 0, none⟩ v1) t { A with vs := v1 } { T with syms := T.syms ++ [(s, x)] } ∧ BC A t { A with vs := v1 } w (w1.setCell ⟨t, 0, none⟩ v1) := by
 have sp := h.sep
 obtain ⟨hb2, hr2, hs2⟩ := GV (f := 0) h.blk sp.vs.1 hs hr (by decide)
 refine ⟨⟨hb2, by simpa [KC] using hr2, h.numbers.same hs2 (BL sp.tm.1 sp.vs.2.1), h.active.same hs2 (BL sp.tm.2.1 sp.vs.2.2.1), h.scopes.same hs2 (B8 sp.vc.1 sp.sc),
  ⟨h.inner.1, fun i u l hu hl => (h.inner.2 i u l hu hl).same hs2 (B8 (sp.inn u (List.mem_of_getElem? hu)).1 (fun b hb => sp.si b hb u (List.mem_of_getElem? hu)))⟩, h.apart, h.taken.same hs2 (BL sp.tm.2.2 sp.vs.2.2.2), h.labels.same hs2 (B8 sp.vl.1 sp.sl), h.maps⟩, fun b hb => ?_, hs2.mono (fun b hb => .inl ?_)⟩
 ·exact zq57
 ·exact zq65
theorem AW.pushLabels {w w1 : World} {t : Nat} {A : TA} {T : Tbl} {s : ByteArray} {v1 : Value} (h : AW w t A T)
  (hr : Row w1 9 1 v1 (T.labels.length + 1) (DP T.labels ++ [.string s])) (hs : Ad A.vl.ownBlock.toList w w1) (ho : v1.ownBlock = A.vl.ownBlock ∨ ∃ b, v1.ownBlock = some b ∧ w.heap.size ≤ b) :
  AW (w1.setCell ⟨t, 5, none⟩ v1) t { A with vl := v1 } { T with labels := T.labels ++ [s] } ∧ BC A t { A with vl := v1 } w (w1.setCell ⟨t, 5, none⟩ v1) := by
 have sp := h.sep
 obtain ⟨hb2, hr2, hs2⟩ := GV (f := 5) h.blk sp.vl.1 hs hr (by decide)
 refine ⟨⟨hb2, h.syms.same hs2 (B8 sp.vs.1 (fun b hb e => sp.sl b e hb)), h.numbers.same hs2 (BL sp.tm.1 sp.vl.2.1), h.active.same hs2 (BL sp.tm.2.1 sp.vl.2.2.1), h.scopes.same hs2 (B8 sp.vc.1 (fun b hb e => sp.cl b e hb)),
  ⟨h.inner.1, fun i u l hu hl => (h.inner.2 i u l hu hl).same hs2 (B8 (sp.inn u (List.mem_of_getElem? hu)).1 (fun b hb => sp.li b hb u (List.mem_of_getElem? hu)))⟩, h.apart, h.taken.same hs2 (BL sp.tm.2.2 sp.vl.2.2.2), by simpa [DP] using hr2, h.maps⟩, fun b hb => ?_, hs2.mono (fun b hb => .inl ?_)⟩
 ·exact zq57
 ·exact zq65
theorem AW.pushScope {w w1 : World} {t : Nat} {A : TA} {T : Tbl} {v1 : Value} (h : AW w t A T)
  (hr : Row w1 212 1 v1 (T.scopes.length + 1) (A.inner ++ [.slice none 0 0])) (hs : Ad A.vc.ownBlock.toList w w1) (ho : v1.ownBlock = A.vc.ownBlock ∨ ∃ b, v1.ownBlock = some b ∧ w.heap.size ≤ b) :
  AW (w1.setCell ⟨t, 3, none⟩ v1) t { A with vc := v1, inner := A.inner ++ [.slice none 0 0] } { T with scopes := T.scopes ++ [[]] } ∧ BC A t { A with vc := v1, inner := A.inner ++ [.slice none 0 0] } w (w1.setCell ⟨t, 3, none⟩ v1) := by
 have sp := h.sep
 obtain ⟨hb2, hr2, hs2⟩ := GV (f := 3) h.blk sp.vc.1 hs hr (by decide)
 refine ⟨⟨hb2, h.syms.same hs2 (B8 sp.vs.1 (fun b hb e => sp.sc b e hb)), h.numbers.same hs2 (BL sp.tm.1 sp.vc.2.1), h.active.same hs2 (BL sp.tm.2.1 sp.vc.2.2.1), by simpa using hr2,
  ⟨by simp [h.inner.1], fun i u l hu hl => ?_⟩, ?_, h.taken.same hs2 (BL sp.tm.2.2 sp.vc.2.2.2), h.labels.same hs2 (B8 sp.vl.1 sp.cl), h.maps⟩, fun b hb => ?_, hs2.mono (fun b hb => .inl ?_)⟩
 ·by_cases hi : i < A.inner.length
  ·rw [List.getElem?_append_left hi] at hu
   rw [List.getElem?_append_left (by rw [← h.inner.1]; exact hi)] at hl
   exact (h.inner.2 i u l hu hl).same hs2 (B8 (sp.inn u (List.mem_of_getElem? hu)).1 (fun b hb => sp.ci b hb u (List.mem_of_getElem? hu)))
  ·have e : i = A.inner.length := by
    have := (List.getElem?_eq_some_iff.1 hu).1
    simp at this
    omega
   subst e
   simp at hu
   rw [h.inner.1] at hl
   simp at hl
   subst hu; subst hl
   exact World.ownsRow_nil _ _ _ _
 ·intro i j u v b hu hv hub hvb
  by_cases hi : i < A.inner.length
  ·by_cases hj : j < A.inner.length
   ·rw [List.getElem?_append_left hi] at hu
    rw [List.getElem?_append_left hj] at hv
    exact h.apart i j u v b hu hv hub hvb
   ·rw [List.getElem?_append_right (by omega)] at hv
    have e : j - A.inner.length = 0 := by
     have := (List.getElem?_eq_some_iff.1 hv).1
     simp at this
     omega
    rw [e] at hv
    simp at hv
    subst hv
    simp [Value.ownBlock] at hvb
  ·rw [List.getElem?_append_right (by omega)] at hu
   have e : i - A.inner.length = 0 := by
    have := (List.getElem?_eq_some_iff.1 hu).1
    simp at this
    omega
   rw [e] at hu
   simp at hu
   subst hu
   simp [Value.ownBlock] at hub
 ·simp only [TA.blocks, List.mem_cons, List.mem_append, Option.mem_toList, List.flatMap_append, List.flatMap_cons, List.flatMap_nil] at hb ⊢
  rcases hb with rfl | rfl | rfl | rfl | ((hb | hb) | hb) | hb <;> first | (simp; done) | (simp [hb]; done) | skip
  ·rcases ho with h1 | ⟨b', h1, h2⟩
   ·rw [h1] at hb; simp [hb]
   ·rw [h1] at hb; cases hb; exact .inr h2
  ·have hb' : ∃ a, a ∈ A.inner ∧ a.ownBlock = some b := by
    rcases hb with hb | hb | hb
    ·simpa using hb
    ·simp [Value.ownBlock] at hb
    ·simp at hb
   simp [hb']
 ·exact zq65
theorem AW.popScope {w : World} {t : Nat} {A : TA} {T : Tbl} (h : AW w t A T) (hn : T.scopes ≠ []) {g : Addr} {c : Nat} (hv : A.vc = .slice (some g) T.scopes.length c) :
  AW (w.setCell ⟨t, 3, none⟩ (.slice (some g) (T.scopes.length - 1) c)) t { A with vc := .slice (some g) (T.scopes.length - 1) c, inner := A.inner.dropLast } { T with scopes := T.scopes.dropLast } ∧
  BC A t { A with vc := .slice (some g) (T.scopes.length - 1) c, inner := A.inner.dropLast } w (w.setCell ⟨t, 3, none⟩ (.slice (some g) (T.scopes.length - 1) c)) := by
 have sp := h.sep
 have hpos : 0 < T.scopes.length := List.length_pos_iff.2 hn
 have hr : Row w 212 1 (.slice (some g) (T.scopes.length - 1) c) (T.scopes.length - 1) A.inner.dropLast := by
  have := h.scopes
  rw [hv] at this
  refine ⟨by simp [h.inner.1], ?_⟩
  rcases this.2 with ⟨h1, h2⟩ | ⟨g', cap', cur, h1, h2, h3, h4, h5, h6, h7⟩
  ·simp at h1
  ·cases h1
   refine .inr ⟨g', c, cur, rfl, h2, h3, by omega, h5, h6, ?_⟩
   rw [← h7, List.dropLast_eq_take, List.take_take]
   congr 1
   simp
   have : T.scopes.length ≤ cur.size := by rw [h6]; omega
   omega
 obtain ⟨hb2, hr2, hs2⟩ := GV (f := 3) (v := .slice (some g) (T.scopes.length - 1) c) h.blk (by have := sp.vc.1; rw [hv] at this; simpa [Value.ownBlock] using this) (Ad.refl _ w) hr (by decide)
 have hs3 : Ad (t :: A.vc.ownBlock.toList) w (w.setCell ⟨t, 3, none⟩ (.slice (some g) (T.scopes.length - 1) c)) := Ad.setCell _ _ _ (by simp)
 refine ⟨⟨hb2, h.syms.same hs3 (B8 sp.vs.1 (fun b hb e => sp.sc b e hb)), h.numbers.same hs3 (BL sp.tm.1 sp.vc.2.1), h.active.same hs3 (BL sp.tm.2.1 sp.vc.2.2.1), by simpa using hr2,
  ⟨by simp [h.inner.1], fun i u l hu hl => ?_⟩, ?_, h.taken.same hs3 (BL sp.tm.2.2 sp.vc.2.2.2), h.labels.same hs3 (B8 sp.vl.1 sp.cl), h.maps⟩, fun b hb => ?_, hs3.mono (fun b hb => .inl ?_)⟩
 ·have hu' : A.inner[i]? = some u := by rw [List.dropLast_eq_take, List.getElem?_take] at hu; split at hu <;> simp_all
  have hl' : T.scopes[i]? = some l := by rw [List.dropLast_eq_take, List.getElem?_take] at hl; split at hl <;> simp_all
  exact (h.inner.2 i u l hu' hl').same hs3 (B8 (sp.inn u (List.mem_of_getElem? hu')).1 (fun b hb => sp.ci b hb u (List.mem_of_getElem? hu')))
 ·intro i j u v b hu hv' hub hvb
  have hu' : A.inner[i]? = some u := by rw [List.dropLast_eq_take, List.getElem?_take] at hu; split at hu <;> simp_all
  have hv'' : A.inner[j]? = some v := by rw [List.dropLast_eq_take, List.getElem?_take] at hv'; split at hv' <;> simp_all
  exact h.apart i j u v b hu' hv'' hub hvb
 ·simp only [TA.blocks, List.mem_cons, List.mem_append, Option.mem_toList, List.mem_flatMap] at hb ⊢
  rcases hb with rfl | rfl | rfl | rfl | ((hb | hb) | hb) | ⟨u, hu, hb⟩ <;> first | (simp; done) | (simp [hb]; done) | skip
  ·simp only [Value.ownBlock] at hb
   simp [hv, Value.ownBlock, hb]
  ·exact .inl (.inr (.inr (.inr (.inr (.inr ⟨u, (List.dropLast_subset _) hu, hb⟩)))))
 ·simp only [TA.blocks, List.mem_cons, List.mem_append, Option.mem_toList] at hb ⊢
  rcases hb with rfl | hb
  ·simp
  ·simp [hb]
def Tbl.empty : Tbl := ⟨[], [], [], [], [], []⟩
def Tbl.add (T : Tbl) (s : ByteArray) (v : Bool) : Nat × Nat × Tbl :=
 if 512 ≤ T.syms.length then (0, 22, T) else (T.syms.length, 0, { T with syms := T.syms ++ [(s, v)], numbers := Bd s T.syms.length T.numbers })
def Tbl.const (T : Tbl) (s : ByteArray) : Nat × Nat × Tbl :=
 if T.scopes ≠ [] then (0, 23, T) else if Dl s = false then (0, 21, T) else if (AJ s T.numbers).isSome then (0, 20, T)
 else if 512 ≤ T.syms.length then (0, 22, T)
 else (T.syms.length, 0, { T with syms := T.syms ++ [(s, false)], numbers := Bd s T.syms.length T.numbers, active := Bd s T.syms.length T.active })
def Tbl.openS (T : Tbl) : Nat × Tbl := if 16 ≤ T.scopes.length then (23, T) else (0, { T with scopes := T.scopes ++ [[]] })
theorem NU {w : World} {t : Nat} {v0 v1 v2 v3 v4 v5 : Value} (h : w.heap[t]? = some (.cells #[v0, v1, v2, v3, v4, v5] 131 (0, 0))) : w.cell? ⟨t, 0, none⟩ = some v0 ∧ w.cell? ⟨t, 1, none⟩ = some v1 ∧ w.cell? ⟨t, 2, none⟩ = some v2 ∧
  w.cell? ⟨t, 3, none⟩ = some v3 ∧ w.cell? ⟨t, 4, none⟩ = some v4 ∧ w.cell? ⟨t, 5, none⟩ = some v5 ∧ ∀ i, w.frozen? ⟨t, i, none⟩ = false :=
 ⟨Ai h, Ai h, Ai h, Ai h, Ai h, Ai h, AE h⟩
theorem AW.facts {w : World} {t : Nat} {A : TA} {T : Tbl} (h : AW w t A T) : w.cell? ⟨t, 0, none⟩ = some A.vs ∧ w.cell? ⟨t, 1, none⟩ = some (.map (some A.mn)) ∧ w.cell? ⟨t, 2, none⟩ = some (.map (some A.ma)) ∧
  w.cell? ⟨t, 3, none⟩ = some A.vc ∧ w.cell? ⟨t, 4, none⟩ = some (.map (some A.mt)) ∧ w.cell? ⟨t, 5, none⟩ = some A.vl ∧ ∀ i, w.frozen? ⟨t, i, none⟩ = false :=
 ⟨Ai h.blk, Ai h.blk, Ai h.blk, Ai h.blk, Ai h.blk, Ai h.blk, AE h.blk⟩
theorem IS (w : World) (t : Nat) (A : TA) (T : Tbl) (h : AW w t A T) (s : ByteArray) (v : Bool) (hn : 512 ≤ T.syms.length) :
  Calls Tryz.prog 112 #[.pointer (some ⟨t, 0, none⟩), .string s, .bool v] w fun e w' => e = .returned (.tuple #[.int .i64 0, .int .i64 22]) ∧ w = w' := by
 obtain ⟨As, cs, hvs, c0⟩ := h.c0
 clear h hvs
 go_enter Tryz.func112, Tryz.ntmps112
 go_wp2
 go_ret2
 exact ⟨rfl, rfl⟩
theorem Fv (w : World) (t : Nat) (A : TA) (T : Tbl) (h : AW w t A T) (s : ByteArray) (v : Bool) (hn : T.syms.length < 512) :
  Calls Tryz.prog 112 #[.pointer (some ⟨t, 0, none⟩), .string s, .bool v] w fun e w' => e = .returned (.tuple #[.int .i64 T.syms.length, .int .i64 0]) ∧
   ∃ A', AW w' t A' { T with syms := T.syms ++ [(s, v)], numbers := Bd s T.syms.length T.numbers } ∧ BC A t A' w w' := by
 obtain ⟨As, cs, hvs, c0⟩ := h.c0
 have hrow := h.syms
 rw [hvs] at hrow
 have Hvs := Kd hvs
 have H := Kd h
 clear h hvs
 go_enter Tryz.func112, Tryz.ntmps112
 go_wp2_with (first
  | (at_builtin; refine Bh rfl _ _ 128 rfl 136 2 24 _ Tryz.underlying128 Tryz.infoSymbol rfl (by decide) (.slice As T.syms.length cs) _ _ rfl hrow [.string s, .bool v] rfl rfl (by simp [Value.oneCell']) (by omega) (by decide) ?_; intro v1 w1 hrow1 hsm1 hor1; obtain ⟨As1, cs1, rfl⟩ := hrow1.shape; rw [← Hvs.out] at hsm1 hor1; have h1 := H.out.pushSyms hrow1 hsm1 hor1; obtain ⟨c0', c1', c2', c3', c4', c5', cf'⟩ := NU (hsm1.get H.out.blk (by simpa using H.out.sep.vs.1)))
  | (at_mapUpdate; refine DH h1.1.numbers Tryz.underlying84 Tryz.underlying9 rfl _ _ _ rfl s (.int .i64 T.syms.length) rfl rfl rfl ?_; intro w2 hm2 hsm2))
 rw [CH] at hm2
 have h2 := h1.1.setNumbers hm2 hsm2
 go_ret2
 exact ⟨rfl, _, h2.1, h1.2.trans h2.2⟩
theorem zq80 {P : Prop} (h : P := by
 go_ret2
 rw [Hr.out]
 exact ⟨rfl, A, H.out, BC.refl _ _ _⟩) : P := h
theorem F7 (w : World) (t : Nat) (A : TA) (T : Tbl) (h : AW w t A T) (s : ByteArray) (hb : BF w) (hs : s.size ≤ maxLen) :
  Calls Tryz.prog 66 #[.pointer (some ⟨t, 0, none⟩), .string s] w fun e w' => e = .returned (.tuple #[.int .i64 (T.const s).1, .int .i64 (T.const s).2.1]) ∧
   ∃ A', AW w' t A' (T.const s).2.2 ∧ BC A t A' w w' := by
 obtain ⟨As, cs, hvc, c3⟩ := h.c3
 by_cases h1 : T.scopes = []
 ·have hsym := Cm s w hb hs
  have hl := h.numbers.run_lookup Tryz.underlying84 Tryz.underlying9 (Dp w) s true
  rw [Bu, if_pos rfl] at hl
  obtain ⟨c0, c1, c2, _, c4, c5, cf⟩ := h.facts
  have H := Kd h
  have H1 := Kd h1
  rw [h1, List.length_nil] at c3
  clear h h1 hvc hb
  by_cases h2 : Dl s = true
  ·rw [h2] at hsym
   have H2 := Kd h2
   clear h2
   cases h3 : AJ s T.numbers with
   | some n =>
    have hr : T.const s = (0, 20, T) := by unfold Tbl.const; rw [if_neg (by simp [H1.out]), if_neg (by simp [H2.out]), if_pos (by simp [h3])]
    rw [h3] at hl
    dsimp only [Option.map, Option.getD, Option.isSome] at hl
    have Hr := Kd hr
    clear hr h3
    go_enter Tryz.func66, Tryz.ntmps66
    go_wp2_with (go_at_call 111; refine hsym.mono ?_; rintro e w' ⟨rfl, rfl⟩)
    exact zq80
   | none =>
    rw [h3] at hl
    dsimp only [Option.map, Option.getD, Option.isSome] at hl
    have H3 := Kd h3
    clear h3
    by_cases h4 : 512 ≤ T.syms.length
    ·have hr : T.const s = (0, 22, T) := by unfold Tbl.const; rw [if_neg (by simp [H1.out]), if_neg (by simp [H2.out]), if_neg (by simp [H3.out]), if_pos h4]
     have hadd := IS w t A T H.out s false h4
     have Hr := Kd hr
     clear hr
     go_enter Tryz.func66, Tryz.ntmps66
     go_wp2_with (first | (go_at_call 111; refine hsym.mono ?_; rintro e w' ⟨rfl, rfl⟩) | (go_at_call 112; refine hadd.mono ?_; rintro e w' ⟨rfl, rfl⟩))
     exact zq80
    ·have hr : T.const s = (T.syms.length, 0, { T with syms := T.syms ++ [(s, false)], numbers := Bd s T.syms.length T.numbers, active := Bd s T.syms.length T.active }) := by
      unfold Tbl.const; rw [if_neg (by simp [H1.out]), if_neg (by simp [H2.out]), if_neg (by simp [H3.out]), if_neg h4]
     have hadd := Fv w t A T H.out s false (by omega)
     have Hr := Kd hr
     clear hr
     go_enter Tryz.func66, Tryz.ntmps66
     go_wp2_with (first
      | (go_at_call 111; refine hsym.mono ?_; rintro e w' ⟨rfl, rfl⟩)
      | (go_at_call 112; refine hadd.mono ?_; rintro e w1 ⟨rfl, A1, hA1, hM1⟩; obtain ⟨c0', c1', c2', c3', c4', c5', cf'⟩ := hA1.facts)
      | (at_mapUpdate; refine DH hA1.active Tryz.underlying84 Tryz.underlying9 rfl _ _ _ rfl s (.int .i64 T.syms.length) rfl rfl rfl ?_; intro w2 hm2 hsm2))
     rw [CH] at hm2
     have h2 := hA1.setActive hm2 hsm2
     go_ret2
     rw [Hr.out]
     exact ⟨rfl, _, h2.1, hM1.trans h2.2⟩
  ·have hr : T.const s = (0, 21, T) := by unfold Tbl.const; rw [if_neg (by simp [H1.out]), if_pos (by simpa using h2)]
   have h2' : Dl s = false := by simpa using h2
   rw [h2'] at hsym
   have Hr := Kd hr
   clear h2 h2' hr
   go_enter Tryz.func66, Tryz.ntmps66
   go_wp2_with (go_at_call 111; refine hsym.mono ?_; rintro e w' ⟨rfl, rfl⟩)
   exact zq80
 ·have hr : T.const s = (0, 23, T) := by unfold Tbl.const; rw [if_pos h1]
  have hpos := List.length_pos_iff.2 h1
  have Hr := Kd hr
  have H := Kd h
  clear h h1 hvc hr
  go_enter Tryz.func66, Tryz.ntmps66
  go_wp2
  exact zq80
theorem Tryz.infoString : (Tryz.prog.info? 9).map (fun i => (i.zero, i.size, i.bytes)) = some (some (.string ByteArray.empty), 1, 16) := by kernel_rfl
theorem Tryz.infoInt : (Tryz.prog.info? 3).map (fun i => (i.zero, i.size, i.bytes)) = some (some (.int .i64 0), 1, 8) := by kernel_rfl
theorem Tryz.infoScope : (Tryz.prog.info? 212).map (fun i => (i.zero, i.size, i.bytes)) = some (some (.agg #[.slice none 0 0]), 1, 24) := by kernel_rfl
def Tbl.label (T : Tbl) (s : ByteArray) : Nat × Tbl :=
 if CA s = false then (21, T) else if (AJ s T.taken).isSome then (20, T) else if 1024 ≤ T.labels.length then (22, T)
 else (0, { T with taken := Bd s T.labels.length T.taken, labels := T.labels ++ [s] })
theorem AW.c5 {w : World} {t : Nat} {A : TA} {T : Tbl} (h : AW w t A T) : ∃ As cs, A.vl = .slice As T.labels.length cs ∧ w.cell? ⟨t, 5, none⟩ = some (.slice As T.labels.length cs) := by
 obtain ⟨As, cs, hvs⟩ := h.labels.shape
 exact ⟨As, cs, hvs, by rw [Cc h.blk, hvs]; rfl⟩
theorem zq53 {P : Prop} (h : P := by
 go_enter Tryz.func124, Tryz.ntmps124
 go_wp2_with (go_at_call 108; refine hname.mono ?_; rintro e w' ⟨rfl, rfl⟩)
 go_ret
 rw [Hr.out]
 exact ⟨rfl, A, H.out, BC.refl _ _ _⟩) : P := h
theorem Ge (w : World) (t : Nat) (A : TA) (T : Tbl) (h : AW w t A T) (s : ByteArray) (hs : s.size ≤ maxLen) :
  Calls Tryz.prog 124 #[.pointer (some ⟨t, 0, none⟩), .string s] w fun e w' => e = .returned (.int .i64 (T.label s).1) ∧
   ∃ A', AW w' t A' (T.label s).2 ∧ BC A t A' w w' := by
 have hname := JB s w hs
 have hl := h.taken.run_lookup Tryz.underlying84 Tryz.underlying9 (Dp w) s true
 rw [Bu, if_pos rfl] at hl
 obtain ⟨As, cs, hvl, c5⟩ := h.c5
 obtain ⟨c0, c1, c2, c3, c4, _, cf⟩ := h.facts
 have H := Kd h
 have Hvl := Kd hvl
 clear h hvl
 by_cases h2 : CA s = true
 ·rw [h2] at hname
  have H2 := Kd h2
  clear h2
  cases h3 : AJ s T.taken with
  | some n =>
   have Hr : Hid (T.label s = (20, T)) := Kd (by unfold Tbl.label; rw [if_neg (by simp [H2.out]), if_pos (by simp [h3])])
   rw [h3] at hl
   dsimp only [Option.map, Option.getD, Option.isSome] at hl
   clear h3
   exact zq53
  | none =>
   rw [h3] at hl
   dsimp only [Option.map, Option.getD, Option.isSome] at hl
   have H3 := Kd h3
   clear h3
   by_cases h4 : 1024 ≤ T.labels.length
   ·have Hr : Hid (T.label s = (22, T)) := Kd (by unfold Tbl.label; rw [if_neg (by simp [H2.out]), if_neg (by simp [H3.out]), if_pos h4])
    exact zq53
   ·have Hr : Hid (T.label s = (0, { T with taken := Bd s T.labels.length T.taken, labels := T.labels ++ [s] })) := Kd (by unfold Tbl.label; rw [if_neg (by simp [H2.out]), if_neg (by simp [H3.out]), if_neg h4])
    go_enter Tryz.func124, Tryz.ntmps124
    go_wp2_with (go_at_call 108; refine hname.mono ?_; rintro e w' ⟨rfl, rfl⟩)
    go_still_tail 10, (by kernel_rfl)
    change wpList _ _ _ _ _ w.drew
    have hd := H.out.same (Ad.drew [] w) (by simp)
    have hsd := Ad.drew [] w
    generalize w.drew = wd at hd hsd
    go_wp2_with (first
     | (at_mapUpdate; refine DH hd.taken Tryz.underlying84 Tryz.underlying9 rfl _ _ _ rfl s (.int .i64 T.labels.length) rfl rfl rfl ?_; intro w2 hm2 hsm2; rw [CH] at hm2; have h2 := hd.setTaken hm2 hsm2; obtain ⟨c0', c1', c2', c3', c4', c5', cf'⟩ := h2.1.facts; have hrow := h2.1.labels; dsimp only at hrow; rw [Hvl.out] at hrow c5')
     | (at_builtin; refine Bh rfl _ _ 23 rfl 9 1 16 _ Tryz.underlying23 Tryz.infoString rfl (by decide) (.slice As T.labels.length cs) _ _ rfl hrow [.string s] rfl rfl (by simp [Value.oneCell']) (by omega) (by decide) ?_; intro v1 w1 hrow1 hsm1 hor1; obtain ⟨As1, cs1, rfl⟩ := hrow1.shape; rw [← Hvl.out] at hsm1 hor1; have h1 := h2.1.pushLabels hrow1 hsm1 hor1; obtain ⟨d0, d1, d2, d3, d4, d5, df⟩ := NU (hsm1.get h2.1.blk (by simpa using H.out.sep.vl.1))))
    go_ret
    rw [Hr.out]
    exact ⟨rfl, _, h1.1, (BC.of_same hsd).trans (h2.2.trans h1.2)⟩
 ·have h2' : CA s = false := by simpa using h2
  have Hr : Hid (T.label s = (21, T)) := Kd (by unfold Tbl.label; rw [if_pos h2'])
  rw [h2'] at hname
  clear h2 h2'
  exact zq53
theorem KB (w : World) (t : Nat) (A : TA) (T : Tbl) (h : AW w t A T) :
  Calls Tryz.prog 61 #[.pointer (some ⟨t, 0, none⟩)] w fun e w' => e = .returned (.int .i64 T.openS.1) ∧ ∃ A', AW w' t A' T.openS.2 ∧ BC A t A' w w' := by
 obtain ⟨As, cs, hvc, c3⟩ := h.c3
 obtain ⟨c0, c1, c2, _, c4, c5, cf⟩ := h.facts
 have H := Kd h
 have hrow := h.scopes
 rw [hvc] at hrow
 have Hvc := Kd hvc
 clear h hvc
 by_cases h4 : 16 ≤ T.scopes.length
 ·have Hr : Hid (T.openS = (23, T)) := Kd (by unfold Tbl.openS; rw [if_pos h4])
  go_enter Tryz.func61, Tryz.ntmps61
  go_wp2
  go_ret
  rw [Hr.out]
  exact ⟨rfl, A, H.out, BC.refl _ _ _⟩
 ·have Hr : Hid (T.openS = (0, { T with scopes := T.scopes ++ [[]] })) := Kd (by unfold Tbl.openS; rw [if_neg h4])
  go_enter Tryz.func61, Tryz.ntmps61
  go_wp2_with (at_builtin; refine Bh rfl _ _ 129 rfl 212 1 24 _ Tryz.underlying129 Tryz.infoScope rfl (by decide) (.slice As T.scopes.length cs) _ _ rfl hrow [.slice none 0 0] rfl rfl (by simp [Value.oneCell']) (by omega) (by decide) ?_; intro v1 w1 hrow1 hsm1 hor1; obtain ⟨As1, cs1, rfl⟩ := hrow1.shape; rw [← Hvc.out] at hsm1 hor1; have h1 := H.out.pushScope hrow1 hsm1 hor1; obtain ⟨d0, d1, d2, d3, d4, d5, df⟩ := NU (hsm1.get H.out.blk (by simpa using H.out.sep.vc.1)))
  go_ret
  rw [Hr.out]
  exact ⟨rfl, _, h1.1, h1.2⟩
def CO (sc : List (List Nat)) (n : Nat) : List (List Nat) := if sc = [] then [] else sc.set (sc.length - 1) (sc.getD (sc.length - 1) [] ++ [n])
def Tbl.var (T : Tbl) (s : ByteArray) : Nat × Nat × Tbl :=
 if Dl s = false then (0, 21, T) else if (AJ s T.active).isSome then (0, 20, T)
 else match AJ s T.numbers with
  | some n => (n, 0, { T with active := Bd s n T.active, scopes := CO T.scopes n })
  | none => if 512 ≤ T.syms.length then (0, 22, T)
   else (T.syms.length, 0, { T with syms := T.syms ++ [(s, true)], numbers := Bd s T.syms.length T.numbers, active := Bd s T.syms.length T.active, scopes := CO T.scopes T.syms.length })
theorem AW.pushInner {w w1 : World} {t : Nat} {A : TA} {T : Tbl} {i n g c : Nat} {u u1 : Value} {l : List Nat} (h : AW w t A T) (hv : A.vc = .slice (some ⟨g, 0, none⟩) T.scopes.length c) (hu : A.inner[i]? = some u) (hl : T.scopes[i]? = some l)
  (hr : Row w1 3 1 u1 (l.length + 1) (DI l ++ [.int .i64 n])) (hs : Ad u.ownBlock.toList w w1) (ho : u1.ownBlock = u.ownBlock ∨ ∃ b, u1.ownBlock = some b ∧ w.heap.size ≤ b) :
  AW (w1.setCell ⟨g, i, none⟩ u1) t { A with inner := A.inner.set i u1 } { T with scopes := T.scopes.set i (l ++ [n]) } ∧ BC A t { A with inner := A.inner.set i u1 } w (w1.setCell ⟨g, i, none⟩ u1) := by
 have sp := h.sep
 have hum := List.mem_of_getElem? hu
 have hil : i < T.scopes.length := (List.getElem?_eq_some_iff.1 hl).1
 have hgo : A.vc.ownBlock = some g := by rw [hv]; rfl
 have hs2 : Ad (g :: u.ownBlock.toList) w (w1.setCell ⟨g, i, none⟩ u1) := (hs.mono (fun x hx => .inl (List.mem_cons_of_mem _ hx))).trans (Ad.setCell _ _ _ (by simp))
 have hrow := h.scopes
 rw [hv] at hrow
 obtain ⟨cur, hg⟩ := hrow.blk
 have hg1 := hs.get hg (by have := sp.ci g hgo u hum; simpa using this)
 have htg : t ≠ g := fun e => sp.vc.1 (by rw [hgo, e])
 have hrow1 : Row w1 212 1 (.slice (some ⟨g, 0, none⟩) T.scopes.length c) T.scopes.length A.inner := hrow.same hs (Cf (fun x hx e => by
  have : u.ownBlock = some x := by simpa using hx
  simp [Value.ownBlock] at e
  subst e
  exact sp.ci _ hgo u hum this))
 have hnot : ∀ v : Value, v.ownBlock ≠ some g → (∀ b, u.ownBlock = some b → v.ownBlock ≠ some b) → ∀ b, v.ownBlock = some b → b ∉ g :: u.ownBlock.toList := fun v h1 h2 => B8 h1 h2
 refine ⟨⟨hs2.get h.blk (BL htg (sp.inn u hum).1), h.syms.same hs2 (hnot _ (fun e => sp.sc g e hgo) (fun b hb e => sp.si b e u hum hb)), h.numbers.same hs2 (BL (fun e => sp.vc.2.1 (by rw [hgo, e])) (sp.inn u hum).2.1),
  h.active.same hs2 (BL (fun e => sp.vc.2.2.1 (by rw [hgo, e])) (sp.inn u hum).2.2.1), ?_, ⟨by simp [h.inner.1], ?_⟩, ?_, h.taken.same hs2 (BL (fun e => sp.vc.2.2.2 (by rw [hgo, e])) (sp.inn u hum).2.2.2),
  h.labels.same hs2 (hnot _ (sp.cl g hgo) (fun b hb e => sp.li b e u hum hb)), h.maps⟩, fun b hb => ?_, hs2.mono (fun b hb => .inl ?_)⟩
 ·have := hrow1.set1 (j := i) (by omega) u1
  rw [← hv] at this
  simpa using this
 ·intro j v l' hv' hl'
  rw [List.getElem?_set] at hv' hl'
  by_cases hij : i = j
  ·subst hij
   rw [if_pos rfl, if_pos (by rw [h.inner.1]; exact hil)] at hv'
   rw [if_pos rfl, if_pos hil] at hl'
   cases hv'; cases hl'
   have : Row (w1.setCell ⟨g, i, none⟩ u1) 3 1 u1 (l.length + 1) (DI l ++ [.int .i64 n]) := hr.same (Ad.setCell w1 ⟨g, i, none⟩ u1 (S := [g]) (by simp)) (Cf (by simpa using hr.ne hg1 (by decide)))
   simpa [DI] using this
  ·rw [if_neg hij] at hv' hl'
   have hm := List.mem_of_getElem? hv'
   exact (h.inner.2 j v l' hv' hl').same hs2 (hnot v (sp.ci g hgo v hm) (fun b hb e => hij (h.apart i j u v b hu hv' hb e)))
 ·intro j k x y b hx hy hxb hyb
  rw [List.getElem?_set] at hx hy
  have hi' : i < A.inner.length := by rw [h.inner.1]; exact hil
  have key : ∀ (m : Nat) (z : Value), A.inner[m]? = some z → i ≠ m → z.ownBlock = some b → u1.ownBlock = some b → False := fun m z hz hne hzb hub => by
   rcases ho with h1 | ⟨b', h1, h2⟩
   ·rw [h1] at hub; exact hne (h.apart i m u z b hu hz hub hzb)
   ·rw [h1] at hub; cases hub
    obtain ⟨l2, hr2⟩ := h.inner_row (List.mem_of_getElem? hz)
    have := hr2.lt hzb
    omega
  by_cases hij : i = j
  ·by_cases hik : i = k
   ·omega
   ·subst hij
    rw [if_pos rfl, if_pos hi'] at hx
    rw [if_neg hik] at hy
    cases hx
    exact (key k y hy hik hyb hxb).elim
  ·by_cases hik : i = k
   ·subst hik
    rw [if_pos rfl, if_pos hi'] at hy
    rw [if_neg hij] at hx
    cases hy
    exact (key j x hx hij hxb hyb).elim
   ·rw [if_neg hij] at hx
    rw [if_neg hik] at hy
    exact h.apart j k x y b hx hy hxb hyb
 ·simp only [TA.blocks, List.mem_cons, List.mem_append, Option.mem_toList, List.mem_flatMap] at hb ⊢
  rcases hb with rfl | rfl | rfl | rfl | ((hb | hb) | hb) | ⟨x, hx, hb⟩ <;> first | (simp; done) | (simp [hb]; done) | skip
  rcases List.mem_or_eq_of_mem_set hx with hx | rfl
  ·exact .inl (.inr (.inr (.inr (.inr (.inr ⟨x, hx, hb⟩)))))
  ·rcases ho with h1 | ⟨b', h1, h2⟩
   ·rw [h1] at hb; exact .inl (.inr (.inr (.inr (.inr (.inr ⟨u, hum, hb⟩)))))
   ·rw [h1] at hb; cases hb; exact .inr h2
 ·simp only [TA.blocks, List.mem_cons, List.mem_append, Option.mem_toList, List.mem_flatMap] at hb ⊢
  rcases hb with rfl | hb
  ·exact .inr (.inr (.inr (.inr (.inl (.inl (.inr hgo))))))
  ·exact .inr (.inr (.inr (.inr (.inr ⟨u, hum, hb⟩))))
end Go.Proofs.YtbfbgfpghkijdaaGreatDoor
