/- lemmalaw texts, part 6. -/
import Derived.Test.YtbfbgfpghkijdaaGreatDoorYac
import Derived.Test.YtbfbgfpghkijdaaGreatDoorYae
set_option maxRecDepth 100000
set_option linter.unusedVariables false
set_option linter.unusedSimpArgs false
set_option maxHeartbeats 32000000
namespace Go.Proofs.YtbfbgfpghkijdaaGreatDoor
open Go.RowKit
theorem BN.new (w : World) : BN (w.alloc (.map #[] 0)) w.heap.size [] := ⟨#[], 0, Aj _ _, rfl⟩
theorem BN.alloc {w : World} {b : Nat} {l : List (ByteArray × Value)} (h : BN w b l) (o : Obj) : BN (w.alloc o) b l := h.same (Ad.alloc [] _ _) (by simp)
theorem LP (w : World) : Calls Tryz.prog 28 #[] w fun e w' => ∃ t A, e = .returned (.pointer (some ⟨t, 0, none⟩)) ∧ AW w' t A Tbl.empty ∧ (∀ b ∈ A.blocks t, w.heap.size ≤ b) ∧ Ad [] w w' := by
 have hmm := @run_makeMap Tryz.prog
 go_enter Tryz.func28, Tryz.ntmps28
 go_wp2
 go_ret
 have s1 := BN.new w
 have s2 := BN.new (w.alloc (.map #[] 0))
 have s3 := BN.new ((w.alloc (.map #[] 0)).alloc (.map #[] 0))
 have s4 := Aj (((w.alloc (.map #[] 0)).alloc (.map #[] 0)).alloc (.map #[] 0)) (.cells #[Value.slice none 0 0, Value.map (some w.heap.size), Value.map (some (w.heap.size + 1)), Value.slice none 0 0, Value.map (some (w.heap.size + 1 + 1)), Value.slice none 0 0] 131)
 simp only [World.size_alloc] at s2 s3 s4
 refine ⟨_, ⟨.slice none 0 0, w.heap.size, w.heap.size + 1, .slice none 0 0, w.heap.size + 1 + 1, .slice none 0 0, []⟩, rfl, ⟨s4, World.ownsRow_nil _ _ _ _, ((s1.alloc _).alloc _).alloc _, (s2.alloc _).alloc _, World.ownsRow_nil _ _ _ _, ⟨rfl, by simp⟩, by simp, s3.alloc _, World.ownsRow_nil _ _ _ _, by dsimp only; omega⟩, ?_, (((Ad.alloc _ _ _).trans (Ad.alloc _ _ _)).trans (Ad.alloc _ _ _)).trans (Ad.alloc _ _ _)⟩
 intro b hb
 simp [TA.blocks, Value.ownBlock] at hb
 omega
theorem AW.lastScope {w : World} {t : Nat} {A : TA} {T : Tbl} (h : AW w t A T) (h5 : T.scopes ≠ []) : ∃ (i : Nat) (l : List Nat) (Au : Option Addr) (cu g cs : Nat), T.scopes.length = i + 1 ∧ T.scopes[i]? = some l ∧ l ∈ T.scopes ∧ A.inner[i]? = some (.slice Au l.length cu) ∧
  A.vc = .slice (some ⟨g, 0, none⟩) (i + 1) cs ∧ w.cell? ⟨g, i, none⟩ = some (.slice Au l.length cu) ∧ w.cell? ⟨t, 3, none⟩ = some (.slice (some ⟨g, 0, none⟩) (i + 1) cs) ∧ Row w 3 1 (.slice Au l.length cu) l.length (DI l) ∧
  g ≠ A.ma ∧ g ≠ t ∧ A.ma ≠ t ∧ (Value.slice Au l.length cu).ownBlock ≠ some A.ma ∧ (Value.slice Au l.length cu).ownBlock ≠ some t ∧ (Value.slice Au l.length cu).ownBlock ≠ some g ∧ (∀ n, CO T.scopes n = T.scopes.set i (l ++ [n])) := by
 obtain ⟨c0, c1, c2, c3, c4, c5, cf⟩ := h.facts
 have hpos := List.length_pos_iff.2 h5
 obtain ⟨i, l, u, hi0, hi2, hl, hu, hul⟩ : ∃ (i : Nat) (l : List Nat) (u : Value), T.scopes.length = i + 1 ∧ i < T.scopes.length ∧ T.scopes[i]? = some l ∧ A.inner[i]? = some u ∧ l ∈ T.scopes := by
  have hh := h.inner.1
  refine ⟨T.scopes.length - 1, T.scopes[T.scopes.length - 1], A.inner[T.scopes.length - 1], by omega, by omega, List.getElem?_eq_getElem _, List.getElem?_eq_getElem _, List.getElem_mem _⟩
 obtain ⟨g, cs, hvc, hcell, hfr⟩ := h.scopes.cell (j := i) (by omega)
 have hrowu := h.inner.2 i u l hu hl
 obtain ⟨Au, cu, rfl⟩ := hrowu.shape
 have hg : A.vc.ownBlock = some g := by rw [hvc]; rfl
 have hnote : ∀ n, CO T.scopes n = T.scopes.set i (l ++ [n]) := fun n => by
  unfold CO
  rw [if_neg h5, hi0]
  simp [hl]
 have sp := h.sep
 have hun := List.mem_of_getElem? hu
 rw [hi0] at hvc
 have hcu : w.cell? ⟨g, i, none⟩ = some (.slice Au l.length cu) := by rw [hcell, List.getD_eq_getElem?_getD, hu]; rfl
 rw [hvc] at c3
 exact ⟨i, l, Au, cu, g, cs, hi0, hl, hul, hu, hvc, hcu, c3, hrowu, fun e => sp.vc.2.2.1 (by rw [hg, e]), fun e => sp.vc.1 (by rw [hg, e]), sp.tm.2.1, (sp.inn _ hun).2.2.1, (sp.inn _ hun).1, sp.ci g hg _ hun, hnote⟩
theorem LG (w : World) (t : Nat) (A : TA) (T : Tbl) (h : AW w t A T) (s : ByteArray) (hb : BF w) (hs : s.size ≤ maxLen) (h2 : Dl s = true) (h3 : AJ s T.active = none) (n : Nat) (h4 : AJ s T.numbers = some n) (h5 : T.scopes ≠ []) (hlen : ∀ l ∈ T.scopes, l.length < 1000000) (hsc : T.scopes.length ≤ 16) :
  Calls Tryz.prog 67 #[.pointer (some ⟨t, 0, none⟩), .string s] w fun e w' => e = .returned (.tuple #[.int .i64 n, .int .i64 0]) ∧
   ∃ A', AW w' t A' { T with active := Bd s n T.active, scopes := CO T.scopes n } ∧ BC A t A' w w' := by
 have hsym := Cm s w hb hs
 rw [h2] at hsym
 have hl1 := h.active.run_lookup Tryz.underlying84 Tryz.underlying9 (Dp w) s true
 rw [Bu, if_pos rfl, h3] at hl1
 have hl2 := h.numbers.run_lookup Tryz.underlying84 Tryz.underlying9 (Dp w) s true
 rw [Bu, if_pos rfl, h4] at hl2
 dsimp only [Option.map, Option.getD, Option.isSome] at hl1 hl2
 obtain ⟨c0, c1, c2, -, c4, c5, cf⟩ := h.facts
 obtain ⟨i, l, Au, cu, g, cs, hi0, hl, hul, hu, hvc, hcu, c3, hrowu, hgm, hgt, hat, hua, hut, hug, hnote⟩ := h.lastScope h5
 have hlen' := hlen l hul
 have hi16 : i < 16 := by omega
 have htg := hgt.symm
 have H := Kd h
 have Hvc := Kd hvc
 have Hi := Kd hi0
 have Hu := Kd hu
 have Hl := Kd hl
 have Hn := Kd hnote
 clear h h2 h3 h4 h5 hb hvc hi0 hu hl hnote hlen hsc hul hgt
 go_enter Tryz.func67, Tryz.ntmps67
 go_wp2_with (first
  | (go_at_call 111; refine hsym.mono ?_; rintro e w' ⟨rfl, rfl⟩)
  | (at_mapUpdate; refine DH H.out.active Tryz.underlying84 Tryz.underlying9 rfl _ _ _ rfl s (.int .i64 n) rfl rfl rfl ?_; intro w2 hm2 hsm2; have d3 := hsm2.cell c3 (by simpa using hat.symm); have du := hsm2.cell hcu (by simpa using hgm)))
 clear hl1 hl2 hsym c0 c1 c2 c3 c4 c5 cf
 rw [CH] at hm2
 have h2 := H.out.setActive hm2 hsm2
 have hrow2 := hrowu.same hsm2 (Cf (by simpa using hua))
 have H2 := Kd h2
 have hfrt := AE h2.1.blk
 obtain ⟨cur, hgb⟩ : ∃ cur, w2.heap[g]? = some (.cells cur 212 (0, 0)) := by
  have := h2.1.scopes
  dsimp only at this
  rw [Hvc.out] at this
  exact this.blk
 have hfrg := AE hgb
 clear h2 hm2 hrowu hcu
 have k0 : (0 : Int) ≤ (i : Int) := by omega
 have d3a := fun o => (Ad.alloc [] w2 o).cell d3 (by simp)
 have dua := fun o => (Ad.alloc [] w2 o).cell du (by simp)
 refine AD (.read 0 (.read 1 (.read 2 (.read 3 (.read 4 (.read 5 (.read 6 (.read 7 (.read 8 (.read 9 (.read 10 (.read 11 (.read 12 (.read 13 (.read 14 (.read 15 (.one 16 [0, 1, 2, 3, 4, 5, 6, 7, 8, 9, 10, 11, 12, 13, 14] (.one 17 [0, 1, 2, 3, 4, 5] (.read 18 (.read 19 (.one 20 [] (.done)))))))))))))))))))))) (by kernel_rfl) (by kernel_rfl) ?_
 iterate 16 (refine An rfl (fun K hK => ?_); go_simp; (try go_bits); (try (rw [if_pos (by omega)]; go_simp)); refine hK _ ?_; clear hK K)
 refine Ak rfl ?_
 go_wp2
 refine EQ.A ?_
 refine Ak rfl ?_
 at_builtin; refine Bh rfl _ _ 24 rfl 3 1 8 _ Tryz.underlying24 Tryz.infoInt rfl (by decide) (.slice Au l.length cu) l.length _ rfl (hrow2.same (Ad.drew [] _) (by simp)) [.int .i64 n] rfl rfl (by simp [Value.oneCell']) (by omega) (by decide) ?_; intro v3 w3 hrow3 hsm3 hor3; obtain ⟨A3, c3', rfl⟩ := hrow3.shape; have d33 := hsm3.cell (w := w2.drew) d3 (by simpa using hut); have du3 := hsm3.cell (w := w2.drew) du (by simpa using hug); have hgb3 := hsm3.get (w := w2.drew) hgb (by simpa using hug); have hfr3 := AE hgb3
 go_wp2
 refine EQ.A ?_
 iterate 2 (refine An rfl (fun K hK => ?_); go_simp; (try go_bits); (try (rw [if_pos (by omega)]; go_simp)); refine hK _ ?_; clear hK K)
 refine Ak rfl ?_
 go_wp2
 refine EQ.A ?_
 refine AB ?_
 clear d3a dua
 have h1 := (H2.out.1.same (Ad.drew [] w2) (by simp)).pushInner (i := i) (n := n) (by rw [Hvc.out, ← Hi.out]) Hu.out Hl.out hrow3 hsm3 hor3
 have hnn := Hn.out n
 rw [← hnn] at h1
 clear hnn
 go_wp2
 go_ret2
 exact ⟨rfl, _, h1.1, H2.out.2.trans ((BC.of_same (Ad.drew [] w2)).trans h1.2)⟩
theorem Ks (w : World) (t : Nat) (A : TA) (T : Tbl) (h : AW w t A T) (s : ByteArray) (hb : BF w) (hs : s.size ≤ maxLen) (h2 : Dl s = true) (h3 : AJ s T.active = none) (n : Nat) (h4 : AJ s T.numbers = some n) (h5 : T.scopes = []) :
  Calls Tryz.prog 67 #[.pointer (some ⟨t, 0, none⟩), .string s] w fun e w' => e = .returned (.tuple #[.int .i64 n, .int .i64 0]) ∧
   ∃ A', AW w' t A' { T with active := Bd s n T.active } ∧ BC A t A' w w' := by
 have hsym := Cm s w hb hs
 rw [h2] at hsym
 have hl1 := h.active.run_lookup Tryz.underlying84 Tryz.underlying9 (Dp w) s true
 rw [Bu, if_pos rfl, h3] at hl1
 have hl2 := h.numbers.run_lookup Tryz.underlying84 Tryz.underlying9 (Dp w) s true
 rw [Bu, if_pos rfl, h4] at hl2
 dsimp only [Option.map, Option.getD, Option.isSome] at hl1 hl2
 obtain ⟨c0, c1, c2, -, c4, c5, cf⟩ := h.facts
 obtain ⟨Ac, cc, -, c3⟩ := h.c3
 rw [h5, List.length_nil] at c3
 have hat := h.sep.tm.2.1
 have H := Kd h
 clear h h2 h3 h4 h5 hb
 go_enter Tryz.func67, Tryz.ntmps67
 go_wp2_with (first
  | (go_at_call 111; refine hsym.mono ?_; rintro e w' ⟨rfl, rfl⟩)
  | (at_mapUpdate; refine DH H.out.active Tryz.underlying84 Tryz.underlying9 rfl _ _ _ rfl s (.int .i64 n) rfl rfl rfl ?_; intro w2 hm2 hsm2; have d3 := hsm2.cell c3 (by simpa using hat.symm)))
 rw [CH] at hm2
 have h2 := H.out.setActive hm2 hsm2
 go_ret2
 exact ⟨rfl, _, h2.1, h2.2⟩
theorem zq91 {P : Prop} (h : P := by
 go_enter Tryz.func67, Tryz.ntmps67
 go_wp2_with (go_at_call 111; refine hsym.mono ?_; rintro e w' ⟨rfl, rfl⟩)
 go_ret2
 exact ⟨rfl, rfl⟩) : P := h
theorem N7 (w : World) (t : Nat) (A : TA) (T : Tbl) (s : ByteArray) (hb : BF w) (hs : s.size ≤ maxLen) (h2 : Dl s = false) :
  Calls Tryz.prog 67 #[.pointer (some ⟨t, 0, none⟩), .string s] w fun e w' => e = .returned (.tuple #[.int .i64 0, .int .i64 21]) ∧ w = w' := by
 have hsym := Cm s w hb hs
 rw [h2] at hsym
 clear hb h2
 exact zq91
theorem Pp (w : World) (t : Nat) (A : TA) (T : Tbl) (h : AW w t A T) (s : ByteArray) (hb : BF w) (hs : s.size ≤ maxLen) (h2 : Dl s = true) (n : Nat) (h3 : AJ s T.active = some n) :
  Calls Tryz.prog 67 #[.pointer (some ⟨t, 0, none⟩), .string s] w fun e w' => e = .returned (.tuple #[.int .i64 0, .int .i64 20]) ∧ w = w' := by
 have hsym := Cm s w hb hs
 rw [h2] at hsym
 have hl1 := h.active.run_lookup Tryz.underlying84 Tryz.underlying9 (Dp w) s true
 rw [Bu, if_pos rfl, h3] at hl1
 dsimp only [Option.map, Option.getD, Option.isSome] at hl1
 obtain ⟨c0, c1, c2, c3, c4, c5, cf⟩ := h.facts
 clear h hb h2 h3
 exact zq91
theorem Ni (w : World) (t : Nat) (A : TA) (T : Tbl) (h : AW w t A T) (s : ByteArray) (hb : BF w) (hs : s.size ≤ maxLen) (h2 : Dl s = true) (h3 : AJ s T.active = none) (h4 : AJ s T.numbers = none) (h6 : 512 ≤ T.syms.length) :
  Calls Tryz.prog 67 #[.pointer (some ⟨t, 0, none⟩), .string s] w fun e w' => e = .returned (.tuple #[.int .i64 0, .int .i64 22]) ∧ w = w' := by
 have hsym := Cm s w hb hs
 rw [h2] at hsym
 have hl1 := h.active.run_lookup Tryz.underlying84 Tryz.underlying9 (Dp w) s true
 rw [Bu, if_pos rfl, h3] at hl1
 have hl2 := h.numbers.run_lookup Tryz.underlying84 Tryz.underlying9 (Dp w) s true
 rw [Bu, if_pos rfl, h4] at hl2
 dsimp only [Option.map, Option.getD, Option.isSome] at hl1 hl2
 obtain ⟨c0, c1, c2, c3, c4, c5, cf⟩ := h.facts
 have hadd := IS w t A T h s true h6
 clear h hb h2 h3 h4 h6
 go_enter Tryz.func67, Tryz.ntmps67
 go_wp2_with (first | (go_at_call 111; refine hsym.mono ?_; rintro e w' ⟨rfl, rfl⟩) | (go_at_call 112; refine hadd.mono ?_; rintro e w' ⟨rfl, rfl⟩))
 go_ret2
 exact ⟨rfl, rfl⟩
theorem Mv (w : World) (t : Nat) (A : TA) (T : Tbl) (h : AW w t A T) (s : ByteArray) (hb : BF w) (hs : s.size ≤ maxLen) (h2 : Dl s = true) (h3 : AJ s T.active = none) (h4 : AJ s T.numbers = none) (h5 : T.scopes = []) (h6 : T.syms.length < 512) :
  Calls Tryz.prog 67 #[.pointer (some ⟨t, 0, none⟩), .string s] w fun e w' => e = .returned (.tuple #[.int .i64 T.syms.length, .int .i64 0]) ∧
   ∃ A', AW w' t A' { T with syms := T.syms ++ [(s, true)], numbers := Bd s T.syms.length T.numbers, active := Bd s T.syms.length T.active } ∧ BC A t A' w w' := by
 have hsym := Cm s w hb hs
 rw [h2] at hsym
 have hl1 := h.active.run_lookup Tryz.underlying84 Tryz.underlying9 (Dp w) s true
 rw [Bu, if_pos rfl, h3] at hl1
 have hl2 := h.numbers.run_lookup Tryz.underlying84 Tryz.underlying9 (Dp w) s true
 rw [Bu, if_pos rfl, h4] at hl2
 dsimp only [Option.map, Option.getD, Option.isSome] at hl1 hl2
 obtain ⟨c0, c1, c2, -, c4, c5, cf⟩ := h.facts
 have hadd := Fv w t A T h s true h6
 have H5 := Kd h5
 clear h h2 h3 h4 h5 h6 hb
 go_enter Tryz.func67, Tryz.ntmps67
 go_wp2_with (first
  | (go_at_call 111; refine hsym.mono ?_; rintro e w' ⟨rfl, rfl⟩)
  | (go_at_call 112; refine hadd.mono ?_; rintro e w1 ⟨rfl, A1, hA1, hM1⟩; obtain ⟨e0, e1, e2, -, e4, e5, ef⟩ := hA1.facts; obtain ⟨Ac, cc, -, e3⟩ := hA1.c3; simp only [H5.out, List.length_nil] at e3; have hat := hA1.sep.tm.2.1; have H := Kd hA1; clear hA1)
  | (at_mapUpdate; refine DH H.out.active Tryz.underlying84 Tryz.underlying9 rfl _ _ _ rfl s (.int .i64 T.syms.length) rfl rfl rfl ?_; intro w2 hm2 hsm2; have d3 := hsm2.cell e3 (by simpa using hat.symm)))
 rw [CH] at hm2
 have h2 := H.out.setActive hm2 hsm2
 go_ret2
 exact ⟨rfl, _, h2.1, hM1.trans h2.2⟩
theorem NK (w : World) (t : Nat) (A : TA) (T : Tbl) (h : AW w t A T) (s : ByteArray) (hb : BF w) (hs : s.size ≤ maxLen) (h2 : Dl s = true) (h3 : AJ s T.active = none) (h4 : AJ s T.numbers = none) (h5 : T.scopes ≠ []) (h6 : T.syms.length < 512) (hlen : ∀ l ∈ T.scopes, l.length < 1000000) (hsc : T.scopes.length ≤ 16) :
  Calls Tryz.prog 67 #[.pointer (some ⟨t, 0, none⟩), .string s] w fun e w' => e = .returned (.tuple #[.int .i64 T.syms.length, .int .i64 0]) ∧
   ∃ A', AW w' t A' { T with syms := T.syms ++ [(s, true)], numbers := Bd s T.syms.length T.numbers, active := Bd s T.syms.length T.active, scopes := CO T.scopes T.syms.length } ∧ BC A t A' w w' := by
 have hsym := Cm s w hb hs
 rw [h2] at hsym
 have hl1 := h.active.run_lookup Tryz.underlying84 Tryz.underlying9 (Dp w) s true
 rw [Bu, if_pos rfl, h3] at hl1
 have hl2 := h.numbers.run_lookup Tryz.underlying84 Tryz.underlying9 (Dp w) s true
 rw [Bu, if_pos rfl, h4] at hl2
 dsimp only [Option.map, Option.getD, Option.isSome] at hl1 hl2
 obtain ⟨c0, c1, c2, -, c4, c5, cf⟩ := h.facts
 have hadd := Fv w t A T h s true h6
 have Hlen := Kd hlen
 have Hsc := Kd hsc
 have H5 := Kd h5
 clear h h2 h3 h4 h5 h6 hlen hsc hb
 obtain ⟨n, hnn⟩ : ∃ n, T.syms.length = n := ⟨_, rfl⟩
 rw [hnn] at hadd ⊢
 have Hnn := Kd hnn
 clear hnn
 go_enter Tryz.func67, Tryz.ntmps67
 go_wp2_with (first
  | (go_at_call 111; refine hsym.mono ?_; rintro e w' ⟨rfl, rfl⟩)
  | (go_at_call 112; refine hadd.mono ?_; rintro e w1 ⟨rfl, A1, hA1, hM1⟩; obtain ⟨e0, e1, e2, -, e4, e5, ef⟩ := hA1.facts; obtain ⟨i, l, Au, cu, g, cs, hi0, hl, hul, hu, hvc, hcu, c3, hrowu, hgm, hgt, hat, hua, hut, hug, hnote⟩ := hA1.lastScope H5.out; have hlen' := Hlen.out l hul; have hsc' := Hsc.out; have hi16 : i < 16 := (by dsimp only at hi0; omega); have htg := hgt.symm; have H := Kd hA1; have Hvc := Kd hvc; have Hi := Kd hi0; have Hu := Kd hu; have Hl := Kd hl; have Hn := Kd hnote; clear hA1 hvc hi0 hu hl hnote hul hsc' hgt)
  | (at_mapUpdate; refine DH H.out.active Tryz.underlying84 Tryz.underlying9 rfl _ _ _ rfl s (.int .i64 n) rfl rfl rfl ?_; intro w2 hm2 hsm2; have d3 := hsm2.cell c3 (by simpa using hat.symm); have du := hsm2.cell hcu (by simpa using hgm)))
 clear hl1 hl2 hsym c0 c1 c2 c3 c4 c5 cf e0 e1 e2 e4 e5 ef
 rw [CH] at hm2
 have h2 := H.out.setActive hm2 hsm2
 have hrow2 := hrowu.same hsm2 (Cf (by simpa using hua))
 have H2 := Kd h2
 have hfrt := AE h2.1.blk
 obtain ⟨cur, hgb⟩ : ∃ cur, w2.heap[g]? = some (.cells cur 212 (0, 0)) := by
  have := h2.1.scopes
  dsimp only at this
  rw [Hvc.out] at this
  exact this.blk
 have hfrg := AE hgb
 clear h2 hm2 hrowu hcu
 have k0 : (0 : Int) ≤ (i : Int) := by omega
 have d3a := fun o => (Ad.alloc [] w2 o).cell d3 (by simp)
 have dua := fun o => (Ad.alloc [] w2 o).cell du (by simp)
 refine AD (.read 0 (.read 1 (.read 2 (.read 3 (.read 4 (.read 5 (.read 6 (.read 7 (.read 8 (.read 9 (.read 10 (.read 11 (.read 12 (.read 13 (.read 14 (.read 15 (.one 16 [0, 1, 2, 3, 4, 5, 6, 7, 8, 9, 10, 11, 12, 13, 14] (.one 17 [0, 1, 2, 3, 4, 5] (.read 18 (.read 19 (.one 20 [] (.done)))))))))))))))))))))) (by kernel_rfl) (by kernel_rfl) ?_
 iterate 16 (refine An rfl (fun K hK => ?_); go_simp; (try go_bits); (try (rw [if_pos (by omega)]; go_simp)); refine hK _ ?_; clear hK K)
 refine Ak rfl ?_
 go_wp2
 refine EQ.A ?_
 refine Ak rfl ?_
 at_builtin; refine Bh rfl _ _ 24 rfl 3 1 8 _ Tryz.underlying24 Tryz.infoInt rfl (by decide) (.slice Au l.length cu) l.length _ rfl (hrow2.same (Ad.drew [] _) (by simp)) [.int .i64 n] rfl rfl (by simp [Value.oneCell']) (by omega) (by decide) ?_; intro v3 w3 hrow3 hsm3 hor3; obtain ⟨A3, c3', rfl⟩ := hrow3.shape; have d33 := hsm3.cell (w := w2.drew) d3 (by simpa using hut); have du3 := hsm3.cell (w := w2.drew) du (by simpa using hug); have hgb3 := hsm3.get (w := w2.drew) hgb (by simpa using hug); have hfr3 := AE hgb3
 go_wp2
 refine EQ.A ?_
 iterate 2 (refine An rfl (fun K hK => ?_); go_simp; (try go_bits); (try (rw [if_pos (by omega)]; go_simp)); refine hK _ ?_; clear hK K)
 refine Ak rfl ?_
 go_wp2
 refine EQ.A ?_
 refine AB ?_
 clear d3a dua
 have h1 := (H2.out.1.same (Ad.drew [] w2) (by simp)).pushInner (i := i) (n := n) (by rw [Hvc.out, ← Hi.out]) Hu.out Hl.out hrow3 hsm3 hor3
 have hnn := Hn.out n
 rw [← hnn] at h1
 clear hnn
 go_wp2
 go_ret2
 exact ⟨rfl, _, h1.1, hM1.trans (H2.out.2.trans ((BC.of_same (Ad.drew [] w2)).trans h1.2))⟩
theorem Row.cap {w : World} {e k n c : Nat} {A : Option Addr} {m : Nat} {xs : List Value} (h : Row w e k (.slice A m c) n xs) : n ≤ c := by
 rcases h.2 with ⟨h1, h2⟩ | ⟨g, cap, cur, h1, _, _, h2, _⟩
 ·omega
 ·cases h1; exact h2
def Eo (ss : List (ByteArray × Bool)) (l : List Nat) (a : List (ByteArray × Nat)) : List (ByteArray × Nat) := l.foldl (fun a n => Fb ((ss[n]?.map (·.1)).getD ByteArray.empty) a) a
def Tbl.close (T : Tbl) : Nat × Tbl :=
 match T.scopes.getLast? with
 | none => (23, T)
 | some l => (0, { T with active := Eo T.syms l T.active, scopes := T.scopes.dropLast })
theorem N9 (k : ByteArray) (l : List (ByteArray × Nat)) : Fb k (Cd l) = Cd (Fb k l) := by
 induction l with
 | nil => rfl
 | cons p r ih => simp only [Cd, List.map_cons, Fb] at ih ⊢; split <;> simp_all
theorem Ki (w : World) (t : Nat) (A : TA) (T : Tbl) (h : AW w t A T) (hin : ∀ l ∈ T.scopes, ∀ n ∈ l, n < T.syms.length) (hlen : ∀ l ∈ T.scopes, l.length < 1000000) (hsc : T.scopes.length ≤ 16) (hsy : T.syms.length ≤ 512) :
  Calls Tryz.prog 63 #[.pointer (some ⟨t, 0, none⟩)] w fun e w' => e = .returned (.int .i64 T.close.1) ∧
   ∃ A', AW w' t A' T.close.2 ∧ BC A t A' w w' := by
 by_cases h5 : T.scopes = []
 ·have hr : T.close = (23, T) := by simp [Tbl.close, h5]
  obtain ⟨Ac, cc, -, c3⟩ := h.c3
  rw [h5, List.length_nil] at c3
  have H := Kd h
  have Hr := Kd hr
  clear h hr h5 hin hlen hsc
  go_enter Tryz.func63, Tryz.ntmps63
  go_wp2
  go_ret
  rw [Hr.out]
  exact ⟨rfl, A, H.out, BC.refl _ _ _⟩
 ·obtain ⟨i, l, Au, cu, g, cs, hi0, hl, hul, hu, hvc, hcu, c3, hrowu, hgm, hgt, hat, hua, hut, hug, -⟩ := h.lastScope h5
  have hr : T.close = (0, { T with active := Eo T.syms l T.active, scopes := T.scopes.dropLast }) := by
   have : T.scopes.getLast? = some l := by rw [List.getLast?_eq_getElem?, hi0]; exact hl
   simp only [Tbl.close, this]
  have hli := hin l hul
  have hlen' := hlen l hul
  have hi16 : i < 16 := by omega
  obtain ⟨c0, c1, c2, -, c4, c5, cf⟩ := h.facts
  have H := Kd h
  have Hr := Kd hr
  have Hvc := Kd hvc
  have Hi := Kd hi0
  have H5 := Kd h5
  have Hrow := Kd hrowu
  have Hli := Kd hli
  clear h hr h5 hin hlen hsc hvc hi0 hul hu hl hrowu hli c0 c1 c4 c5
  have k0 : (0 : Int) ≤ (i : Int) := by omega
  have k1 : ((i : Int) + 1 == 0) = false := by simp; omega
  go_enter Tryz.func63, Tryz.ntmps63
  go_wp2
  go_loopw [23] (fun u wr => ∃ k : Nat, k ≤ l.length ∧ u = .int .i64 k ∧ BN wr A.ma (Cd (Eo T.syms (l.take k) T.active)) ∧ Ad [A.ma] w wr) (fun u _ => l.length - (intOf u).toNat)
  case atStart => exact ⟨0, Nat.zero_le _, rfl, by simpa [Eo] using H.out.active, Ad.refl _ _⟩
  case round =>
   obtain ⟨k, hk, rfl, hm, hsm⟩ := hrel
   have d2 := hsm.cell c2 (by simpa using hat.symm)
   have d3 := hsm.cell c3 (by simpa using hat.symm)
   have du := hsm.cell hcu (by simpa using hgm)
   have hrk := Hrow.out.same hsm (Cf (by simpa using hua))
   have Hm := Kd hm
   clear hm
   by_cases hlt : k < l.length
   ·obtain ⟨ga, ca, hva, hcell, hfr⟩ := hrk.cell (j := k) (by omega)
    cases hva
    have hlv := Hli.out l[k] (List.getElem_mem _)
    have hcv : (DI l).getD k undef = .int .i64 (l[k] : Nat) := by simp [DI, List.getD_eq_getElem?_getD, hlt]
    rw [hcv] at hcell
    obtain ⟨gs, css, hvs, e0, es, -⟩ := (H.out.setActive Hm.out hsm).1.sym_at (i := l[k]) hlv
    dsimp only at es e0
    have hsn : Eo T.syms (l.take (k + 1)) T.active = Fb T.syms[l[k]].1 (Eo T.syms (l.take k) T.active) := by
     unfold Eo
     rw [List.take_succ_eq_append_getElem hlt, List.foldl_append, List.foldl_cons, List.foldl_nil, List.getElem?_eq_getElem hlv]
     rfl
    have Hsn := Kd hsn
    clear hsn hvs hcv hfr
    obtain ⟨n, hn⟩ : ∃ n : Nat, n = l[k] := ⟨_, rfl⟩
    go_wp2
    refine AD (.read 0 (.read 1 (.read 2 (.read 3 (.read 4 (.read 5 (.read 6 (.read 7 (.read 8 (.read 9 (.read 10 (.read 11 (.one 12 [] (.done)))))))))))))) (by kernel_rfl) (by kernel_rfl) ?_
    iterate 12 (refine An rfl (fun K hK => ?_); go_simp; (try go_bits); (try (rw [if_pos (by omega)]; go_simp)); refine hK _ ?_; clear hK K)
    refine Ak rfl ?_
    go_simp
    refine QG (Hm.out.same (Ad.drew [] wr) (by simp)) Tryz.underlying84 Tryz.underlying9 rfl _ _ rfl _ rfl rfl ?_
    intro w2 hm2 hsm2
    rw [N9, ← Hsn.out] at hm2
    go_wp2
    refine EQ.mk rfl ?_ ?_
    ·repeat (first | exact BJ | (refine Br rfl ?_))
    refine AB ?_
    go_wp2
    go_roundw
    case rel => exact ⟨k + 1, by omega, by go_num, hm2, (hsm.trans (Ad.drew _ wr)).trans hsm2⟩
    case measure => simp [intOf]; omega
   ·have hkk : k = l.length := by omega
    rw [hkk, List.take_length] at Hm
    have hpop := (H.out.setActive Hm.out hsm).1.popScope H5.out (g := ⟨g, 0, none⟩) (c := cs) (by rw [Hvc.out, ← Hi.out])
    dsimp only at hpop
    rw [Hi.out] at hpop
    have hscap := H.out.scopes
    rw [Hvc.out] at hscap
    have hcap := hscap.cap
    have Hpop := Kd hpop
    rw [Hi.out] at hcap
    clear hpop hscap
    have hfrt := AE (hsm.get H.out.blk (by simpa using hat.symm))
    have hi1 : (i : Int) + 1 ≤ cs := by omega
    have hi2 : (i : Int) ≤ cs := by omega
    go_wp2
    go_ret
    rw [Hr.out]
    have hp1 := Hpop.out.1
    have hp2 := Hpop.out.2
    simp only [Nat.add_sub_cancel] at hp1 hp2
    exact ⟨rfl, _, hp1, (H.out.setActive Hm.out hsm).2.trans hp2⟩
def EJ {β : Type} (l : List (ByteArray × β)) : List ByteArray := l.map (·.1)
theorem DE {β : Type} {k x : ByteArray} {v : β} : ∀ {l : List (ByteArray × β)}, x ∈ EJ (Bd k v l) ↔ x = k ∨ x ∈ EJ l
 | [] => by simp [EJ, Bd]
 | (k', v') :: r => by
  have ih := DE (k := k) (x := x) (v := v) (l := r)
  simp only [EJ] at ih ⊢
  unfold Bd
  split
  ·subst k'; simp
  ·simp only [List.map_cons, List.mem_cons, ih]
   constructor <;> (rintro (h | h | h) <;> simp [h])
theorem JL {β : Type} {k : ByteArray} {v : β} : ∀ {l : List (ByteArray × β)}, (EJ l).Nodup → (EJ (Bd k v l)).Nodup
 | [], _ => by simp [EJ, Bd]
 | (k', v') :: r, h => by
  have h' : k' ∉ EJ r ∧ (EJ r).Nodup := by simpa [EJ] using h
  unfold Bd
  split
  ·exact h
  ·rename_i hne
   have : k' ∉ EJ (Bd k v r) := fun hm => by
    rcases DE.1 hm with e | e
    ·exact hne e.symm
    ·exact h'.1 e
   simpa [EJ] using And.intro this (JL h'.2)
theorem Ii {β : Type} {k : ByteArray} : ∀ {l : List (ByteArray × β)}, (Fb k l).Sublist l
 | [] => by simp [Fb]
 | (k', v') :: r => by
  unfold Fb
  split
  ·exact List.sublist_cons_self _ _
  ·exact (Ii).cons_cons _
theorem IB {β : Type} {k : ByteArray} : ∀ {l : List (ByteArray × β)}, l.length ≤ (Fb k l).length + 1
 | [] => by simp
 | (k', v') :: r => by
  have := IB (k := k) (l := r)
  unfold Fb
  split <;> simp <;> omega
theorem Gd {β : Type} {k : ByteArray} {v : β} : ∀ {l : List (ByteArray × β)}, l.length ≤ (Bd k v l).length ∧ (Bd k v l).length ≤ l.length + 1
 | [] => by simp [Bd]
 | (k', v') :: r => by
  have := Gd (k := k) (v := v) (l := r)
  unfold Bd
  split <;> simp <;> omega
theorem KQ {β : Type} {k : ByteArray} : ∀ {l : List (ByteArray × β)}, AJ k l = none ↔ k ∉ EJ l
 | [] => by simp [EJ, AJ]
 | (k', v') :: r => by
  have ih := KQ (k := k) (l := r)
  simp only [EJ] at ih ⊢
  unfold AJ
  split
  ·subst k'; simp
  ·rename_i hne; simp [ih, hne]
theorem MR {β : Type} {k : ByteArray} {v : β} : ∀ {l : List (ByteArray × β)}, AJ k l = none → Bd k v l = l ++ [(k, v)]
 | [], _ => by simp [Bd]
 | (k', v') :: r, h => by
  unfold AJ at h
  split at h
  ·cases h
  ·rename_i hne
   unfold Bd
   rw [if_neg hne, MR h]
   rfl
theorem zq67 {P : Prop} (h : P := by
 by_cases h1 : k = k'
 ·subst h1
  rw [Bd, if_pos rfl, AJ, AJ]
  split <;> simp_all
 ·rw [Bd, if_neg h1, AJ, AJ, ih]
  by_cases h2 : x = k'
  ·subst h2
   rw [if_pos rfl, if_neg (fun e => h1 e.symm), if_pos rfl]
  ·rw [if_neg h2, if_neg h2]) : P := h
theorem Gi {β : Type} {k x : ByteArray} {v : β} : ∀ {l : List (ByteArray × β)}, AJ x (Bd k v l) = if x = k then some v else AJ x l
 | [] => by simp [Bd, AJ]
 | (k', v') :: r => by
  have ih := Gi (k := k) (x := x) (v := v) (l := r)
  exact zq67
structure Tbl.Ok (T : Tbl) : Prop where
 scopes : T.scopes.length ≤ 16
 syms : T.syms.length ≤ 512
 nums : T.numbers.length ≤ T.syms.length
 numsIn : ∀ k n, AJ k T.numbers = some n → n < T.syms.length
 nodup : (EJ T.active).Nodup
 sub : ∀ k ∈ EJ T.active, k ∈ EJ T.numbers
 sum : (T.scopes.map List.length).sum ≤ T.active.length
 nin : ∀ l ∈ T.scopes, ∀ n ∈ l, n < T.syms.length
 labels : T.labels.length ≤ 1024
theorem Tbl.Ok.act {T : Tbl} (h : T.Ok) : T.active.length ≤ 512 := by
 have := h.nodup.length_le_of_subset h.sub
 simp only [EJ, List.length_map] at this
 exact Nat.le_trans this (Nat.le_trans h.nums h.syms)
theorem PH {l : List Nat} : ∀ {L : List (List Nat)}, l ∈ L → l.length ≤ (L.map List.length).sum
 | a :: r, h => by
  rcases List.mem_cons.1 h with rfl | h
  ·simp
  ·have := PH h
   simp; omega
theorem Tbl.Ok.len {T : Tbl} (h : T.Ok) : ∀ l ∈ T.scopes, l.length ≤ 512 := fun l hl => Nat.le_trans (PH hl) (Nat.le_trans h.sum h.act)
theorem Lk (a : List (List Nat)) (l : List Nat) (n : Nat) : CO (a ++ [l]) n = a ++ [l ++ [n]] := by
 simp [CO, List.set_append]
theorem Tbl.Ok.empty : Tbl.empty.Ok := ⟨by simp [Tbl.empty], by simp [Tbl.empty], by simp [Tbl.empty], by simp [Tbl.empty, AJ], by simp [Tbl.empty, EJ], by simp [Tbl.empty, EJ], by simp [Tbl.empty], by simp [Tbl.empty], by simp [Tbl.empty]⟩
theorem Tbl.Ok.openS {T : Tbl} (h : T.Ok) : T.openS.2.Ok := by
 unfold Tbl.openS
 split
 ·exact h
 ·rename_i hn
  exact ⟨by simp; omega, h.syms, h.nums, h.numsIn, h.nodup, h.sub, by simpa using h.sum, (fun l hl n hn => by
   rcases List.mem_append.1 hl with hl | hl
   ·exact h.nin l hl n hn
   ·simp at hl
    subst hl
    cases hn), h.labels⟩
theorem Tbl.Ok.label {T : Tbl} (h : T.Ok) (s : ByteArray) : (T.label s).2.Ok := by
 unfold Tbl.label
 repeat' split
 all_goals first | exact h | skip
 rename_i hn
 exact ⟨h.scopes, h.syms, h.nums, h.numsIn, h.nodup, h.sub, h.sum, h.nin, by simp at hn ⊢; omega⟩
theorem Tbl.Ok.addSym {T : Tbl} (h : T.Ok) (s : ByteArray) (v : Bool) (hn : T.syms.length < 512) : Tbl.Ok { T with syms := T.syms ++ [(s, v)], numbers := Bd s T.syms.length T.numbers } := by
 refine ⟨h.scopes, by simp; omega, ?_, ?_, h.nodup, ?_, h.sum, ?_, h.labels⟩
 ·have := (Gd (k := s) (v := T.syms.length) (l := T.numbers)).2
  have := h.nums
  simp; omega
 ·intro k n hk
  rw [Gi] at hk
  split at hk
  ·cases hk; simp
  ·have := h.numsIn k n hk; simp; omega
 ·intro k hk
  exact DE.2 (.inr (h.sub k hk))
 ·intro l hl n hnl
  have := h.nin l hl n hnl
  simp; omega
theorem Tbl.Ok.activate {T : Tbl} (h : T.Ok) (s : ByteArray) (n : Nat) (hk : AJ s T.numbers = some n) : Tbl.Ok { T with active := Bd s n T.active } := by
 have hl := (Gd (k := s) (v := n) (l := T.active)).1
 refine ⟨h.scopes, h.syms, h.nums, h.numsIn, JL h.nodup, ?_, Nat.le_trans h.sum hl, h.nin, h.labels⟩
 intro k hk'
 rcases DE.1 hk' with rfl | e
 ·exact Classical.byContradiction fun hc => by rw [KQ.2 hc] at hk; cases hk
 ·exact h.sub k e
theorem Tbl.Ok.activateIn {T : Tbl} (h : T.Ok) (s : ByteArray) (n : Nat) (hk : AJ s T.numbers = some n) (ha : AJ s T.active = none) : Tbl.Ok { T with active := Bd s n T.active, scopes := CO T.scopes n } := by
 have h1 := h.activate s n hk
 rcases List.eq_nil_or_concat T.scopes with e | ⟨a, l, e⟩
 ·have : CO T.scopes n = T.scopes := by rw [e]; rfl
  rw [this]
  exact h1
 ·rw [List.concat_eq_append] at e
  have h2 : CO T.scopes n = a ++ [l ++ [n]] := by rw [e, Lk]
  have hs := h.sum
  have hsc := h.scopes
  have hnn := h.nin
  rw [e] at hs hsc hnn
  refine ⟨?_, h.syms, h.nums, h.numsIn, h1.nodup, h1.sub, ?_, ?_, h.labels⟩
  ·dsimp only; rw [h2]; simp at hsc ⊢; exact hsc
  ·dsimp only
   rw [h2, MR ha]
   simp at hs ⊢
   omega
  ·dsimp only
   rw [h2]
   intro l' hl' m hm
   rcases List.mem_append.1 hl' with hl' | hl'
   ·exact hnn l' (List.mem_append_left _ hl') m hm
   ·simp at hl'
    subst hl'
    rcases List.mem_append.1 hm with hm | hm
    ·exact hnn l (by simp) m hm
    ·simp at hm; subst hm; exact h.numsIn _ _ hk
theorem Tbl.Ok.const {T : Tbl} (h : T.Ok) (s : ByteArray) : (T.const s).2.2.Ok := by
 unfold Tbl.const
 repeat' split
 all_goals first | exact h | skip
 rename_i h4
 have h5 := h.addSym s false (by omega)
 exact h5.activate s T.syms.length (by simp [Gi])
theorem Tbl.Ok.var {T : Tbl} (h : T.Ok) (s : ByteArray) : (T.var s).2.2.Ok := by
 unfold Tbl.var
 split
 ·exact h
 split
 ·exact h
 rename_i h2
 have h2' : AJ s T.active = none := by simpa using h2
 split
 ·rename_i n hn
  exact h.activateIn s n hn h2'
 ·split
  ·exact h
  ·exact (h.addSym s true (by omega)).activateIn s T.syms.length (by simp [Gi]) h2'
theorem JJ (ss : List (ByteArray × Bool)) : ∀ (l : List Nat) (a : List (ByteArray × Nat)), (Eo ss l a).Sublist a ∧ a.length ≤ (Eo ss l a).length + l.length
 | [], a => by simp [Eo]
 | n :: r, a => by
  have ih := JJ ss r (Fb ((ss[n]?.map (·.1)).getD ByteArray.empty) a)
  have h1 := Ii (k := (ss[n]?.map (·.1)).getD ByteArray.empty) (l := a)
  have h2 := IB (k := (ss[n]?.map (·.1)).getD ByteArray.empty) (l := a)
  refine ⟨ih.1.trans h1, ?_⟩
  have := ih.2
  simp only [Eo, List.foldl_cons, List.length_cons] at this ⊢
  omega
theorem Tbl.Ok.close {T : Tbl} (h : T.Ok) : T.close.2.Ok := by
 unfold Tbl.close
 rcases List.eq_nil_or_concat T.scopes with e | ⟨a, l, e⟩
 ·simp only [e, List.getLast?_nil]; exact h
 ·rw [List.concat_eq_append] at e
  have hd := JJ T.syms l T.active
  have hs := h.sum
  have hsc := h.scopes
  have hnn := h.nin
  rw [e] at hs hsc hnn
  simp only [e, List.getLast?_append, List.getLast?_singleton, Option.some_or, List.dropLast_concat]
  refine ⟨by simp at hsc ⊢; omega, h.syms, h.nums, h.numsIn, ?_, ?_, ?_, fun l' hl' => hnn l' (List.mem_append_left _ hl'), h.labels⟩
  ·exact List.Nodup.sublist (hd.1.map _) h.nodup
  ·exact fun k hk => h.sub k ((hd.1.map _).subset hk)
  ·simp at hs ⊢
   omega
theorem Il (w : World) (t : Nat) (A : TA) (T : Tbl) (h : AW w t A T) (hok : T.Ok) (s : ByteArray) (hb : BF w) (hs : s.size ≤ maxLen) :
  Calls Tryz.prog 67 #[.pointer (some ⟨t, 0, none⟩), .string s] w fun e w' => e = .returned (.tuple #[.int .i64 (T.var s).1, .int .i64 (T.var s).2.1]) ∧
   ∃ A', AW w' t A' (T.var s).2.2 ∧ BC A t A' w w' := by
 have hlen : ∀ l ∈ T.scopes, l.length < 1000000 := fun l hl => by have := hok.len l hl; omega
 unfold Tbl.var
 cases h2 : Dl s with
 | false =>
  rw [if_pos rfl]
  exact (N7 w t A T s hb hs h2).mono (by rintro e w' ⟨rfl, rfl⟩; exact ⟨rfl, A, h, BC.refl _ _ _⟩)
 | true =>
  rw [if_neg (by simp)]
  cases h3 : AJ s T.active with
  | some n =>
   rw [if_pos (by simp)]
   exact (Pp w t A T h s hb hs h2 n h3).mono (by rintro e w' ⟨rfl, rfl⟩; exact ⟨rfl, A, h, BC.refl _ _ _⟩)
  | none =>
   rw [if_neg (by simp)]
   cases h4 : AJ s T.numbers with
   | some n =>
    by_cases h5 : T.scopes = []
    ·refine (Ks w t A T h s hb hs h2 h3 n h4 h5).mono ?_
     rintro e w' ⟨rfl, A', hA, hm⟩
     refine ⟨rfl, A', ?_, hm⟩
     dsimp only
     have : CO T.scopes n = T.scopes := by rw [h5]; rfl
     rw [this]
     exact hA
    ·exact LG w t A T h s hb hs h2 h3 n h4 h5 hlen hok.scopes
   | none =>
    by_cases h6 : 512 ≤ T.syms.length
    ·simp only [if_pos h6]
     exact (Ni w t A T h s hb hs h2 h3 h4 h6).mono (by rintro e w' ⟨rfl, rfl⟩; exact ⟨rfl, A, h, BC.refl _ _ _⟩)
    ·simp only [if_neg h6]
     by_cases h5 : T.scopes = []
     ·refine (Mv w t A T h s hb hs h2 h3 h4 h5 (by omega)).mono ?_
      rintro e w' ⟨rfl, A', hA, hm⟩
      refine ⟨rfl, A', ?_, hm⟩
      have : CO T.scopes T.syms.length = T.scopes := by rw [h5]; rfl
      rw [this]
      exact hA
     ·exact NK w t A T h s hb hs h2 h3 h4 h5 (by omega) hlen hok.scopes
theorem Ad.drewN (S : List Nat) (w : World) (n : Nat) : Ad S w (w.drewN n) := ⟨rfl, rfl, rfl, Nat.le_refl _, fun _ _ _ => rfl⟩
def Bm {α β : Type} (P : α → β → Prop) : List α → List β → Prop
 | [], [] => True
 | a :: l, b :: m => P a b ∧ Bm P l m
 | _, _ => False
theorem Bm.imp {α β : Type} {P Q : α → β → Prop} (h : ∀ a b, P a b → Q a b) : ∀ {l : List α} {m : List β}, Bm P l m → Bm Q l m
 | [], [], _ => trivial
 | a :: l, b :: m, hp => ⟨h _ _ hp.1, Bm.imp h hp.2⟩
 | [], _ :: _, hp => hp.elim
 | _ :: _, [], hp => hp.elim
theorem Bm.len {α β : Type} {P : α → β → Prop} : ∀ {l : List α} {m : List β}, Bm P l m → m.length = l.length
 | [], [], _ => rfl
 | a :: l, b :: m, hp => by simp [Bm.len hp.2]
 | [], _ :: _, hp => hp.elim
 | _ :: _, [], hp => hp.elim
theorem Bm.append {α β : Type} {P : α → β → Prop} : ∀ {l l' : List α} {m m' : List β}, Bm P l m → Bm P l' m' → Bm P (l ++ l') (m ++ m')
 | [], l', [], m', _, h => h
 | a :: l, l', b :: m, m', hp, h => ⟨hp.1, Bm.append hp.2 h⟩
 | [], _, _ :: _, _, hp, _ => hp.elim
 | _ :: _, _, [], _, hp, _ => hp.elim
theorem Bm.snoc {α β : Type} {P : α → β → Prop} {l : List α} {m : List β} {a : α} {b : β} (h : Bm P l m) (h2 : P a b) : Bm P (l ++ [a]) (m ++ [b]) := h.append ⟨h2, trivial⟩
theorem Bm.get {α β : Type} {P : α → β → Prop} : ∀ {l : List α} {m : List β} {i : Nat} {a : α}, Bm P l m → l[i]? = some a → ∃ b, m[i]? = some b ∧ P a b
 | [], _, i, a, _, h => by simp at h
 | _ :: _, [], _, _, hp, _ => hp.elim
 | x :: l, y :: m, 0, a, hp, h => by simp at h; subst h; exact ⟨y, rfl, hp.1⟩
 | x :: l, y :: m, i + 1, a, hp, h => by
  obtain ⟨b, h1, h2⟩ := Bm.get (i := i) hp.2 (by simpa using h)
  exact ⟨b, by simpa using h1, h2⟩
structure AN (M M' : List Nat) (w w' : World) : Prop where
 blocks : ∀ b ∈ M', b ∈ M ∨ w.heap.size ≤ b
 same : Ad M w w'
theorem AN.refl (M : List Nat) (w : World) : AN M M w w := ⟨fun _ h => .inl h, Ad.refl _ _⟩
theorem AN.of_same {M : List Nat} {w w' : World} (h : Ad [] w w') : AN M M w w' := ⟨fun _ h => .inl h, h.mono (by simp)⟩
theorem AN.trans {A B C : List Nat} {a b c : World} (h : AN A B a b) (k : AN B C b c) : AN A C a c :=
 ⟨fun x hx => by
  rcases k.blocks x hx with h1 | h1
  ·exact h.blocks x h1
  ·exact .inr (Nat.le_trans h.same.size h1), h.same.then k.same h.blocks⟩
def G5 (w : World) (M : List Nat) (b : Nat) : Prop := b < w.heap.size ∧ b ∉ M
theorem G5.move {w w' : World} {M M' : List Nat} {b : Nat} (h : G5 w M b) (m : AN M M' w w') : G5 w' M' b :=
 ⟨Nat.lt_of_lt_of_le h.1 m.same.size, fun hm => by
  rcases m.blocks b hm with h1 | h1
  ·exact h.2 h1
  ·have := h.1; omega⟩
structure Fix (w : World) (M : List Nat) (e k : Nat) (v : Value) (n : Nat) (xs : List Value) : Prop where
 row : Row w e k v n xs
 not : ∀ b, v.ownBlock = some b → b ∉ M
theorem Fix.move {w w' : World} {M M' : List Nat} {e k n : Nat} {v : Value} {xs : List Value} (h : Fix w M e k v n xs) (m : AN M M' w w') : Fix w' M' e k v n xs :=
 ⟨h.row.same m.same (fun b hb => h.not b hb), fun b hb hm => by
  rcases m.blocks b hm with h1 | h1
  ·exact h.not b hb h1
  ·have := h.row.lt hb; omega⟩
theorem Fix.nil (w : World) (M : List Nat) (e k : Nat) : Fix w M e k (.slice none 0 0) 0 [] := ⟨World.ownsRow_nil _ _ _ _, by simp [Value.ownBlock]⟩
theorem Fix.fresh {w w' : World} {M : List Nat} {e k n : Nat} {v : Value} {xs : List Value} (h : Row w' e k v n xs) (hv : ∀ b, v.ownBlock = some b → w.heap.size ≤ b) (hM : ∀ b ∈ M, b < w.heap.size) : Fix w' M e k v n xs :=
 ⟨h, fun b hb hm => by have := hv b hb; have := hM b hm; omega⟩
def Ay (l : List Int) : List Value := l.map (Value.int .i64)
theorem AQ (l : List Int) : (Ay l).length = l.length := by simp [Ay]
theorem Cq (l : List Int) (n : Int) : Ay (l ++ [n]) = Ay l ++ [.int .i64 n] := by simp [Ay]
theorem Mp (l : List Int) (i : Nat) (h : i < l.length) : (Ay l).getD i undef = .int .i64 l[i] := by simp [Ay, List.getD_eq_getElem?_getD, h]
abbrev Ds (w : World) (M : List Nat) (v : Value) (l : List Int) : Prop := Fix w M 3 1 v l.length (Ay l)
theorem Row.elem {w : World} {e k n : Nat} {v : Value} {xs ys : List Value} (h : Row w e k v n xs) {i : Nat} (hi : i < n) (hy : ys.length = k) (hxs : (xs.drop (i * k)).take k = ys) (hk : 0 < k) :
  ∃ g c, v = .slice (some ⟨g, 0, none⟩) n c ∧ ∀ j, j < k → w.cell? ⟨g, i * k + j, none⟩ = some (ys.getD j undef) ∧ w.frozen? ⟨g, i * k + j, none⟩ = false := by
 have hb : ∀ j, j < k → i * k + j < n * k := fun j hj => by
  have : (i + 1) * k ≤ n * k := Nat.mul_le_mul_right _ hi
  rw [Nat.succ_mul] at this
  omega
 obtain ⟨g, c, hv, _⟩ := h.cell (j := i * k + 0) (hb 0 hk)
 refine ⟨g, c, hv, fun j hj => ?_⟩
 obtain ⟨g', c', hv', h1, h2⟩ := h.cell (j := i * k + j) (hb j hj)
 rw [hv] at hv'
 cases hv'
 refine ⟨?_, h2⟩
 rw [h1, ← hxs]
 simp [List.getD_eq_getElem?_getD, List.getElem?_take, hj]
end Go.Proofs.YtbfbgfpghkijdaaGreatDoor
