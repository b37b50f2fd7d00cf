/- lemmalaw texts, part 50. -/
import Derived.Test.YtbfbgfpghkijdaaGreatDoorYbw
import Derived.SizedLaws
import Derived.SliceStrings
import Derived.Lib.SmallJoins
import Derived.Test.YtbfbgfpghkijdaaGreatDoorCards
import Derived.Test.YtbfbgfpghkijdaaGreatDoorTie
set_option maxRecDepth 100000
set_option linter.unusedVariables false
set_option linter.unusedSimpArgs false
set_option maxHeartbeats 32000000
namespace Go.Proofs.YtbfbgfpghkijdaaGreatDoor
open Go.ChangeShapes Go.WideShapes Go.ChangeAt Go.RowKit
open Go.ChangeMaps (open_string shut_string)
theorem KR {H : Type} : ∀ l : List ByteArray, l.length ≤ Rows.uptoBulkAll (strs l : List (DataW H))
 | [] => Nat.zero_le _
 | s :: l => by
  have := KR (H := H) l
  show l.length + 1 ≤ Rows.uptoBulk (.lit (.string s.data.toList)) + Rows.uptoBulkAll (strs l : List (DataW H))
  have h1 : 1 ≤ Rows.uptoBulk (.lit (.string s.data.toList) : DataW H) := by unfold Rows.uptoBulk; omega
  omega
theorem Na {H : Type} {enc : TypeId × Value → H} {W : World} {fuel : Nat} {cs : List Value} {y : DataW H × List MemPlace} (h : DataW.trod enc Tryz.prog W 0 (fun _ => true) true fuel 23 cs = some y) :
  ∃ v l, cs = [v] ∧ FD W v l ∧ l.length ≤ Rows.uptoBulk y.1 := by
 rcases open_strings Tryz.underlying23 Tryz.underlying9 (by kernel_rfl) h with ⟨hcs, hx⟩ | ⟨a, len, cap, ss, hcs, _, hl, hm, hz, hx, hcell, hsz⟩
 ·exact ⟨_, [], hcs, .inl ⟨⟨none, 0, rfl⟩, rfl⟩, by simp⟩
 ·rw [if_pos rfl] at hz
  have hlen : (ss.take len).length = len := by rw [List.length_take]; omega
  refine ⟨_, ss.take len, hcs, ?_, ?_⟩
  ·by_cases h0 : len = 0
   ·subst h0
    exact .inl ⟨⟨_, _, rfl⟩, by simp⟩
   ·right
    have c0 := hcell 0 (by omega)
    obtain ⟨b, off, sp⟩ := a
    have hsp : sp = none := by
     cases sp with
     | none => rfl
     | some x =>
      simp only [Addr.add, World.cell?] at c0
      split at c0 <;> simp_all
    subst hsp
    have hadd : ∀ j, (⟨b, off, none⟩ : Addr).add j = ⟨b, off + j, none⟩ := fun j => by unfold Addr.add; split <;> simp_all
    refine ⟨by simp [DP], b, off, cap, by rw [hlen], by rw [hlen]; exact hl, World.block_lt_of_cell? _ _ c0, fun j u hj => ?_⟩
    unfold DP at hj
    rw [List.getElem?_map, Option.map_eq_some_iff] at hj
    obtain ⟨s, hs, rfl⟩ := hj
    have hjl : j < len := by have := (List.getElem?_eq_some_iff.1 hs).1; omega
    have c1 := hcell j (by omega)
    rw [hadd] at c1
    rw [c1]
    rw [List.getElem?_take, if_pos hjl] at hs
    rw [List.getD_eq_getElem?_getD, hs]
    rfl
  ·rw [hx]
   show (ss.take len).length ≤ Rows.uptoBulk (.slice (strs (ss.take len)) (strs (ss.drop len)))
   have := KR (H := H) (ss.take len)
   unfold Rows.uptoBulk
   omega
noncomputable def FW (os : Os) : World := World.laidAll Tryz.prog os Rows.verifyFirstUptoRow.laid
theorem NX (os : Os) (args : Array Value) : laidMetH Tryz.prog Rows.verifyFirstUptoRow.laid ((FW os).forCall (fun _ _ => 0) ⟨#[], args, []⟩).memory := by
 rw [MakeChecks.laidMetH_plain _ _ _ (by kernel_rfl)]
 exact laidMet_laidAll _ (by kernel_rfl) (by kernel_rfl)
theorem Ll (os : Os) {H : Type} (enc : TypeId × Value → H) : ∃ places, DataW.whole enc Tryz.prog ((FW os).forCall (fun _ _ => 0) ⟨#[], #[.string ⟨#[]⟩, .agg #[.int .i64 0, .bool false, .slice none 0 0], .slice none 0 0], []⟩).memory Tryz.f5.params.toList (Rows.OpenSpec.upto Rows.verifyFirstSpec).vars false #[Value.string ⟨#[]⟩, .agg #[.int .i64 0, .bool false, .slice none 0 0], .slice none 0 0].toList 8 = some ([.lit (.string []), .agg [.lit (.int .i64 0), .lit (.bool false), .nil], .nil], [], places) :=
 ⟨[], by kernel_rfl⟩
theorem IZ (H : Type) (enc : TypeId × Value → H) (W : World) (base : Nat) (args : Array Value) (ds gs : List (DataW H)) (before : List MemPlace)
  (hval : ∀ (j : Nat) t v, Tryz.f5.params[j]? = some t → args[j]? = some v → Value.okWide Tryz.prog W .any base t v)
  (hW : DataW.Whole enc Tryz.prog Tryz.f5.params.toList Rows.verifyFirstSpec.vars false W args.toList ds gs before) (hk : Rows.uptoSmall H (ds ++ gs) = true) (vt : List TypeId) (hz : (DataW.weightsEach Tryz.prog (Tryz.f5.params.toList ++ vt) (ds ++ gs)).all (· ≤ reachBytes) = true) (hL : laidMetH Tryz.prog Rows.verifyFirstUptoRow.laid W) (hS : W.ShapedOpen Tryz.prog) :
  Calls Tryz.prog 5 args W fun e W' => ∃ v, e = .returned v ∧ Rows.verifyFirstSpec.post enc Tryz.prog Tryz.f5 false true false false W args v W' := by
 have hW' := hW
 obtain ⟨p, q, hA0, hV, rfl, hfz, hnd⟩ := hW
 have hA : DataW.TrodAll enc Tryz.prog W 0 (fun _ => true) true Tryz.f5.params.toList args.toList ds p := hA0
 rw [Tryz.params5] at hA hval hz
 obtain ⟨v0, vs0, d0, ds0, p0, q0, hargs, rfl, rfl, h0, r0⟩ := trodAll_cons hA
 obtain ⟨v1, vs1, d1, ds1, p1, q1, hargs1, rfl, rfl, h1, r1⟩ := trodAll_cons r0
 obtain ⟨v2, vs2, d2, ds2, p2, q2, hargs2, rfl, rfl, h2, r2⟩ := trodAll_cons r1
 obtain ⟨rfl, rfl, rfl⟩ := trodAll_nil r2
 subst hargs2
 subst hargs1
 obtain rfl : args = #[v0, v1, v2] := by cases args; simp_all
 obtain ⟨rfl, rfl⟩ := trodVars_none hV
 obtain ⟨t, rfl, rfl, rfl, ht⟩ := open_string Tryz.underlying9 (hval 0 9 v0 rfl rfl) h0
 have h1k := h1
 have h2k := h2
 obtain ⟨a0, a1, a2, y0, y1, y2, m, rfl, rfl, rfl, z0, z1, z2⟩ := Joins.open_agg3 Tryz.underlying51 (by kernel_rfl) (by kernel_rfl) (hval 1 51 v1 rfl rfl) h1
 obtain ⟨n, e0, x0, hn⟩ := DataW.trod_int Tryz.underlying3 z0
 obtain ⟨b, e1, x1⟩ := DataW.trod_bool Tryz.underlying4 z1
 obtain ⟨wv, l, e2, hl, hll⟩ := Na z2
 obtain rfl : a0 = .int .i64 n := by simpa using e0
 obtain rfl : a1 = .bool b := by simpa using e1
 obtain rfl : a2 = wv := by simpa using e2
 obtain ⟨A3, n3, c3, rfl⟩ := okWide_slice Tryz.underlying23 (hval 2 23 v2 rfl rfl)
 obtain ⟨fuel, hf⟩ := h2
 obtain ⟨mv, lm, e3, hm, hlm⟩ := Na hf
 obtain rfl : Value.slice A3 n3 c3 = mv := by simpa [Value.cells] using e3
 clear hA0
 simp only [List.append_nil] at hW'
 have hbk : Rows.uptoBulk (.agg [y0.1, y1.1, y2.1] : DataW H) + Rows.uptoBulk d2 ≤ 1048576 := by
  have := of_decide_eq_true hk
  simp only [List.cons_append, List.nil_append, Rows.uptoBulkAll] at this
  omega
 have hb1 : l.length ≤ 1048576 := by
  have : Rows.uptoBulk (.agg [y0.1, y1.1, y2.1] : DataW H) = Rows.uptoBulk y0.1 + (Rows.uptoBulk y1.1 + (Rows.uptoBulk y2.1 + 0)) + 1 := by simp only [Rows.uptoBulk, Rows.uptoBulkAll]
  omega
 have hb2 : lm.length ≤ 1048576 := Nat.le_trans hlm (by show Rows.uptoBulk d2 ≤ _; omega)
 rw [MakeChecks.laidMetH_plain _ _ _ (by kernel_rfl)] at hL
 have hB := I7 (Lib.laidMet.reads hL (n := "lemma/scan.blanks") (d := Rows.laid_lemma_scan_blanks) (by simp [Rows.verifyFirstUptoRow]))
 have hlt : ∀ x ∈ y0.2 ++ (y1.2 ++ y2.2) ++ p2, x.block < W.heap.size := fun x hx => hW'.lt x (by simpa using hx)
 refine (LC W t n b _ _ l lm hl hm (by omega) (by omega) (by have h8 := sized_string hz (j := 0) (t := 9) (bytes := t.data.toList) rfl rfl; have h9 := reachBytes_lt; rw [Array.length_toList] at h8; show t.data.size < _; omega) hB (LM hS)).mono fun e W' ⟨he, hs⟩ => ?_
 subst he
 have hb := hs.below
 exact ⟨_, rfl, _, _, _, [], _, [], hW', trodAll_mk1 (shut_bool Tryz.underlying4 _), trodAll_cons_mk (shut_string Tryz.underlying9 ht) (trodAll_mk2 (Below.trod (by kernel_rfl) (by kernel_rfl) (of_decide_eq_true (by kernel_rfl)) h1k hb fun x hx => hlt x (List.mem_append_left _ hx)) (Below.trod (by kernel_rfl) (by kernel_rfl) (of_decide_eq_true (by kernel_rfl)) h2k hb fun x hx => hlt x (List.mem_append_right _ hx))), rfl, hb.frame _, fun h => by cases h⟩
theorem Kn (os : Os) (started : os.Started) (H : Type) (enc : TypeId × Value → H) (F : Stop.Interp) :
  ReturnsInHanded {} Tryz.checked os 5 .any ((Rows.OpenSpec.upto Rows.verifyFirstSpec).preRow enc Tryz.prog Tryz.f5 Rows.verifyFirstUptoRow.domain false Rows.verifyFirstUptoRow.laid) (((Rows.OpenSpec.upto Rows.verifyFirstSpec).at F).post enc Tryz.prog Tryz.f5 false true false false) := by
 obtain ⟨places, hx⟩ := Ll os enc
 refine returnsInHanded_of_row (C := Tryz.checked) (s := Rows.OpenSpec.upto Rows.verifyFirstSpec) RB started (by kernel_rfl) Tryz.func5
  (witness_row_at (enc := enc) (C := Tryz.checked) false (FW os) #[.string ⟨#[]⟩, .agg #[.int .i64 0, .bool false, .slice none 0 0], .slice none 0 0] (World.laidAll_os _ _ _) (by kernel_rfl) (by kernel_rfl) (by kernel_rfl)
   (OpenSpec.preRow_of_cond 8 hx (by kernel_rfl) (fun k hk => by cases hk; rfl) (by kernel_rfl) (NX os _))) ?_
 intro W base args ds gs before hval hW _ hk hz hL hS _
 exact IZ H enc W base args ds gs before hval hW (hk _ rfl) _ hz hL hS
theorem MO : Rows.VerifyFirstUptoSaid :=
 OpenClaim.holds_of_cond 5 Tryz.f5 rfl rfl rfl rfl rfl rfl rfl ⟨rfl, rfl, rfl, rfl, rfl⟩ rfl rfl rfl rfl rfl (by kernel_rfl) Tryz.func5 (by kernel_rfl)
  (of_decide_eq_true (by kernel_rfl)) (by unfold Func.isWrapper; first | (rw [if_pos (by decide +kernel)]; kernel_rfl) | (rw [if_neg (by decide +kernel)]; exact ⟨rfl, rfl⟩))
  (fun os started H enc _ F => by rw [OpenClaim.pre_eq_preRow]; exact Kn os started H enc F)
theorem Lv (f : FuncId) (fn : Func) (hf : Tryz.pinned.checked.prog.funcNamed "lemma/lemmalaw14.VerifyFirst" = some f) (hfn : Tryz.pinned.checked.prog.funcs[f]? = some fn) :
  true = Tryz.pinned.checked.prog.looks [] ∧ ∀ (j : Nat) t, fn.params[j]? = some t → Tryz.pinned.checked.prog.wantsStandIn t = false := by
 obtain rfl : f = 5 := Option.some.inj ((show Tryz.prog.funcNamed "lemma/lemmalaw14.VerifyFirst" = some 5 by kernel_rfl).symm.trans hf) |>.symm
 obtain rfl : fn = Tryz.f5 := (Option.some.inj (Tryz.func5.symm.trans hfn)).symm
 refine ⟨by kernel_rfl, fun j t ht => ?_⟩
 rw [Tryz.params5] at ht
 have hm : t ∈ [9, 51, 23] := by simpa using Array.mem_of_getElem? ht
 have hall : ([9, 51, 23].all fun u => !Tryz.prog.wantsStandIn u) = true := by kernel_rfl
 exact (show Tryz.prog.wantsStandIn t = false by simpa using List.all_eq_true.1 hall t hm)
theorem verifyFirst_card : Rows.VerifyFirstUptoCardSaid :=
 Claim7.holds_tied_plain_at .later [] _ _ _ _ MO (fun _ h => by cases h) (by kernel_rfl) (fun _ h => by cases h) verifyFirstUpto_row_tie rfl ⟨rfl, rfl⟩ (by kernel_rfl) rfl Lv (by kernel_rfl)
end Go.Proofs.YtbfbgfpghkijdaaGreatDoor
