/- lemmalaw18.PruneFresh: of every text and every number: the lists of two calls of Falls, each written full and appended to, keep their marks, and a third call answers as the first did. Conditions: the listed package-level variables hold what the text of the program lays in them. -/
import Derived.Test.YtdhkmfpfbjcdiaaGreatDoorZag
import Derived.Test.YtdhkmfpfbjcdiaaGreatDoorZbn
import Derived.Test.YtdhkmfpfbjcdiaaGreatDoorRows
import Derived.WalkKit
import Derived.ProofKit
import Derived.OpenShut
import Derived.Deep.DeepHandedRow
import Derived.Lib.LaidU8
import Derived.Lay
import Derived.Shelf.Vars
import Derived.SizedLaws
import Derived.Test.YtdhkmfpfbjcdiaaGreatDoorCards
import Derived.Test.YtdhkmfpfbjcdiaaGreatDoorTie
set_option maxRecDepth 100000
set_option linter.unusedVariables false
set_option linter.unusedSimpArgs false
namespace Go.Proofs.YtdhkmfpfbjcdiaaGreatDoor
open Go.RowKit
set_option maxHeartbeats 16000000 in
theorem PruneFresh_calls (w : World) (t : ByteArray) (n : Int) (hn0 : -9223372036854775808 ≤ n) (hn1 : n ≤ 9223372036854775807) (ht : t.size < 4611686018427387904) (hb : Blanks w) (hl : LibCell w) : Calls Tryz.prog 4 #[.string t, .int .i64 n] w fun e w' => e = .returned (.bool true) ∧ Same [] w w' := by
  have hal := alive_calls w hb hl
  have hld := fun (W : World) (hW : Same [] w W) => Load_calls t W ht (hb.same hW) (hl.same hW)
  unfold LoadR at hld
  cases hB : loadOf t with
  | error f =>
    rw [hB] at hld
    go_enter Tryz.func4, Tryz.ntmps4
    go_wp2_with (first
      | (go_at_call 6; go_must (refine hal.mono ?_; rintro e1 W1 ⟨rfl, hs1⟩; have Hs1 := Lib.hid hs1; clear hs1))
      | (go_at_call 8; go_must (refine (hld _ Hs1.out).mono ?_; rintro e2 W2 ⟨hs2, v2, rfl, -⟩; have Hs2 := Lib.hid hs2; clear hs2)))
    go_ret
    exact ⟨rfl, Hs1.out.trans Hs2.out⟩
  | ok B =>
    rw [hB] at hld
    have hN := (load_nice hB).1
    have hct := fun (W : World) nb P (hA : BsAt W nb P B) => Count_calls W nb P B hA
    have hfl := fun (W : World) nb P (hA : BsAt W nb P B) (k : Nat) (hk : k < B.ld.asserts.length) => Falls_calls W nb P B hA hN k hk
    have hN1 := hN.n
    clear hN hB ht hb hl
    by_cases hz : B.ld.asserts.length = 0
    · have hz' : (B.ld.asserts.length : Int) = 0 := by omega
      rw [hz'] at hct
      clear hz hz' hfl
      go_enter Tryz.func4, Tryz.ntmps4
      go_wp2_with (first
        | (go_at_call 6; go_must (refine hal.mono ?_; rintro e1 W1 ⟨rfl, hs1⟩; have Hs1 := Lib.hid hs1; clear hs1))
        | (go_at_call 8; go_must (refine (hld _ Hs1.out).mono ?_; rintro e2 W2 ⟨hs2, nb, P, rfl, hA⟩; have Hs2 := Lib.hid hs2; have HA := Lib.hid hA; clear hs2 hA))
        | (go_at_call 16; go_must (refine (hct _ nb P HA.out).mono ?_; rintro e3 W3 ⟨rfl, hw3⟩; have hw4 := hw3.symm; subst hw4; clear hw3)))
      go_ret
      exact ⟨rfl, Hs1.out.trans Hs2.out⟩
    · generalize hL : B.ld.asserts = L at hct hfl hN1 hz
      obtain ⟨c, hc⟩ : ∃ c, L.length = c := ⟨_, rfl⟩
      rw [hc] at hz hN1
      simp only [hc] at hct
      have hz1 : ((c : Int) == 0) = false := by simpa using hz
      have hz2 : ((c : Int) = 0) = False := by simpa using hz
      have hcp : (0 : Int) < c := by omega
      have hm1 : -(c : Int) < n.tmod c := by have := Int.lt_tmod_of_pos n hcp; omega
      have hm2 : n.tmod c < c := Int.tmod_lt_of_pos n hcp
      go_enter Tryz.func4, Tryz.ntmps4
      go_wp2_with (first
        | (go_at_call 6; go_must (refine hal.mono ?_; rintro e1 W1 ⟨rfl, hs1⟩; have Hs1 := Lib.hid hs1; clear hs1))
        | (go_at_call 8; go_must (refine (hld _ Hs1.out).mono ?_; rintro e2 W2 ⟨hs2, nb, P, rfl, hA⟩; have Hs2 := Lib.hid hs2; have HA := Lib.hid hA; clear hs2 hA))
        | (go_at_call 16; go_must (refine (hct _ nb P HA.out).mono ?_; rintro e3 W3 ⟨rfl, hw3⟩; have hw4 := hw3.symm; subst hw4; clear hw3)))
      all_goals
        obtain ⟨k, hkL, hke⟩ : ∃ k : Nat, k < L.length ∧ (if n.tmod c < 0 then -n.tmod c else n.tmod c) = (k : Int) := by
          split
          · exact ⟨(-n.tmod c).toNat, by omega, by omega⟩
          · exact ⟨(n.tmod c).toNat, by omega, by omega⟩
        first
          | rw [if_pos (by assumption)] at hke
          | rw [if_neg (by first | assumption | omega)] at hke
        simp only [hke]
        have hfk := fun (W : World) nb P (hA : BsAt W nb P B) => hfl W nb P hA k hkL
        have hself := fallsOf_self L k hkL
        have hlen := fallsOf_len L k
        unfold FallsR at hfk
        obtain ⟨l, hl⟩ : ∃ l, fallsOf L k = l := ⟨_, rfl⟩
        rw [hl] at hlen hself
        simp only [hl] at hfk
        have hl0 : 0 < l.length := List.length_pos_of_mem hself
        have hl1 : l.length ≤ 1024 := by omega
        have hdl : decide (l = l) = true := by simp
        obtain ⟨i1, hi1, hiz0, hiz1, hiz2⟩ := info_split Tryz.infoInt
        clear hl hself hlen hke hfl hct hld hal hm1 hm2 hz1 hz2 hcp hn0 hn1 hz
        go_wp2_with (first
          | (go_at_call 10; go_must (first | (refine (hfk _ nb P (HA.out.same (Hsx.out.trans Hs5.out))).mono ?_; rintro e6 W6 ⟨vy, rfl, hry, hfy, hsy⟩; obtain ⟨Ay, cy, rfl⟩ := hry.shape; obtain ⟨gy, rfl, -, -⟩ := int_elem hry hl0; have Hry := Lib.hid hry; have Hfy := Lib.hid hfy; have Hsy := Lib.hid hsy; clear hry hfy hsy) | (refine (hfk _ nb P HA.out).mono ?_; rintro e4 W4 ⟨vx, rfl, hrx, hfx, hsx⟩; obtain ⟨Ax, cx, rfl⟩ := hrx.shape; obtain ⟨gx, rfl, -, -⟩ := int_elem hrx hl0; have Hrx := Lib.hid hrx; have Hfx := Lib.hid hfx; have Hsx := Lib.hid hsx; clear hrx hfx hsx)))
          | (go_at_call 14; go_must (refine (sameInts_calls _ _ _ l l Hry.out (Hr5.out.same Hsy.out (by simp)) (by omega) (by omega)).mono ?_; rintro e7 W7 ⟨rfl, hs7⟩; have Hs7 := Lib.hid hs7; clear hs7))
          | (at_builtin; refine wp_app2 rfl _ _ 31 rfl 3 1 8 _ Tryz.underlying31 Tryz.infoInt rfl (by decide) (.slice none 0 0) 0 [] rfl (World.ownsRow_nil _ _ _ _) ⟨gx, 0, none⟩ l.length cx rfl (intCells l) (by simp [intCells]) (Hrx.out.cells rfl) (by simp [intCells, Value.oneCell']) (by unfold maxLen; omega) (by omega) ?_; go_must (intro v5 W5 hr5 hs5 ho5; rw [Nat.zero_add, List.nil_append] at hr5; obtain ⟨A5, c5, rfl⟩ := hr5.shape; obtain ⟨g5, rfl, -, -⟩ := int_elem hr5 hl0; have Hr5 := Lib.hid hr5; have Hs5 : Hid (Same [] _ _) := Lib.hid hs5; have Ho5 := Lib.hid ho5; clear hr5 hs5 ho5)))
        have hpf : PF W2 W7 l gx cx l gy cy l (.slice (some ⟨g5, 0, none⟩) l.length c5) := by
          have h1 : gx < W4.heap.size := Hrx.out.lt rfl
          have h2 : g5 < W5.heap.size := Hr5.out.lt rfl
          have h3 : W5.heap.size ≤ gy := Hfy.out gy rfl
          have h4 : W2.heap.size ≤ gx := Hfx.out gx rfl
          have h5 := Hs5.out.size
          have h6 := Hsx.out.size
          have h7 : g5 = W4.heap.size := by
            rcases Ho5.out with h | ⟨h, -⟩
            · cases h
            · simpa [Value.ownBlock] using h
          refine ⟨Hrx.out.same ((Hs5.out.trans Hsy.out).trans Hs7.out) (by simp), Hry.out.same Hs7.out (by simp), Hr5.out.same (Hsy.out.trans Hs7.out) (by simp), ((Hsx.out.trans Hs5.out).trans Hsy.out).trans Hs7.out, h4, by omega, by omega, ?_, ?_⟩
          · intro e; simp [Value.ownBlock] at e; omega
          · intro e; simp [Value.ownBlock] at e; omega
        have h1 : PI1 W2 l gx cx gy cy (.slice (some ⟨g5, 0, none⟩) l.length c5) (.int .i64 0) W7 := ⟨0, Nat.zero_le _, rfl, by simpa [marked] using hpf⟩
        have H1 := Lib.hid h1
        clear h1 hpf Hrx Hfx Hsx Hr5 Hs5 Ho5 Hry Hfy Hsy Hs7
        go_loopw [13] (fun u wr => PI1 W2 l gx cx gy cy (.slice (some ⟨g5, 0, none⟩) l.length c5) u wr) (fun u _ => l.length - (intOf u).toNat)
        case atStart => exact H1.out
        case round =>
          obtain ⟨j, hj, rfl, hpf⟩ := hrel
          by_cases hlt : j < l.length
          · obtain ⟨⟨v, x1⟩, x2, x3⟩ := hpf.cellX hlt
            have Hpf := Lib.hid hpf
            clear hpf H1
            go_wp2
            go_roundw
            case rel => exact ⟨j + 1, hlt, by go_num, by rw [← marked_set l (-11) j hlt]; exact Hpf.out.setX hlt _⟩
            case measure => simp [intOf]; omega
          · have hjj : j = l.length := by omega
            subst hjj
            have e1 : marked l (-11) l.length = List.replicate l.length (-11) := by simp [marked]
            rw [e1] at hpf
            have h2 : PI2 W2 l gx cx gy cy (.slice (some ⟨g5, 0, none⟩) l.length c5) (.int .i64 0) wr := ⟨0, Nat.zero_le _, rfl, by simpa [marked] using hpf⟩
            have H2 := Lib.hid h2
            clear h2 hpf H1 e1
            go_wp2
            go_loopw [14] (fun u wr => PI2 W2 l gx cx gy cy (.slice (some ⟨g5, 0, none⟩) l.length c5) u wr) (fun u _ => l.length - (intOf u).toNat)
            case atStart => exact H2.out
            case round =>
              obtain ⟨j, hj, rfl, hpf⟩ := hrel
              by_cases hlt : j < l.length
              · obtain ⟨⟨v, x1⟩, x2, x3⟩ := hpf.swap.cellX hlt
                have Hpf := Lib.hid hpf
                clear hpf H2
                go_wp2
                go_roundw
                case rel => exact ⟨j + 1, hlt, by go_num, by rw [← marked_set l (-22) j hlt]; exact (Hpf.out.swap.setX hlt _).swap⟩
                case measure => simp [intOf]; omega
              · have hjj : j = l.length := by omega
                subst hjj
                have e1 : marked l (-22) l.length = List.replicate l.length (-22) := by simp [marked]
                rw [e1] at hpf
                have h3 : PI3 W2 l gx gy (.slice (some ⟨g5, 0, none⟩) l.length c5) (.slice (some ⟨gy, 0, none⟩) l.length cy) (.slice (some ⟨gx, 0, none⟩) l.length cx) (.int .i64 0) wr := ⟨0, Nat.zero_le _, rfl, hpf.pg hl0⟩
                have H3 := Lib.hid h3
                clear h3 hpf H2 e1
                go_wp2
                go_loopw [15, 17] (fun v u wr => PI3 W2 l gx gy (.slice (some ⟨g5, 0, none⟩) l.length c5) (.slice (some ⟨gy, 0, none⟩) l.length cy) v u wr) (fun _ u _ => 70 - (intOf u).toNat)
                case atStart => exact H3.out
                case round =>
                  obtain ⟨j, hj, rfl, hpg⟩ := hrel
                  by_cases hlt : j < 70
                  · obtain ⟨Ac, cc, rfl⟩ := hpg.rc.shape
                    have Hpg := Lib.hid hpg
                    have hjl : ((j : Int) < 70) := by omega
                    clear hpg H3
                    go_wp2_with (at_builtin; refine wp_push2 (W := wr) rfl _ _ 31 rfl 3 1 8 _ Tryz.underlying31 Tryz.infoInt rfl (by decide) (.slice Ac (l.length + j) cc) _ _ rfl Hpg.out.rc [.int .i64 (-11)] rfl rfl (by simp [Value.oneCell']) (by omega) (by decide) ?_; go_must (intro v8 W8 hr8 hs8 ho8; obtain ⟨A8, c8, rfl⟩ := hr8.shape; have Hg8 := Lib.hid (Hpg.out.push hr8 hs8 ho8); clear hr8 hs8 ho8))
                    go_roundw
                    case rel => exact ⟨j + 1, hlt, by go_num, Hg8.out⟩
                    case measure => simp [intOf]; omega
                  · have hjj : j = 70 := by omega
                    subst hjj
                    obtain ⟨Ac, cc, rfl⟩ := hpg.rc.shape
                    have h4 : PI4 W2 l gx gy (.slice (some ⟨g5, 0, none⟩) l.length c5) (.slice Ac (l.length + 70) cc) (.slice (some ⟨gy, 0, none⟩) l.length cy) (.int .i64 0) wr := ⟨0, by omega, rfl, hpg⟩
                    have H4 := Lib.hid h4
                    have e70 : ((70 : Nat) : Int) = 70 := rfl
                    simp only [e70]
                    clear h4 hpg H3 e70
                    go_wp2
                    go_loopw [16, 18] (fun v u wr => PI4 W2 l gx gy (.slice (some ⟨g5, 0, none⟩) l.length c5) (.slice Ac (l.length + 70) cc) v u wr) (fun _ u _ => 70 - (intOf u).toNat)
                    case atStart => exact H4.out
                    case round =>
                      obtain ⟨j, hj, rfl, hpg⟩ := hrel
                      by_cases hlt : j < 70
                      · obtain ⟨Ad, cd, rfl⟩ := hpg.rd.shape
                        have Hpg := Lib.hid hpg
                        have hjl : ((j : Int) < 70) := by omega
                        clear hpg H4
                        go_wp2_with (at_builtin; refine wp_push2 (W := wr) rfl _ _ 31 rfl 3 1 8 _ Tryz.underlying31 Tryz.infoInt rfl (by decide) (.slice Ad (l.length + j) cd) _ _ rfl Hpg.out.rd [.int .i64 (-22)] rfl rfl (by simp [Value.oneCell']) (by omega) (by decide) ?_; go_must (intro v8 W8 hr8 hs8 ho8; obtain ⟨A8, c8, rfl⟩ := hr8.shape; have Hg8 := Lib.hid (Hpg.out.swap.push hr8 hs8 ho8).swap; clear hr8 hs8 ho8))
                        go_roundw
                        case rel => exact ⟨j + 1, hlt, by go_num, Hg8.out⟩
                        case measure => simp [intOf]; omega
                      · have hjj : j = 70 := by omega
                        subst hjj
                        obtain ⟨Ad, cd, rfl⟩ := hpg.rd.shape
                        have Hpg := Lib.hid hpg
                        have e70 : ((70 : Nat) : Int) = 70 := rfl
                        simp only [e70]
                        clear hpg H4 e70
                        go_wp2_with (go_at_call 10; go_must (refine (hfk _ nb P (HA.out.same Hpg.out.same)).mono ?_; rintro e9 W9 ⟨vz, rfl, hrz, hfz, hsz⟩; obtain ⟨Az, cz, rfl⟩ := hrz.shape; have Hrz := Lib.hid hrz; have Hsz := Lib.hid hsz; clear hrz hfz hsz))
                        have h5 : PI5 W2 l gx gy (.slice (some ⟨g5, 0, none⟩) l.length c5) (.slice Ac (l.length + 70) cc) (.slice Ad (l.length + 70) cd) (.slice Az l.length cz) (.int .i64 0) W9 := ⟨0, by omega, rfl, Hpg.out.next Hsz.out, Hrz.out⟩
                        have H5 := Lib.hid h5
                        clear h5 Hpg Hsz Hrz
                        go_loopw [21] (fun u wr => PI5 W2 l gx gy (.slice (some ⟨g5, 0, none⟩) l.length c5) (.slice Ac (l.length + 70) cc) (.slice Ad (l.length + 70) cd) (.slice Az l.length cz) u wr) (fun u _ => l.length + 70 - (intOf u).toNat)
                        case atStart => exact H5.out
                        case round =>
                          obtain ⟨j, hj, rfl, hpg, hrz⟩ := hrel
                          by_cases hlt : j < l.length + 70
                          · obtain ⟨gc, rfl, c1, -⟩ := int_elem hpg.rc (k := j) (by simpa using hlt)
                            obtain ⟨gd, rfl, d1, -⟩ := int_elem hpg.rd (k := j) (by simpa using hlt)
                            rw [List.getElem_replicate] at c1 d1
                            have gcl := World.block_lt_of_cell? _ _ c1
                            have gdl := World.block_lt_of_cell? _ _ d1
                            have gxl := hpg.lx
                            have gyl := hpg.ly
                            have Hpg := Lib.hid hpg
                            have Hrz := Lib.hid hrz
                            by_cases hjl : j < l.length
                            · have x1 := hpg.hx j hjl
                              have y1 := hpg.hy j hjl
                              clear hpg hrz H5
                              go_wp2
                              go_roundw
                              case rel => exact ⟨j + 1, hlt, by go_num, Hpg.out, Hrz.out⟩
                              case measure => simp [intOf]; omega
                            · have hjl' : ¬ ((j : Int) < (l.length : Int)) := by omega
                              clear hpg hrz H5
                              go_wp2
                              go_roundw
                              case rel => exact ⟨j + 1, hlt, by go_num, Hpg.out, Hrz.out⟩
                              case measure => simp [intOf]; omega
                          · have hjj : j = l.length + 70 := by omega
                            subst hjj
                            have Hrw := Lib.hid hpg.rw
                            have Hrz := Lib.hid hrz
                            have Hsm := Lib.hid hpg.same
                            clear hpg hrz H5
                            go_wp2_with (go_at_call 14; go_must (refine (sameInts_calls _ _ _ l l Hrz.out Hrw.out (by omega) (by omega)).mono ?_; rintro e7 W10 ⟨rfl, hs10⟩; have Hs10 := Lib.hid hs10; clear hs10))
                            go_ret
                            exact ⟨by simp, ((Hs1.out.trans Hs2.out).trans Hsm.out).trans Hs10.out⟩
end Go.Proofs.YtdhkmfpfbjcdiaaGreatDoor
namespace Go.Proofs.YtdhkmfpfbjcdiaaGreatDoor
open Go.ChangeShapes Go.WideShapes Go.ChangeAt Go.RowKit
theorem rowOwn : ownKnob Tryz.prog.godebug = none := by kernel_rfl
theorem gBlanks : Tryz.prog.globalNamed "lemma/scan.blanks" = some 1 := by kernel_rfl
theorem tBlanks : (Tryz.prog.globals[1]?).map (·.type) = some 256 := by kernel_rfl
theorem uBlanks : Tryz.prog.underlying 256 = some (.array 33 4) := by kernel_rfl
theorem cBool : Tryz.prog.cellsOf 4 = 1 := by kernel_rfl
theorem dBlanks : (Rows.laid_lemma_scan_blanks : DataW Unit) = .agg ((List.range 33).map fun c => .lit (.bool (blankB c))) := by kernel_rfl
theorem blanks_of_reads {W : World} (h : Lib.VarReads Tryz.prog W "lemma/scan.blanks" Rows.laid_lemma_scan_blanks) : Blanks W := by
  obtain ⟨g, t, cs, fuel, p, hg, ht, hv, hd⟩ := h
  have hv0 := hv
  obtain rfl := Option.some.inj (gBlanks.symm.trans hg)
  obtain rfl := Option.some.inj (tBlanks.symm.trans ht)
  rw [dBlanks] at hd
  obtain ⟨xs, m, rfl, hx, hl, hxl, hel⟩ := DataW.trod_array uBlanks hd
  have hxs : xs.map (·.1) = (List.range 33).map fun c => (.lit (.bool (blankB c)) : DataW Unit) := by
    have := congrArg Prod.fst hx
    simpa using this.symm
  intro c hc
  have h1 := hel c hc
  rw [cBool, Nat.mul_one] at h1
  have hcl : c < xs.length := by omega
  rw [List.getElem?_eq_getElem hcl] at h1
  obtain ⟨b, e1, e2⟩ := DataW.trod_bool Tryz.underlying4 h1
  have e3 : (xs.map (·.1))[c]? = some (.lit (.bool (blankB c))) := by rw [hxs]; simp [hc]
  rw [List.getElem?_map, List.getElem?_eq_getElem hcl, Option.map_some, e2] at e3
  have e4 : b = blankB c := by simpa using e3
  subst e4
  have e5 : cs.toList[c]? = some (.bool (blankB c)) := by
    have := congrArg (·[0]?) e1
    simpa [List.getElem?_take, List.getElem?_drop] using this
  have := World.var?_cell hg hv0 c
  rw [this]
  simpa using e5
theorem lib_of_shape {W : World} (h : W.ShapedOpen Tryz.prog) : LibCell W :=
  cell_of_shapedOpen_int (zero := #[.int .i64 0]) (t := 3) h (of_decide_eq_true (by kernel_rfl)) (by kernel_rfl) rfl (by kernel_rfl) (by kernel_rfl) Tryz.underlying3
end Go.Proofs.YtdhkmfpfbjcdiaaGreatDoor
namespace Go.Proofs.YtdhkmfpfbjcdiaaGreatDoor
open Go.ChangeShapes Go.WideShapes Go.ChangeAt Go.RowKit
open Go.ChangeMaps (open_string shut_string)
noncomputable def freshWorld (os : Os) : World := World.laidAll Tryz.prog os Rows.pruneFreshRow.laid
theorem fresh_met (os : Os) (args : Array Value) : laidMetH Tryz.prog Rows.pruneFreshRow.laid ((freshWorld os).forCall (fun _ _ => 0) ⟨#[], args, []⟩).memory := by
  rw [MakeChecks.laidMetH_plain _ _ _ (by kernel_rfl)]
  exact laidMet_laidAll _ (by kernel_rfl) (by kernel_rfl)
theorem fresh_reads (os : Os) {H : Type} (enc : TypeId × Value → H) : ∃ places, DataW.whole enc Tryz.prog ((freshWorld os).forCall (fun _ _ => 0) ⟨#[], #[.string ⟨#[]⟩, .int .i64 0], []⟩).memory Tryz.f4.params.toList Rows.pruneFreshSpec.vars false #[Value.string ⟨#[]⟩, .int .i64 0].toList 8 = some ([.lit (.string []), .lit (.int .i64 0)], [], places) :=
  ⟨[], by kernel_rfl⟩
theorem fresh_contract (H : Type) (enc : TypeId × Value → H) (W : World) (base : Nat) (args : Array Value) (ds gs : List (DataW H)) (before : List MemPlace)
    (hval : ∀ (j : Nat) t v, Tryz.f4.params[j]? = some t → args[j]? = some v → Value.okWide Tryz.prog W .any base t v)
    (hW : DataW.Whole enc Tryz.prog Tryz.f4.params.toList Rows.pruneFreshSpec.vars false W args.toList ds gs before) (vt : List TypeId) (hz : (DataW.weightsEach Tryz.prog (Tryz.f4.params.toList ++ vt) (ds ++ gs)).all (· ≤ reachBytes) = true) (hL : laidMetH Tryz.prog Rows.pruneFreshRow.laid W) (hS : W.ShapedOpen Tryz.prog) :
    Calls Tryz.prog 4 args W fun e W' => ∃ v, e = .returned v ∧ Rows.pruneFreshSpec.post enc Tryz.prog Tryz.f4 false true false false W args v W' := by
  have hW' := hW
  obtain ⟨p, q, hA0, hV, rfl, hfz, hnd⟩ := hW
  have hA : DataW.TrodAll enc Tryz.prog W 0 (fun _ => true) true Tryz.f4.params.toList args.toList ds p := hA0
  rw [Tryz.params4] at hA hval hz
  obtain ⟨v0, vs0, d0, ds0, p0, q0, hargs, rfl, rfl, h0, r0⟩ := trodAll_cons hA
  obtain ⟨v1, vs1, d1, ds1, p1, q1, hargs1, rfl, rfl, h1, r1⟩ := trodAll_cons r0
  obtain ⟨rfl, rfl, rfl⟩ := trodAll_nil r1
  subst hargs1
  obtain rfl : args = #[v0, v1] := by cases args; simp_all
  obtain ⟨rfl, rfl⟩ := trodVars_none hV
  obtain ⟨t, rfl, rfl, rfl, ht⟩ := open_string Tryz.underlying9 (hval 0 9 v0 rfl rfl) h0
  obtain ⟨n, rfl, rfl, rfl, hn⟩ := open_int Tryz.underlying3 (hval 1 3 v1 rfl rfl) h1
  clear hA0
  simp only [List.append_nil] at hW'
  have hnn : -9223372036854775808 ≤ n ∧ n ≤ 9223372036854775807 := by simpa [Lit.wf, IntKind.min, IntKind.max, IntKind.signed, IntKind.bits] using hn
  rw [MakeChecks.laidMetH_plain _ _ _ (by kernel_rfl)] at hL
  have hB := blanks_of_reads (Lib.laidMet.reads hL (n := "lemma/scan.blanks") (d := Rows.laid_lemma_scan_blanks) (by simp [Rows.pruneFreshRow]))
  refine (PruneFresh_calls W t n hnn.1 hnn.2 (by have h8 := sized_string hz (j := 0) (t := 9) (bytes := t.data.toList) rfl rfl; have h9 := reachBytes_lt; rw [Array.length_toList] at h8; show t.data.size < _; omega) hB (lib_of_shape hS)).mono fun e W' ⟨he, hs⟩ => ?_
  subst he
  have hb := hs.below
  exact ⟨_, rfl, _, _, _, [], [], [], hW', trodAll_mk1 (shut_bool Tryz.underlying4 _), trodAll_mk2 (shut_string Tryz.underlying9 ht) (shut_int Tryz.underlying3 hn), rfl, hb.frame _, fun h => by cases h⟩
theorem fresh_lifted (os : Os) (started : os.Started) (H : Type) (enc : TypeId × Value → H) (F : Stop.Interp) :
    ReturnsInHanded {} Tryz.checked os 4 .any ((OpenSpec.ofChange Rows.pruneFreshSpec).preRow enc Tryz.prog Tryz.f4 Rows.pruneFreshRow.domain false Rows.pruneFreshRow.laid) (((OpenSpec.ofChange Rows.pruneFreshSpec).at F).post enc Tryz.prog Tryz.f4 false true false false) := by
  obtain ⟨places, hx⟩ := fresh_reads os enc
  refine returnsInHanded_of_row (C := Tryz.checked) (s := OpenSpec.ofChange Rows.pruneFreshSpec) rowOwn started (by kernel_rfl) Tryz.func4
    (witness_row_at (enc := enc) (C := Tryz.checked) false (freshWorld os) #[.string ⟨#[]⟩, .int .i64 0] (World.laidAll_os _ _ _) (by kernel_rfl) (by kernel_rfl) (by kernel_rfl)
      (OpenSpec.preRow_of_cond 8 hx (by kernel_rfl) (fun k hk => by cases hk) (by kernel_rfl) (fresh_met os _))) ?_
  intro W base args ds gs before hval hW _ _ hz hL hS _
  exact fresh_contract H enc W base args ds gs before hval hW _ hz hL hS
theorem fresh_said : Rows.PruneFreshSaid :=
  OpenClaim.holds_of_cond 4 Tryz.f4 rfl rfl rfl rfl rfl rfl rfl ⟨rfl, rfl, rfl, rfl, rfl⟩ rfl rfl rfl rfl rfl (by kernel_rfl) Tryz.func4 (by kernel_rfl)
    (of_decide_eq_true (by kernel_rfl)) (by unfold Func.isWrapper; first | (rw [if_pos (by decide +kernel)]; kernel_rfl) | (rw [if_neg (by decide +kernel)]; exact ⟨rfl, rfl⟩))
    (fun os started H enc _ F => by rw [OpenClaim.pre_eq_preRow]; exact fresh_lifted os started H enc F)
theorem fresh_plain (f : FuncId) (fn : Func) (hf : Tryz.pinned.checked.prog.funcNamed "lemma/lemmalaw18.PruneFresh" = some f) (hfn : Tryz.pinned.checked.prog.funcs[f]? = some fn) :
    true = Tryz.pinned.checked.prog.looks [] ∧ ∀ (j : Nat) t, fn.params[j]? = some t → Tryz.pinned.checked.prog.wantsStandIn t = false := by
  obtain rfl : f = 4 := Option.some.inj ((show Tryz.prog.funcNamed "lemma/lemmalaw18.PruneFresh" = some 4 by kernel_rfl).symm.trans hf) |>.symm
  obtain rfl : fn = Tryz.f4 := (Option.some.inj (Tryz.func4.symm.trans hfn)).symm
  refine ⟨by kernel_rfl, fun j t ht => ?_⟩
  rw [Tryz.params4] at ht
  have hm : t ∈ [9, 3] := by simpa using Array.mem_of_getElem? ht
  have hall : ([9, 3].all fun u => !Tryz.prog.wantsStandIn u) = true := by kernel_rfl
  exact (show Tryz.prog.wantsStandIn t = false by simpa using List.all_eq_true.1 hall t hm)
theorem pruneFresh_card : Rows.PruneFreshCardSaid :=
  Claim7.holds_tied_plain_at .later [] _ _ _ _ fresh_said (fun _ h => by cases h) (by kernel_rfl) (fun _ h => by cases h) pruneFresh_row_tie rfl ⟨rfl, rfl⟩ (by kernel_rfl) rfl fresh_plain (by kernel_rfl)
end Go.Proofs.YtdhkmfpfbjcdiaaGreatDoor
