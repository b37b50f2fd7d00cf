/- lemmalaw texts, part 31. -/
import Derived.Test.YtbfbgfpghkijdaaGreatDoorYbd
set_option maxRecDepth 100000
set_option linter.unusedVariables false
set_option linter.unusedSimpArgs false
set_option maxHeartbeats 32000000
namespace Go.Proofs.YtbfbgfpghkijdaaGreatDoor
open Go.RowKit
def FI (go : Ld → List Tk → Ex Ld) (w : World) (F : LF) (V : LV) (L : Ld) (ws : List Tk) (u : Value) (W : World) : Prop :=
 ∃ (k : Nat) (V' : LV) (L' : Ld), k ≤ ws.length ∧ u = .int .i64 k ∧ BR W F V' L' ∧ L'.Ok ∧ AN (V.blocks F) (V'.blocks F) w W ∧ go L ws = go L' (ws.drop k)
theorem J9 (L : Ld) (ws : List Tk) (k : Nat) (hk : k < ws.length) : L.constGo (ws.drop k) = (Bl ws[k] (L.tbl.const ws[k].text).2.1).bind fun _ => Ld.constGo { L with tbl := (L.tbl.const ws[k].text).2.2 } (ws.drop (k + 1)) := by
 rw [List.drop_eq_getElem_cons hk, Ld.constGo]
theorem Md (L : Ld) (ws : List Tk) (k : Nat) (hk : k < ws.length) : L.varGo (ws.drop k) = (Bl ws[k] (L.tbl.var ws[k].text).2.1).bind fun _ => Ld.varGo { L with tbl := (L.tbl.var ws[k].text).2.2 } (ws.drop (k + 1)) := by
 rw [List.drop_eq_getElem_cons hk, Ld.varGo]
theorem Ca.blanks {w : World} {F : LF} {V : LV} {L : Ld} {s : St} {Aw Ap : Option Addr} {cw cp : Nat} (h : Ca w F V L s Aw Ap cw cp) {V' : LV} {W : World} (m : AN (V.blocks F) (V'.blocks F) w W) : BF W := h.bl.sameS m.same h.bn
theorem zq35 {P : Prop} (h : P := by
 refine ⟨rfl, ?_⟩
 exact ⟨b, rfl, hf, (HW.out.trans hs).mono (by simp)⟩) : P := h
theorem Kv (w : World) (F : LF) (V : LV) (L : Ld) (s : St) (Aw Ap : Option Addr) (cw cp : Nat) (h : Ca w F V L s Aw Ap cw cp) (hlx : s.label.text.size = 0 ∨ (s.label.text.size ≠ 0 ∧ L.label s.label = .ok ())) (hk : s.kind = 1) (hd : 0 < L.tbl.scopes.length) :
  Calls Tryz.prog 32 #[.pointer (some ⟨F.l, 0, none⟩), stV s (.slice Aw s.words.length cw) (.slice Ap s.proof.length cp)] w (LdX F V (L.act s) w) := by
 have hlc := fun (W : World) (hW : Ad [] w W) => AX W F V L (h.ld.same hW) s.label h.sin.label.max
 have H := Kd h
 have l0 := Ai (i := 0) (v := .pointer (some ⟨F.nb, 0, none⟩)) h.ld.lb
 have l1 := Ai (i := 1) (v := .pointer (some ⟨F.s, 0, none⟩)) h.ld.lb
 have ll := Af h.ld.lb
 have n2 := Ai (i := 2) (v := .pointer (some ⟨F.t, 0, none⟩)) h.ld.nbb
 have nl := Af h.ld.nbb
 have hact : L.act s = .error (s.key, 80) := by unfold Ld.act; simp [hk, hd]
 rw [hact]
 have hdp := fun (W : World) (hW : Ad [] w W) => Ek W F.t V.TA L.tbl (h.ld.tbl.same hW (by simp))
 have hst := fun W => CE W s.key 80
 unfold tkV at hst
 clear hact
 have kb8 : ((s.kind : Int) == 8) = false := by rw [hk]; rfl
 have kb9 : ((s.kind : Int) == 9) = false := by rw [hk]; rfl
 have kb1 : ((s.kind : Int) == 1) = true := by rw [hk]; rfl
 have kb2 : ((s.kind : Int) == 2) = false := by rw [hk]; rfl
 have kb5 : ((s.kind : Int) == 5) = false := by rw [hk]; rfl
 have kb3 : ((s.kind : Int) == 3) = false := by rw [hk]; rfl
 have kb4 : ((s.kind : Int) == 4) = false := by rw [hk]; rfl
 have kb6 : ((s.kind : Int) == 6) = false := by rw [hk]; rfl
 have kb7 : ((s.kind : Int) == 7) = false := by rw [hk]; rfl
 clear hk
 unfold stV
 unfold tkV at hlc
 clear h
 rcases hlx with hle | ⟨hle, hlo⟩
 ·have hle' : s.label.text.toList.isEmpty = true := by rw [AM]; simp [hle]
  have HW := DS w s Aw Ap cw cp
  have HSb := Kd (Aj w (stO s (.slice Aw s.words.length cw) (.slice Ap s.proof.length cp)))
  clear hle hlc
  go_enter Tryz.func32, Tryz.ntmps32
  go_wp2_with (first | (go_at_call 33; go_must (refine (hdp _ HW.out).mono ?_; rintro e2 W2 ⟨rfl, hw2⟩; obtain rfl := hw2)) | (go_at_call 65; go_must (refine (hst _).mono ?_; rintro e w' ⟨b, rfl, hf, hs⟩)))
  exact zq35
 ·have hle' : s.label.text.toList.isEmpty = false := by rw [AM]; simp [hle]
  rw [hlo] at hlc
  unfold Cz at hlc
  dsimp only at hlc
  clear hle hlo
  go_enter Tryz.func32, Tryz.ntmps32
  go_wp2_with (first | (go_at_call 59; go_must (refine (hlc _ (Ad.alloc [] _ _)).mono ?_; rintro e1 W1 ⟨rfl, hs1⟩; have hS1 := hs1.get (Aj w (stO s (.slice Aw s.words.length cw) (.slice Ap s.proof.length cp))) (by simp); obtain ⟨s0, s1, s2, s3, s4, s5, s6, s7, s8, s9, s10, s11, s12, s13, s14, s15, sf⟩ := AF hS1; have sl := Af hS1; have hW1 := (Ad.alloc [] w (stO s (.slice Aw s.words.length cw) (.slice Ap s.proof.length cp))).trans hs1; have l01 := hW1.cell l0 (by simp); have l11 := hW1.cell l1 (by simp); have n21 := hW1.cell n2 (by simp); have ll1 := Nat.lt_of_lt_of_le ll hW1.size; have nl1 := Nat.lt_of_lt_of_le nl hW1.size; have HSb := Kd hS1; have HW := Kd hW1; clear hs1 hS1 hW1)) | (go_at_call 33; go_must (refine (hdp _ HW.out).mono ?_; rintro e2 W2 ⟨rfl, hw2⟩; obtain rfl := hw2)) | (go_at_call 65; go_must (refine (hst _).mono ?_; rintro e w' ⟨b, rfl, hf, hs⟩)))
  exact zq35
theorem zq3 {P : Prop} (h : P := by
 have h0 : FI Ld.constGo w F V L s.words (.int .i64 0) _ := ⟨0, V, L, Nat.zero_le _, rfl, H.out.ld.same HW.out, H.out.ok, AN.of_same HW.out, rfl⟩
 have H0 := Kd h0
 clear h0
 go_loopw [84] (fun u wr => FI Ld.constGo w F V L s.words u wr) (fun u _ => s.words.length - (intOf u).toNat)
 case atStart => exact H0.out
 case round =>
  obtain ⟨k, V', L', hk, rfl, hld, hok', hmv, heq⟩ := hrel
  by_cases hlt : k < s.words.length
  ·have hstep := J9 L' s.words k hlt
   obtain ⟨g, c, hv, t0, t1, t2, t3, hgl⟩ := DA (H.out.words.move hmv).row hlt
   cases hv
   have hbl := H.out.blanks hmv
   have hcn := fun (W : World) (hW : Ad [] wr W) => F7 W F.t V'.TA L'.tbl (hld.tbl.same hW (by simp)) s.words[k].text (hbl.same hW) (H.out.sin.words s.words[k] (List.getElem_mem _)).max
   have hnok := fun W n hn => C6 W s.words[k] n hn
   have hnbad := fun W n hn => CI W s.words[k] n hn
   unfold tkV at hnok hnbad
   have hM' := hld.lt
   clear l0 l1 ll n2 nl
   try clear l01 l11 n21 ll1 nl1
   have l0 := Ai (i := 0) (v := .pointer (some ⟨F.nb, 0, none⟩)) hld.lb
   have l1 := Ai (i := 1) (v := .pointer (some ⟨F.s, 0, none⟩)) hld.lb
   have ll := Af hld.lb
   have n2 := Ai (i := 2) (v := .pointer (some ⟨F.t, 0, none⟩)) hld.nbb
   have nl := Af hld.nbb
   have Hld := Kd hld
   have Hok := Kd hok'
   have Hmv := Kd hmv
   have Hstep := Kd (heq.trans hstep)
   have HM' := Kd hM'
   clear hld hok' hmv heq hstep hM' hbl H0
   go_wp2
   refine AD (.read 0 (.read 1 (.read 2 (.read 3 (.read 4 (.read 5 (.read 6 (.read 7 (.read 8 (.one 9 [] (.read 10 (.read 11 (.read 12 (.read 13 (.read 14 (.done)))))))))))))))) (by kernel_rfl) (by kernel_rfl) ?_
   iterate 9 (refine An rfl (fun K hK => ?_); go_simp; (try go_bits); (try (rw [if_pos (by omega)]; go_simp)); refine hK _ ?_; clear hK K)
   refine Ak rfl ?_
   go_wp2_with (go_at_call 66; go_must (refine (hcn _ ((Ad.alloc [] _ _).trans (Ad.drew [] _))).mono ?_; rintro e3 W3 ⟨rfl, TA3, hT3, hm3⟩))
   obtain ⟨hL3, hmv3⟩ := (Hld.out.same ((Ad.alloc [] wr (Obj.cells #[.string s.words[k].text, .int .i64 s.words[k].at_.off, .int .i64 s.words[k].at_.line, .int .i64 s.words[k].at_.col] 59)).trans (Ad.drew [] _))).setTbl hT3 hm3
   have hB3 := hm3.same.get (Aj wr (Obj.cells #[.string s.words[k].text, .int .i64 s.words[k].at_.off, .int .i64 s.words[k].at_.line, .int .i64 s.words[k].at_.col] 59)) (fun hm => by have h1 := HM'.out _ (LV.mem.2 (.inr (.inr (.inr (.inr (.inr (.inr (.inl hm)))))))); omega)
   have Mv3 := Kd ((Hmv.out.trans (AN.of_same ((Ad.alloc [] wr (Obj.cells #[.string s.words[k].text, .int .i64 s.words[k].at_.off, .int .i64 s.words[k].at_.line, .int .i64 s.words[k].at_.col] 59)).trans (Ad.drew [] _)))).trans hmv3)
   obtain ⟨b0, b1, b2, b3, bf⟩ := BV hB3
   have bl3 := Af hB3
   have HL3 := Kd hL3
   clear hT3 hm3 hmv3 hL3 hB3
   refine EQ.A ?_
   iterate 5 (refine An rfl (fun K hK => ?_); go_simp; (try go_bits); (try (rw [if_pos (by omega)]; go_simp)); refine hK _ ?_; clear hK K)
   refine AB ?_
   by_cases hz : (L'.tbl.const s.words[k].text).2.1 = 0
   ·have hres : L.constGo s.words = Ld.constGo { L' with tbl := (L'.tbl.const s.words[k].text).2.2 } (s.words.drop (k + 1)) := by rw [Hstep.out]; unfold Bl; rw [if_pos hz]; rfl
    have HR := Kd hres
    have HZ := Kd hz
    clear hz hres
    go_wp2_with (go_at_call 60; go_must (refine (hnok _ _ HZ.out).mono ?_; rintro e4 W4 ⟨rfl, hs4⟩; have Hs4 := Kd hs4; clear hs4))
    go_roundw
    case rel => exact ⟨k + 1, _, _, hlt, by go_num, HL3.out.same Hs4.out, Hok.out.setTbl (Hok.out.tbl.const _) (Fq _ _), Mv3.out.trans (AN.of_same Hs4.out), HR.out⟩
    case measure => simp [intOf]; omega
   ·have hres : L.constGo s.words = .error (s.words[k], (L'.tbl.const s.words[k].text).2.1) := by rw [Hstep.out]; unfold Bl; rw [if_neg hz]; rfl
    have HR := Kd hres
    have HZ := Kd hz
    clear hz hres
    go_wp2_with (go_at_call 60; go_must (refine (hnbad _ _ HZ.out).mono ?_; rintro e4 W4 ⟨b, rfl, hf, hs4⟩))
    refine ⟨rfl, ?_⟩
    show LdX F V (L.act s) w _ _
    rw [Hact.out, HR.out]
    exact ⟨b, rfl, hf, Mv3.out.same.then (hs4.mono (T := V.blocks F) (by simp)) fun _ hx => .inl hx⟩
  ·have hkk : k = s.words.length := by omega
   subst hkk
   rw [List.drop_length, Ld.constGo] at heq
   have Hld := Kd hld
   have Hmv := Kd hmv
   have Heq := Kd heq
   clear hld hok' hmv heq H0
   go_wp2
   refine bodyPost_end (results_none rfl _ _ _) rfl ?_
   show LdX F V (L.act s) w _ _
   rw [Hact.out, Heq.out]
   exact ⟨rfl, V', Hld.out, Hmv.out⟩) : P := h
theorem NJ (w : World) (F : LF) (V : LV) (L : Ld) (s : St) (Aw Ap : Option Addr) (cw cp : Nat) (h : Ca w F V L s Aw Ap cw cp) (hlx : s.label.text.size = 0 ∨ (s.label.text.size ≠ 0 ∧ L.label s.label = .ok ())) (hk : s.kind = 1) (hd : ¬ 0 < L.tbl.scopes.length) :
  Calls Tryz.prog 32 #[.pointer (some ⟨F.l, 0, none⟩), stV s (.slice Aw s.words.length cw) (.slice Ap s.proof.length cp)] w (LdX F V (L.act s) w) := by
 have hlc := fun (W : World) (hW : Ad [] w W) => AX W F V L (h.ld.same hW) s.label h.sin.label.max
 have H := Kd h
 have l0 := Ai (i := 0) (v := .pointer (some ⟨F.nb, 0, none⟩)) h.ld.lb
 have l1 := Ai (i := 1) (v := .pointer (some ⟨F.s, 0, none⟩)) h.ld.lb
 have ll := Af h.ld.lb
 have n2 := Ai (i := 2) (v := .pointer (some ⟨F.t, 0, none⟩)) h.ld.nbb
 have nl := Af h.ld.nbb
 have hact : L.act s = L.constGo s.words := by unfold Ld.act; simp [hk, hd]
 have Hact := Kd hact
 have hnl : s.words.length ≤ 16384 := h.sin.wl
 clear hact
 have hdp := fun (W : World) (hW : Ad [] w W) => Ek W F.t V.TA L.tbl (h.ld.tbl.same hW (by simp))
 have kb8 : ((s.kind : Int) == 8) = false := by rw [hk]; rfl
 have kb9 : ((s.kind : Int) == 9) = false := by rw [hk]; rfl
 have kb1 : ((s.kind : Int) == 1) = true := by rw [hk]; rfl
 have kb2 : ((s.kind : Int) == 2) = false := by rw [hk]; rfl
 have kb5 : ((s.kind : Int) == 5) = false := by rw [hk]; rfl
 have kb3 : ((s.kind : Int) == 3) = false := by rw [hk]; rfl
 have kb4 : ((s.kind : Int) == 4) = false := by rw [hk]; rfl
 have kb6 : ((s.kind : Int) == 6) = false := by rw [hk]; rfl
 have kb7 : ((s.kind : Int) == 7) = false := by rw [hk]; rfl
 clear hk
 unfold stV
 unfold tkV at hlc
 clear h
 rcases hlx with hle | ⟨hle, hlo⟩
 ·have hle' : s.label.text.toList.isEmpty = true := by rw [AM]; simp [hle]
  have HW := DS w s Aw Ap cw cp
  have HSb := Kd (Aj w (stO s (.slice Aw s.words.length cw) (.slice Ap s.proof.length cp)))
  clear hle hlc
  go_enter Tryz.func32, Tryz.ntmps32
  go_wp2_with ((go_at_call 33; go_must (refine (hdp _ HW.out).mono ?_; rintro e2 W2 ⟨rfl, hw2⟩; obtain rfl := hw2)))
  exact zq3
 ·have hle' : s.label.text.toList.isEmpty = false := by rw [AM]; simp [hle]
  rw [hlo] at hlc
  unfold Cz at hlc
  dsimp only at hlc
  clear hle hlo
  go_enter Tryz.func32, Tryz.ntmps32
  go_wp2_with (first | (go_at_call 59; go_must (refine (hlc _ (Ad.alloc [] _ _)).mono ?_; rintro e1 W1 ⟨rfl, hs1⟩; have hS1 := hs1.get (Aj w (stO s (.slice Aw s.words.length cw) (.slice Ap s.proof.length cp))) (by simp); obtain ⟨s0, s1, s2, s3, s4, s5, s6, s7, s8, s9, s10, s11, s12, s13, s14, s15, sf⟩ := AF hS1; have sl := Af hS1; have hW1 := (Ad.alloc [] w (stO s (.slice Aw s.words.length cw) (.slice Ap s.proof.length cp))).trans hs1; have l01 := hW1.cell l0 (by simp); have l11 := hW1.cell l1 (by simp); have n21 := hW1.cell n2 (by simp); have ll1 := Nat.lt_of_lt_of_le ll hW1.size; have nl1 := Nat.lt_of_lt_of_le nl hW1.size; have HSb := Kd hS1; have HW := Kd hW1; clear hs1 hS1 hW1)) | (go_at_call 33; go_must (refine (hdp _ HW.out).mono ?_; rintro e2 W2 ⟨rfl, hw2⟩; obtain rfl := hw2)))
  exact zq3
theorem zq4 {P : Prop} (h : P := by
 have h0 : FI Ld.varGo w F V L s.words (.int .i64 0) _ := ⟨0, V, L, Nat.zero_le _, rfl, H.out.ld.same HW.out, H.out.ok, AN.of_same HW.out, rfl⟩
 have H0 := Kd h0
 clear h0
 go_loopw [110] (fun u wr => FI Ld.varGo w F V L s.words u wr) (fun u _ => s.words.length - (intOf u).toNat)
 case atStart => exact H0.out
 case round =>
  obtain ⟨k, V', L', hk, rfl, hld, hok', hmv, heq⟩ := hrel
  by_cases hlt : k < s.words.length
  ·have hstep := Md L' s.words k hlt
   obtain ⟨g, c, hv, t0, t1, t2, t3, hgl⟩ := DA (H.out.words.move hmv).row hlt
   cases hv
   have hbl := H.out.blanks hmv
   have hcn := fun (W : World) (hW : Ad [] wr W) => Il W F.t V'.TA L'.tbl (hld.tbl.same hW (by simp)) hok'.tbl s.words[k].text (hbl.same hW) (H.out.sin.words s.words[k] (List.getElem_mem _)).max
   have hnok := fun W n hn => C6 W s.words[k] n hn
   have hnbad := fun W n hn => CI W s.words[k] n hn
   unfold tkV at hnok hnbad
   have hM' := hld.lt
   clear l0 l1 ll n2 nl
   try clear l01 l11 n21 ll1 nl1
   have l0 := Ai (i := 0) (v := .pointer (some ⟨F.nb, 0, none⟩)) hld.lb
   have l1 := Ai (i := 1) (v := .pointer (some ⟨F.s, 0, none⟩)) hld.lb
   have ll := Af hld.lb
   have n2 := Ai (i := 2) (v := .pointer (some ⟨F.t, 0, none⟩)) hld.nbb
   have nl := Af hld.nbb
   have Hld := Kd hld
   have Hok := Kd hok'
   have Hmv := Kd hmv
   have Hstep := Kd (heq.trans hstep)
   have HM' := Kd hM'
   clear hld hok' hmv heq hstep hM' hbl H0
   go_wp2
   refine AD (.read 0 (.read 1 (.read 2 (.read 3 (.read 4 (.read 5 (.read 6 (.read 7 (.read 8 (.one 9 [] (.read 10 (.read 11 (.read 12 (.read 13 (.read 14 (.done)))))))))))))))) (by kernel_rfl) (by kernel_rfl) ?_
   iterate 9 (refine An rfl (fun K hK => ?_); go_simp; (try go_bits); (try (rw [if_pos (by omega)]; go_simp)); refine hK _ ?_; clear hK K)
   refine Ak rfl ?_
   go_wp2_with (go_at_call 67; go_must (refine (hcn _ ((Ad.alloc [] _ _).trans (Ad.drew [] _))).mono ?_; rintro e3 W3 ⟨rfl, TA3, hT3, hm3⟩))
   obtain ⟨hL3, hmv3⟩ := (Hld.out.same ((Ad.alloc [] wr (Obj.cells #[.string s.words[k].text, .int .i64 s.words[k].at_.off, .int .i64 s.words[k].at_.line, .int .i64 s.words[k].at_.col] 59)).trans (Ad.drew [] _))).setTbl hT3 hm3
   have hB3 := hm3.same.get (Aj wr (Obj.cells #[.string s.words[k].text, .int .i64 s.words[k].at_.off, .int .i64 s.words[k].at_.line, .int .i64 s.words[k].at_.col] 59)) (fun hm => by have h1 := HM'.out _ (LV.mem.2 (.inr (.inr (.inr (.inr (.inr (.inr (.inl hm)))))))); omega)
   have Mv3 := Kd ((Hmv.out.trans (AN.of_same ((Ad.alloc [] wr (Obj.cells #[.string s.words[k].text, .int .i64 s.words[k].at_.off, .int .i64 s.words[k].at_.line, .int .i64 s.words[k].at_.col] 59)).trans (Ad.drew [] _)))).trans hmv3)
   obtain ⟨b0, b1, b2, b3, bf⟩ := BV hB3
   have bl3 := Af hB3
   have HL3 := Kd hL3
   clear hT3 hm3 hmv3 hL3 hB3
   refine EQ.A ?_
   iterate 5 (refine An rfl (fun K hK => ?_); go_simp; (try go_bits); (try (rw [if_pos (by omega)]; go_simp)); refine hK _ ?_; clear hK K)
   refine AB ?_
   by_cases hz : (L'.tbl.var s.words[k].text).2.1 = 0
   ·have hres : L.varGo s.words = Ld.varGo { L' with tbl := (L'.tbl.var s.words[k].text).2.2 } (s.words.drop (k + 1)) := by rw [Hstep.out]; unfold Bl; rw [if_pos hz]; rfl
    have HR := Kd hres
    have HZ := Kd hz
    clear hz hres
    go_wp2_with (go_at_call 60; go_must (refine (hnok _ _ HZ.out).mono ?_; rintro e4 W4 ⟨rfl, hs4⟩; have Hs4 := Kd hs4; clear hs4))
    go_roundw
    case rel => exact ⟨k + 1, _, _, hlt, by go_num, HL3.out.same Hs4.out, Hok.out.setTbl (Hok.out.tbl.var _) (GI _ _), Mv3.out.trans (AN.of_same Hs4.out), HR.out⟩
    case measure => simp [intOf]; omega
   ·have hres : L.varGo s.words = .error (s.words[k], (L'.tbl.var s.words[k].text).2.1) := by rw [Hstep.out]; unfold Bl; rw [if_neg hz]; rfl
    have HR := Kd hres
    have HZ := Kd hz
    clear hz hres
    go_wp2_with (go_at_call 60; go_must (refine (hnbad _ _ HZ.out).mono ?_; rintro e4 W4 ⟨b, rfl, hf, hs4⟩))
    refine ⟨rfl, ?_⟩
    show LdX F V (L.act s) w _ _
    rw [Hact.out, HR.out]
    exact ⟨b, rfl, hf, Mv3.out.same.then (hs4.mono (T := V.blocks F) (by simp)) fun _ hx => .inl hx⟩
  ·have hkk : k = s.words.length := by omega
   subst hkk
   rw [List.drop_length, Ld.varGo] at heq
   have Hld := Kd hld
   have Hmv := Kd hmv
   have Heq := Kd heq
   clear hld hok' hmv heq H0
   go_wp2
   refine bodyPost_end (results_none rfl _ _ _) rfl ?_
   show LdX F V (L.act s) w _ _
   rw [Hact.out, Heq.out]
   exact ⟨rfl, V', Hld.out, Hmv.out⟩) : P := h
theorem Qn (w : World) (F : LF) (V : LV) (L : Ld) (s : St) (Aw Ap : Option Addr) (cw cp : Nat) (h : Ca w F V L s Aw Ap cw cp) (hlx : s.label.text.size = 0 ∨ (s.label.text.size ≠ 0 ∧ L.label s.label = .ok ())) (hk : s.kind = 2) :
  Calls Tryz.prog 32 #[.pointer (some ⟨F.l, 0, none⟩), stV s (.slice Aw s.words.length cw) (.slice Ap s.proof.length cp)] w (LdX F V (L.act s) w) := by
 have hlc := fun (W : World) (hW : Ad [] w W) => AX W F V L (h.ld.same hW) s.label h.sin.label.max
 have H := Kd h
 have l0 := Ai (i := 0) (v := .pointer (some ⟨F.nb, 0, none⟩)) h.ld.lb
 have l1 := Ai (i := 1) (v := .pointer (some ⟨F.s, 0, none⟩)) h.ld.lb
 have ll := Af h.ld.lb
 have n2 := Ai (i := 2) (v := .pointer (some ⟨F.t, 0, none⟩)) h.ld.nbb
 have nl := Af h.ld.nbb
 have hact : L.act s = L.varGo s.words := by unfold Ld.act; simp [hk]
 have Hact := Kd hact
 have hnl : s.words.length ≤ 16384 := h.sin.wl
 clear hact
 have kb8 : ((s.kind : Int) == 8) = false := by rw [hk]; rfl
 have kb9 : ((s.kind : Int) == 9) = false := by rw [hk]; rfl
 have kb1 : ((s.kind : Int) == 1) = false := by rw [hk]; rfl
 have kb2 : ((s.kind : Int) == 2) = true := by rw [hk]; rfl
 have kb5 : ((s.kind : Int) == 5) = false := by rw [hk]; rfl
 have kb3 : ((s.kind : Int) == 3) = false := by rw [hk]; rfl
 have kb4 : ((s.kind : Int) == 4) = false := by rw [hk]; rfl
 have kb6 : ((s.kind : Int) == 6) = false := by rw [hk]; rfl
 have kb7 : ((s.kind : Int) == 7) = false := by rw [hk]; rfl
 clear hk
 unfold stV
 unfold tkV at hlc
 clear h
 rcases hlx with hle | ⟨hle, hlo⟩
 ·have hle' : s.label.text.toList.isEmpty = true := by rw [AM]; simp [hle]
  have HW := DS w s Aw Ap cw cp
  have HSb := Kd (Aj w (stO s (.slice Aw s.words.length cw) (.slice Ap s.proof.length cp)))
  clear hle hlc
  go_enter Tryz.func32, Tryz.ntmps32
  go_wp2
  exact zq4
 ·have hle' : s.label.text.toList.isEmpty = false := by rw [AM]; simp [hle]
  rw [hlo] at hlc
  unfold Cz at hlc
  dsimp only at hlc
  clear hle hlo
  go_enter Tryz.func32, Tryz.ntmps32
  go_wp2_with ((go_at_call 59; go_must (refine (hlc _ (Ad.alloc [] _ _)).mono ?_; rintro e1 W1 ⟨rfl, hs1⟩; have hS1 := hs1.get (Aj w (stO s (.slice Aw s.words.length cw) (.slice Ap s.proof.length cp))) (by simp); obtain ⟨s0, s1, s2, s3, s4, s5, s6, s7, s8, s9, s10, s11, s12, s13, s14, s15, sf⟩ := AF hS1; have sl := Af hS1; have hW1 := (Ad.alloc [] w (stO s (.slice Aw s.words.length cw) (.slice Ap s.proof.length cp))).trans hs1; have l01 := hW1.cell l0 (by simp); have l11 := hW1.cell l1 (by simp); have n21 := hW1.cell n2 (by simp); have ll1 := Nat.lt_of_lt_of_le ll hW1.size; have nl1 := Nat.lt_of_lt_of_le nl hW1.size; have HSb := Kd hS1; have HW := Kd hW1; clear hs1 hS1 hW1)))
  exact zq4
end Go.Proofs.YtbfbgfpghkijdaaGreatDoor
