/- lemmalaw texts, part 45. -/
import Derived.Test.YtbfbgfpghkijdaaGreatDoorYbc
import Derived.Test.YtbfbgfpghkijdaaGreatDoorYbo
import Derived.Test.YtbfbgfpghkijdaaGreatDoorYbq
import Derived.Test.YtbfbgfpghkijdaaGreatDoorYbr
set_option maxRecDepth 100000
set_option linter.unusedVariables false
set_option linter.unusedSimpArgs false
set_option maxHeartbeats 32000000
namespace Go.Proofs.YtbfbgfpghkijdaaGreatDoor
open Go.RowKit
theorem Dd {P : Program} {fn : Func} {p r : Tmp} {t1 : TypeId} (h : fn.results = #[.cell p t1, .tmp r]) (tmps : Array Value) (w : World) (Y : Nat) (ys : Array Value) (d1 : TypeDesc)
  (hp : tmps.getD p undef = .pointer (some ⟨Y, 0, none⟩)) (vr : Value) (hr : tmps.getD r undef = vr)
  (hy : w.heap[Y]? = some (.cells ys t1 (0, 0)))
  (hu1 : P.underlying t1 = some d1) (hd1 : (match d1 with | .struct _ | .array _ _ => true | _ => false) = true) (hi1 : (P.info? t1).map (·.size) = some ys.size) :
  (results fn tmps).run P w = .ok (.tuple #[.agg ys, vr]) w := by
 have hp' : tmps[p]?.getD undef = .pointer (some ⟨Y, 0, none⟩) := by simpa using hp
 have hr' : tmps[r]?.getD undef = vr := by simpa using hr
 simp [results, h, hp', hr', asAddr, run_loadVar_row w Y t1 t1 ys _ d1 hy hu1 hd1 hi1]
theorem Row.offC {w w9 : World} {Y : Nat} {c1 : Array Value} {f1 : Nat × Nat} (hs : Ad [Y] w w9) (hY : w.heap[Y]? = some (.cells c1 35 f1)) {e k n : Nat} {v : Value} {xs : List Value} (h : Row w e k v n xs) (h1 : e ≠ 35) : Row w9 e k v n xs :=
 h.same hs fun b hb hm => by
  rw [List.mem_singleton] at hm
  subst hm
  exact h.ne hY h1 hb
theorem Bi.offC {w w9 : World} {Y : Nat} {c1 : Array Value} {f1 : Nat × Nat} (hs : Ad [Y] w w9) (hY : w.heap[Y]? = some (.cells c1 35 f1)) {v : Value} {evs : List Value} {l : List Hy} (h : Bi w [] v evs l) : Bi w9 [] v evs l :=
 ⟨h.row.offC hs hY (by decide), h.exprs.imp fun _ _ hi => ⟨hi.row.offC hs hY (by decide), by simp⟩, h.flo⟩
theorem ET.offC {w0 w w1 w2 w9 : World} {Y : Nat} {c1 : Array Value} {f1 : Nat × Nat} {a : Asr} {p : AsP} (h : ET w0 a p w1) (h12 : Ad [] w1 w2) (hs : Ad [Y] w2 w9) (hY : w2.heap[Y]? = some (.cells c1 35 f1)) (hw : w.heap.size ≤ w0.heap.size) : ET w a p w9 := by
 have up : ∀ {v : Value}, AH w0 v → AH w v := fun hf b hb => Nat.le_trans hw (hf b hb)
 exact ⟨⟨(h.inn.fh.same h12).offC hs hY, by simp, ⟨(h.inn.fp.row.same h12 (by simp)).offC hs hY (by decide), by simp⟩, ⟨(h.inn.fg.row.same h12 (by simp)).offC hs hY (by decide), by simp⟩,
  (h.inn.sh.same h12).offC hs hY, by simp, ⟨(h.inn.sp.row.same h12 (by simp)).offC hs hY (by decide), by simp⟩, ⟨(h.inn.pr.row.same h12 (by simp)).offC hs hY (by decide), by simp⟩⟩,
  up h.fh, fun ev hev => up (h.fes ev hev), up h.fp, up h.fg, up h.sh, fun ev hev => up (h.ses ev hev), up h.sp, up h.pr⟩
def JR (a : Asr) (k : Nat) (w : World) (e : Ending) (w' : World) : Prop := ∃ p, e = .returned (.tuple #[cxV p.sh p.sp p.fh k p.fg, .int .i64 0]) ∧ ET w a p w' ∧ Ad [] w w'
theorem EM (w : World) (nb : Nat) (P : BP) (B : Bs) (h : FG w nb P B) (hN : B.Nice) (k : Nat) (hk : k < B.ld.asserts.length) :
  Calls Tryz.prog 18 #[.pointer (some ⟨nb, 0, none⟩), .int .i64 k] w (JR B.ld.asserts[k] k w) := by
 have hat := fun (W : World) (hW : Ad [] w W) => Ja W nb P B (h.same hW) k hk (hN.small _ (List.getElem_mem hk)) hN.n
 obtain ⟨a, ha⟩ : ∃ a, B.ld.asserts[k] = a := ⟨_, rfl⟩
 rw [ha] at hat ⊢
 have hc0 := Aj w (.cells #[.slice none 0 0, .slice none 0 0, .slice none 0 0, .int .i64 0, .slice none 0 0] 35)
 have lc0 := Af hc0
 have Hc0 := Kd hc0
 have Hat := Kd hat
 clear h hN ha hat hc0
 go_enter Tryz.func18, Tryz.ntmps18
 go_upto_region 4 with (first
  | (go_at_call 22; go_must (refine (Hat.out _ (Ad.alloc [] _ _)).mono ?_; rintro e1 W1 ⟨⟨fh, fp, fg, sh, sp, pr, fes, ses⟩, rfl, hnw, hs1⟩; obtain ⟨A1, c1, A2, c2, A3, c3, A4, c4, A5, c5, A6, c6, q1, q2, q3, q4, q5, q6⟩ := hnw.inn.six; dsimp only at q1 q2 q3 q4 q5 q6; subst q1 q2 q3 q4 q5 q6; have Hs1 := Kd hs1; have Hnw := Kd hnw; unfold asV; clear hs1 hnw))
  | (refine AU rfl 71 _ _ rfl W1.heap.size #[.int .i64 a.number, .string a.label, .bool a.isThm, .slice A1 a.hyps.length c1, .slice A2 a.pairs.length c2, .slice A3 a.goal.length c3, .slice A4 a.shyps.length c4, .slice A5 a.spairs.length c5, .slice A6 a.proof.length c6, .string a.at_.text, .int .i64 a.at_.at_.off, .int .i64 a.at_.at_.line, .int .i64 a.at_.at_.col, .string a.end_.text, .int .i64 a.end_.at_.off, .int .i64 a.end_.at_.line, .int .i64 a.end_.at_.col] (by go_simp) (by go_simp) 71 #[.int .i64 0, .string ⟨#[]⟩, .bool false, .slice none 0 0, .slice none 0 0, .slice none 0 0, .slice none 0 0, .slice none 0 0, .slice none 0 0, .string ⟨#[]⟩, .int .i64 0, .int .i64 0, .int .i64 0, .string ⟨#[]⟩, .int .i64 0, .int .i64 0, .int .i64 0] (Aj W1 (.cells #[.int .i64 0, .string ⟨#[]⟩, .bool false, .slice none 0 0, .slice none 0 0, .slice none 0 0, .slice none 0 0, .slice none 0 0, .slice none 0 0, .string ⟨#[]⟩, .int .i64 0, .int .i64 0, .int .i64 0, .string ⟨#[]⟩, .int .i64 0, .int .i64 0, .int .i64 0] 71)) EO rfl (by simp [Value.oneCell']) ?_; intro W2 hB2 hs2; have Hs12 : Hid (Ad [] W1 W2) := Kd ((Ad.alloc [] W1 _).then hs2 fun x hx => .inr (by simp at hx; omega)); have HB2 := Kd hB2; clear hB2 hs2))
 have hc2 := (Hs1.out.trans Hs12.out).get Hc0.out (by simp)
 have HC2 := Kd hc2
 have lc2 := Af hc2
 obtain ⟨b0, b1, b2, b3, b4, b5, b6, b7, b8, b9, b10, b11, b12, b13, b14, b15, b16, bf⟩ := Gw HB2.out
 have bl := Af HB2.out
 clear hc2
 go_wp2_with (refine AU rfl 35 _ _ rfl w.heap.size #[.slice A4 a.shyps.length c4, .slice A5 a.spairs.length c5, .slice A1 a.hyps.length c1, .int .i64 k, .slice A3 a.goal.length c3] (by go_simp) (by go_simp) 35 #[.slice none 0 0, .slice none 0 0, .slice none 0 0, .int .i64 0, .slice none 0 0] HC2.out (by kernel_rfl) rfl (by simp [Value.oneCell']) ?_; intro W3 hR3 hs3; have HR3 := Kd hR3; have Hs3 := Kd hs3; clear hR3 hs3)
 refine bodyPost_ret_by (v := .tuple #[.agg #[.slice A4 a.shyps.length c4, .slice A5 a.spairs.length c5, .slice A1 a.hyps.length c1, .int .i64 k, .slice A3 a.goal.length c3], .int .i64 0]) (Dd (p := 4) (r := 5) rfl _ W3 w.heap.size _ _ rfl _ rfl HR3.out Tryz.underlying35 rfl (by kernel_rfl)) rfl ?_
 exact ⟨_, rfl, Hnw.out.offC Hs12.out Hs3.out HC2.out (by simp [AA]), (((Ad.alloc [] w _).trans Hs1.out).trans Hs12.out).then Hs3.out fun x hx => .inr (by simp at hx; omega)⟩
def vdC (code : Int) (t : Tk) (ct pk : Int) : Array Value := #[.string ⟨#[]⟩, .int .i64 code, .string t.text, .int .i64 t.at_.off, .int .i64 t.at_.line, .int .i64 t.at_.col, .int .i64 ct, .int .i64 pk]
theorem NC (w : World) (m b : Nat) (c0 c1 c2 c3 : Value) (pk ct : Int) (hb : w.heap[b]? = some (.cells #[.pointer (some ⟨m, 0, none⟩)] 178 (0, 0))) (hm : w.heap[m]? = some (.cells #[c0, c1, c2, c3, .int .i64 pk, .int .i64 ct] 191 (0, 0))) (code : Int) (t : Tk) :
  Calls Tryz.prog 97 #[.int .i64 code, tkV t, .pointer (some ⟨b, 0, none⟩)] w fun e w' => e = .returned (.agg (vdC code t ct pk)) ∧ Ad [] w w' := by
 unfold tkV
 have Hb := Kd hb
 have Hm := Kd hm
 clear hb hm
 go_enter Tryz.func97, Tryz.ntmps97
 go_upto_region 1 with fail
 have hw := ((Ad.alloc [] w (.cells #[.string t.text, .int .i64 t.at_.off, .int .i64 t.at_.line, .int .i64 t.at_.col] 59)).trans (Ad.alloc [] _ (.cells #[.string ⟨#[]⟩, .int .i64 0, .string ⟨#[]⟩, .int .i64 0, .int .i64 0, .int .i64 0, .int .i64 0, .int .i64 0] 61))).trans (Ad.drew [] _)
 have hT : (((w.alloc (.cells #[.string t.text, .int .i64 t.at_.off, .int .i64 t.at_.line, .int .i64 t.at_.col] 59)).alloc (.cells #[.string ⟨#[]⟩, .int .i64 0, .string ⟨#[]⟩, .int .i64 0, .int .i64 0, .int .i64 0, .int .i64 0, .int .i64 0] 61)).drew).heap[w.heap.size]? = some (.cells #[.string t.text, .int .i64 t.at_.off, .int .i64 t.at_.line, .int .i64 t.at_.col] 59 (0, 0)) := (Ad.drew [] _).get (AR (Aj _ _) _) (by simp)
 have hV : (((w.alloc (.cells #[.string t.text, .int .i64 t.at_.off, .int .i64 t.at_.line, .int .i64 t.at_.col] 59)).alloc (.cells #[.string ⟨#[]⟩, .int .i64 0, .string ⟨#[]⟩, .int .i64 0, .int .i64 0, .int .i64 0, .int .i64 0, .int .i64 0] 61)).drew).heap[w.heap.size + 1]? = some (.cells #[.string ⟨#[]⟩, .int .i64 0, .string ⟨#[]⟩, .int .i64 0, .int .i64 0, .int .i64 0, .int .i64 0, .int .i64 0] 61 (0, 0)) := (Ad.drew [] _).get (by rw [← AA w (.cells #[.string t.text, .int .i64 t.at_.off, .int .i64 t.at_.line, .int .i64 t.at_.col] 59)]; exact Aj _ _) (by simp)
 refine AD (.read 0 (.read 1 (.read 2 (.read 3 (.read 4 (.read 5 (.read 6 (.read 7 (.read 8 (.read 9 (.read 10 (.one 11 [] (.done))))))))))))) (by kernel_rfl) (by kernel_rfl) ?_
 generalize ((w.alloc (.cells #[.string t.text, .int .i64 t.at_.off, .int .i64 t.at_.line, .int .i64 t.at_.col] 59)).alloc (.cells #[.string ⟨#[]⟩, .int .i64 0, .string ⟨#[]⟩, .int .i64 0, .int .i64 0, .int .i64 0, .int .i64 0, .int .i64 0] 61)).drew = W at hw hT hV ⊢
 have s0 := Ai (i := 0) (v := .pointer (some ⟨m, 0, none⟩)) (hw.get Hb.out (by simp))
 have sl := Af (hw.get Hb.out (by simp))
 have m4 := Ai (i := 4) (v := .int .i64 pk) (hw.get Hm.out (by simp))
 have m5 := Ai (i := 5) (v := .int .i64 ct) (hw.get Hm.out (by simp))
 have ml := Af (hw.get Hm.out (by simp))
 obtain ⟨t0, t1, t2, t3, tf⟩ := BV hT
 have tl := Af hT
 have HV := Kd hV
 have Hw := Kd hw
 clear hV hT hw
 iterate 11 (refine An rfl (fun K hK => ?_); go_simp; (try go_bits); (try (rw [if_pos (by omega)]; go_simp)); refine hK _ ?_; clear hK K)
 refine Ak rfl ?_
 refine AU rfl 61 _ _ rfl (w.heap.size + 1) #[.string ⟨#[]⟩, .int .i64 code, .string t.text, .int .i64 t.at_.off, .int .i64 t.at_.line, .int .i64 t.at_.col, .int .i64 ct, .int .i64 pk] (by go_simp) (by go_simp) 61 #[.string ⟨#[]⟩, .int .i64 0, .string ⟨#[]⟩, .int .i64 0, .int .i64 0, .int .i64 0, .int .i64 0, .int .i64 0] ?_ (by kernel_rfl) rfl (by simp [Value.oneCell']) ?_
 ·with_reducible exact HV.out
 intro W3 hR3 hs3
 have HR3 := Kd hR3
 have Hs3 := Kd hs3
 clear hR3 hs3
 go_wp2
 refine EQ.mk rfl ?_ ?_
 ·repeat (first | exact BJ | (refine Br rfl ?_))
 refine AB ?_
 go_wp2
 refine bodyPost_ret_by (v := .agg #[.string ⟨#[]⟩, .int .i64 code, .string t.text, .int .i64 t.at_.off, .int .i64 t.at_.line, .int .i64 t.at_.col, .int .i64 ct, .int .i64 pk]) (results_cell_row rfl _ W3 (w.heap.size + 1) 61 _ _ _ rfl HR3.out Tryz.underlying61 rfl (by kernel_rfl)) rfl ?_
 exact ⟨rfl, Hw.out.then Hs3.out fun x hx => .inr (by simp at hx; omega)⟩
end Go.Proofs.YtbfbgfpghkijdaaGreatDoor
namespace Go.Proofs.YtbfbgfpghkijdaaGreatDoor
def Rq (h : Hy) : Prop := h.expr ≠ [] ∧ (h.floating = true → ∃ t, h.expr = [t, h.var])
structure R7 (a : Asr) : Prop where
 goal : a.goal ≠ []
 label : CA a.label = true
 hyps : ∀ h ∈ a.hyps, Rq h
 shyps : ∀ h ∈ a.shyps, Rq h
 vars : (∀ h ∈ a.hyps, h.floating = true) → ∀ h ∈ a.hyps, h.var ∈ a.goal.tail
structure Ld.Fr (L : Ld) : Prop where
 scs : ∀ sc ∈ L.scs, ∀ h ∈ sc.hyps, Rq h
 asr : ∀ a ∈ L.asserts, R7 a
theorem Ld.Fr.new : Ld.new.Fr := ⟨by simp [Ld.new], by simp [Ld.new]⟩
theorem GM {P : Sc → Prop} {f : Sc → Sc} (hf : ∀ sc, P sc → P (f sc)) : ∀ {l : List Sc}, (∀ sc ∈ l, P sc) → ∀ sc ∈ Dm f l, P sc
 | [], _, sc, h => by simp [Dm] at h
 | [s], hl, sc, h => by
  simp [Dm] at h; subst h; exact hf s (hl s (by simp))
 | s :: x :: r, hl, sc, h => by
  have h' : sc ∈ s :: Dm f (x :: r) := h
  rcases List.mem_cons.1 h' with rfl | h'
  ·exact hl _ (by simp)
  ·exact GM hf (fun y hy => hl y (List.mem_cons_of_mem _ hy)) sc h'
structure Ld.Lb (L : Ld) : Prop where
 scs : ∀ sc ∈ L.scs, ∀ h ∈ sc.hyps, (AJ h.label L.hyps).isSome = true
 two : ∀ s, (AJ s L.finds).isSome = true → (AJ s L.hyps).isSome = false
 asr : ∀ a ∈ L.asserts, (∀ h ∈ a.shyps, (AJ h.label L.hyps).isSome = true) ∧ ∀ h ∈ a.hyps, (AJ h.label L.hyps).isSome = true
 nm : ∀ s, (AJ s L.finds).isSome = true → CA s = true
theorem Ld.Lb.new : Ld.new.Lb := ⟨by simp [Ld.new], by simp [Ld.new, AJ], by simp [Ld.new], by simp [Ld.new, AJ]⟩
theorem OW {P : Hy → Prop} {x : Hy} (hx : P x) {l : List Sc} (hl : ∀ sc ∈ l, ∀ h ∈ sc.hyps, P h) : ∀ sc ∈ FE l x, ∀ h ∈ sc.hyps, P h :=
 GM (P := fun sc => ∀ h ∈ sc.hyps, P h) (fun sc hs h hh => by
  rcases List.mem_append.1 hh with hh | hh
  ·exact hs h hh
  ·simp at hh; subst hh; exact hx) hl
theorem Gz {T : Tbl} {s : ByteArray} (h : (T.label s).1 = 0) : CA s = true := by
 unfold Tbl.label at h
 cases hn : CA s
 ·rw [if_pos hn] at h; cases h
 ·rfl
theorem GF : ∀ (ws : List Tk) {L L' : Ld}, L.constGo ws = .ok L' → L'.scs = L.scs ∧ L'.asserts = L.asserts ∧ L'.finds = L.finds ∧ L'.hyps = L.hyps
 | [], L, L', hx => by rw [Ld.constGo] at hx; cases hx; exact ⟨rfl, rfl, rfl, rfl⟩
 | w :: ws, L, L', hx => by
  rw [Ld.constGo] at hx
  obtain ⟨_, -, hx⟩ := AO hx
  have := GF ws hx
  exact this
theorem Jm : ∀ (ws : List Tk) {L L' : Ld}, L.varGo ws = .ok L' → L'.scs = L.scs ∧ L'.asserts = L.asserts ∧ L'.finds = L.finds ∧ L'.hyps = L.hyps
 | [], L, L', hx => by rw [Ld.varGo] at hx; cases hx; exact ⟨rfl, rfl, rfl, rfl⟩
 | w :: ws, L, L', hx => by
  rw [Ld.varGo] at hx
  obtain ⟨_, -, hx⟩ := AO hx
  have := Jm ws hx
  exact this
theorem zq97 {P : Prop} (h : P := by
 exact ⟨by rw [h1, h4]; exact h.scs, by rw [h3, h4]; exact h.two, by rw [h2, h4]; exact h.asr, by rw [h3]; exact h.nm⟩) : P := h
theorem Qy {L L' : Ld} (ok : L.Ok) (h : L.Lb) {s : St} (hlab : CA s.label.text = true → L.taken s.label.text = false) (hx : L.act s = .ok L') : L'.Lb := by
 unfold Ld.act at hx
 split at hx
 ·obtain ⟨_, -, hx⟩ := AO hx
  cases hx
  refine ⟨fun sc hsc => ?_, h.two, h.asr, h.nm⟩
  dsimp only at hsc
  unfold EH at hsc
  split at hsc
  ·exact h.scs sc hsc
  ·rcases List.mem_append.1 hsc with hsc | hsc
   ·exact h.scs sc hsc
   ·simp at hsc; subst hsc; simp
 ·split at hx
  ·obtain ⟨_, -, hx⟩ := AO hx
   cases hx
   refine ⟨fun sc hsc => ?_, h.two, h.asr, h.nm⟩
   dsimp only at hsc
   unfold Dz at hsc
   split at hsc
   ·exact h.scs sc hsc
   ·exact h.scs sc (List.dropLast_subset _ hsc)
  ·split at hx
   ·split at hx
    ·cases hx
    ·obtain ⟨h1, h2, h3, h4⟩ := GF _ hx
     exact zq97
   ·split at hx
    ·obtain ⟨h1, h2, h3, h4⟩ := Jm _ hx
     exact zq97
    ·split at hx
     ·obtain ⟨v, -, hx⟩ := AO hx
      split at hx
      ·obtain ⟨_, -, hx⟩ := AO hx
       cases hx
       refine ⟨?_, h.two, h.asr, h.nm⟩
       dsimp only
       unfold Cj
       (repeat' split) <;> first | exact h.scs | exact GM (P := fun sc => ∀ h ∈ sc.hyps, (AJ h.label L.hyps).isSome = true) (f := fun x => { x with pairs := Bw x.pairs (FM v) }) (fun sc hs => hs) h.scs
      ·cases hx; exact h
     ·have key : ∀ {x : Hy} {M : Ld}, x.label = s.label.text → L.hyp s x = .ok M → ∀ {scs : List Sc}, (scs = L.scs ∨ ∃ y : Hy, y.label = x.label ∧ scs = FE L.scs y) → Ld.Lb { M with scs := scs } := by
       intro x M hxl hM scs hscs
       obtain ⟨h2, h3, h4, h5, rfl⟩ := EI ok hM
       have hnt := hlab (by rw [← hxl]; exact Gz h5)
       have hup : ∀ k, (AJ k L.hyps).isSome = true → (AJ k (Bd x.label x L.hyps)).isSome = true := fun k hk => by
        rw [Cp]; split
        ·rfl
        ·exact hk
       have hself : (AJ x.label (Bd x.label x L.hyps)).isSome = true := by rw [Cp, if_pos rfl]; rfl
       refine ⟨?_, fun k hk => ?_, fun a ha => ⟨fun y hy => hup _ ((h.asr a ha).1 y hy), fun y hy => hup _ ((h.asr a ha).2 y hy)⟩, h.nm⟩
       ·dsimp only
        rcases hscs with rfl | ⟨z, hz, rfl⟩
        ·exact fun sc hsc y hy => hup _ (h.scs sc hsc y hy)
        ·exact OW (P := fun y => (AJ y.label (Bd x.label x L.hyps)).isSome = true) (by rw [hz]; exact hself) fun sc hsc y hy => hup _ (h.scs sc hsc y hy)
       ·dsimp only at hk ⊢
        rw [Cp, if_neg]
        ·exact h.two k hk
        ·rintro rfl
         unfold Ld.taken at hnt
         rw [hxl] at hk
         rw [hk] at hnt; cases hnt
      split at hx
      ·obtain ⟨e, he, hx⟩ := AO hx
       split at hx
       ·obtain ⟨M, hM, hx⟩ := AO hx
        obtain ⟨_, h1, hx⟩ := AO hx
        cases hx
        have hms : M.scs = L.scs := (EI ok hM).2.2.1
        refine key (x := ⟨s.label.text, true, e.getD 1 0, e⟩) rfl hM ?_
        dsimp only
        unfold BW
        rw [hms]
        (repeat' split) <;> first | exact .inl rfl | exact .inr ⟨_, rfl, rfl⟩
       ·cases hx; exact h
      ·split at hx
       ·obtain ⟨e, he, hx⟩ := AO hx
        split at hx
        ·obtain ⟨M, hM, hx⟩ := AO hx
         obtain ⟨_, h1, hx⟩ := AO hx
         cases hx
         have hms : M.scs = L.scs := (EI ok hM).2.2.1
         refine key (x := ⟨s.label.text, false, -1, e⟩) rfl hM ?_
         dsimp only
         unfold Fw
         rw [hms]
         split
         ·exact .inl rfl
         ·exact .inr ⟨_, rfl, rfl⟩
        ·cases hx; exact h
       ·split at hx
        ·obtain ⟨e, he, hx⟩ := AO hx
         split at hx
         ·unfold Ld.assert at hx
          dsimp only at hx
          obtain ⟨_, hc, hx⟩ := AO hx
          obtain ⟨_, h1, hx⟩ := AO hx
          cases hx
          have hnt := hlab (Gz (E6 h1))
          have hsy : ∀ x ∈ AK L.scs, (AJ x.label L.hyps).isSome = true := fun x hx => by
           obtain ⟨sc, h1, h2⟩ := Gq hx
           exact h.scs sc h1 x h2
          refine ⟨h.scs, fun k hk => ?_, fun a ha => ?_, fun k hk => ?_⟩
          ·dsimp only at hk ⊢
           rw [Cp] at hk
           split at hk
           ·rename_i e; subst e
            unfold Ld.taken at hnt
            rw [Bool.or_eq_false_iff] at hnt
            exact hnt.2
           ·exact h.two k hk
          ·rcases List.mem_append.1 ha with ha | ha
           ·exact h.asr a ha
           ·simp at ha
            subst ha
            exact ⟨hsy, fun x hx => hsy x (List.mem_filter.1 hx).1⟩
          ·dsimp only at hk
           rw [Cp] at hk
           split at hk
           ·rename_i e; subst e; exact Gz (E6 h1)
           ·exact h.nm k hk
         ·cases hx; exact h
        ·cases hx; exact h
theorem JE : ∀ (ss : List St) {L L' : Ld}, L.Nice → L.Lb → (∀ s ∈ ss, s.Good ∧ s.proof.length ≤ 16384 ∧ ∀ t ∈ s.proof, TkN t) → L.takeAll ss = .ok L' → L'.Lb
 | [], L, L', _, h, _, hx => by rw [Ld.takeAll] at hx; cases hx; exact h
 | s :: ss, L, L', hn, h, hs, hx => by
  rw [Ld.takeAll] at hx
  obtain ⟨M, hM, hx⟩ := AO hx
  obtain ⟨h1, h2, h3⟩ := hs s List.mem_cons_self
  refine JE ss (Iz hn h1 h2 h3 hM) ?_ (fun s hs' => hs s (List.mem_cons_of_mem _ hs')) hx
  unfold Ld.take at hM
  split at hM
  ·obtain ⟨_, hl, hM⟩ := AO hM
   refine Qy hn.ok h (fun _ => ?_) hM
   unfold Ld.label at hl
   cases hc : L.taken s.label.text
   ·rfl
   ·rw [hc] at hl
    split at hl
    ·cases hl
    ·rw [if_pos rfl] at hl; cases hl
  ·rename_i hz
   refine Qy hn.ok h (fun hk => ?_) hM
   unfold CA at hk
   rw [Bool.and_eq_true, decide_eq_true_eq] at hk
   exact absurd hk.2.1 hz
theorem QK {t : ByteArray} {B : Bs} (h : CB t = .ok B) : B.ld.Lb := by
 unfold CB at h
 split at h
 ·cases h
 ·rename_i L hL
  have hN : L.Lb := JE _ Ld.Nice.new Ld.Lb.new (fun s hs => by
   obtain ⟨h1, h2⟩ := (EV t).1 s hs
   have h3 := NM (Q := TkN) TkN.none t (fun x hx => ⟨Fx t x hx, JU t x hx⟩) s hs
   exact ⟨h2, h1.pl, h3.proof⟩) hL
  have hB : B.ld = L := by
   exact zq98
  rw [hB]
  exact hN
structure Ld.Hs (L : Ld) : Prop where
 hyps : ∀ p ∈ L.hyps, p.2.expr.length ≤ 1000000
 finds : ∀ k n, AJ k L.finds = some n → n < L.asserts.length
theorem Ld.Hs.new : Ld.new.Hs := ⟨by simp [Ld.new], by simp [Ld.new, AJ]⟩
theorem KX {α β : Type} [DecidableEq α] (k : α) (v : β) : ∀ (l : List (α × β)), ∀ p ∈ Bd k v l, p = (k, v) ∨ p ∈ l
 | [], p, h => by simp [Bd] at h; exact .inl h
 | (k', u) :: l, p, h => by
  unfold Bd at h
  by_cases e : k = k'
  ·rw [if_pos e] at h
   rcases List.mem_cons.1 h with h | h
   ·exact .inl (by rw [h, e])
   ·exact .inr (List.mem_cons_of_mem _ h)
  ·rw [if_neg e] at h
   rcases List.mem_cons.1 h with h | h
   ·exact .inr (by rw [h]; exact List.mem_cons_self ..)
   ·rcases KX k v l p h with h | h
    ·exact .inl h
    ·exact .inr (List.mem_cons_of_mem _ h)
theorem zq92 {P : Prop} (h : P := by
 obtain ⟨_, -, hx⟩ := AO hx
 cases hx
 exact ⟨h.hyps, h.finds⟩) : P := h
theorem Pw {L L' : Ld} (ok : L.Ok) (h : L.Hs) {s : St} (hw : s.words.length ≤ 1000000) (hx : L.act s = .ok L') : L'.Hs := by
 unfold Ld.act at hx
 split at hx
 ·exact zq92
 ·split at hx
  ·exact zq92
  ·split at hx
   ·split at hx
    ·cases hx
    ·obtain ⟨h1, h2, h3, h4⟩ := GF _ hx
     exact ⟨by rw [h4]; exact h.hyps, by rw [h3, h2]; exact h.finds⟩
   ·split at hx
    ·obtain ⟨h1, h2, h3, h4⟩ := Jm _ hx
     exact ⟨by rw [h4]; exact h.hyps, by rw [h3, h2]; exact h.finds⟩
    ·split at hx
     ·obtain ⟨v, -, hx⟩ := AO hx
      split at hx
      ·exact zq92
      ·cases hx; exact h
     ·have key : ∀ {x : Hy} {M : Ld}, x.expr.length ≤ 1000000 → L.hyp s x = .ok M → ∀ scs, Ld.Hs { M with scs := scs } := by
       intro x M hxl hM scs
       obtain ⟨h2, h3, h4, h5, rfl⟩ := EI ok hM
       refine ⟨fun p hp => ?_, h.finds⟩
       rcases KX _ _ _ p hp with rfl | hp
       ·exact hxl
       ·exact h.hyps p hp
      split at hx
      ·obtain ⟨e, he, hx⟩ := AO hx
       split at hx
       ·obtain ⟨M, hM, hx⟩ := AO hx
        obtain ⟨_, h1, hx⟩ := AO hx
        cases hx
        refine key (x := ⟨s.label.text, true, e.getD 1 0, e⟩) ?_ hM _
        have := EE L _ _ _ he
        dsimp only
        simp at this
        omega
       ·cases hx; exact h
      ·split at hx
       ·obtain ⟨e, he, hx⟩ := AO hx
        split at hx
        ·obtain ⟨M, hM, hx⟩ := AO hx
         obtain ⟨_, h1, hx⟩ := AO hx
         cases hx
         refine key (x := ⟨s.label.text, false, -1, e⟩) ?_ hM _
         have := Cs L _ _ _ (by simp) he
         dsimp only
         omega
        ·cases hx; exact h
       ·split at hx
        ·obtain ⟨e, he, hx⟩ := AO hx
         split at hx
         ·unfold Ld.assert at hx
          dsimp only at hx
          obtain ⟨_, hc, hx⟩ := AO hx
          obtain ⟨_, h1, hx⟩ := AO hx
          cases hx
          refine ⟨h.hyps, fun k n hk => ?_⟩
          dsimp only at hk ⊢
          rw [Cp] at hk
          rw [List.length_append]
          split at hk
          ·cases hk; simp
          ·have := h.finds k n hk
           omega
         ·cases hx; exact h
        ·cases hx; exact h
theorem Jp : ∀ (ss : List St) {L L' : Ld}, L.Nice → L.Hs → (∀ s ∈ ss, s.Good ∧ s.proof.length ≤ 16384 ∧ (∀ t ∈ s.proof, TkN t) ∧ s.words.length ≤ 1000000) → L.takeAll ss = .ok L' → L'.Hs
 | [], L, L', _, h, _, hx => by rw [Ld.takeAll] at hx; cases hx; exact h
 | s :: ss, L, L', hn, h, hs, hx => by
  rw [Ld.takeAll] at hx
  obtain ⟨M, hM, hx⟩ := AO hx
  obtain ⟨h1, h2, h3, h4⟩ := hs s List.mem_cons_self
  refine Jp ss (Iz hn h1 h2 h3 hM) ?_ (fun s hs' => hs s (List.mem_cons_of_mem _ hs')) hx
  unfold Ld.take at hM
  split at hM
  ·obtain ⟨_, hl, hM⟩ := AO hM
   exact Pw hn.ok h h4 hM
  ·exact Pw hn.ok h h4 hM
theorem OC {t : ByteArray} {B : Bs} (h : CB t = .ok B) : B.ld.Hs := by
 unfold CB at h
 split at h
 ·cases h
 ·rename_i L hL
  have hN : L.Hs := Jp _ Ld.Nice.new Ld.Hs.new (fun s hs => by
   obtain ⟨h1, h2⟩ := (EV t).1 s hs
   have h3 := NM (Q := TkN) TkN.none t (fun x hx => ⟨Fx t x hx, JU t x hx⟩) s hs
   exact ⟨h2, h1.pl, h3.proof, Nat.le_trans h1.wl (by decide)⟩) hL
  have hB : B.ld = L := by
   exact zq98
  rw [hB]
  exact hN
end Go.Proofs.YtbfbgfpghkijdaaGreatDoor
namespace Go.Proofs.YtbfbgfpghkijdaaGreatDoor
open Go.RowKit
def Ou : List Tk → Option Nat
 | [] => none
 | t :: r => if (t.text.toList == [41]) = true then some 0 else (Ou r).map (· + 1)
structure Pf where
 form : Nat
 labels : List Tk
 codes : List (Int × Tk)
 broken : Bool
 cut : Bool
 end_ : Tk
def Ig (ws : List Tk) (e : Tk) : Pf := match ws with
 | [] => ⟨1, [], [], false, false, e⟩
 | x :: r => if (x.text.toList == [40]) = false then ⟨1, x :: r, [], false, false, e⟩ else match Ou r with
  | none => ⟨2, r, [], true, false, e⟩
  | some i => ⟨2, r.take i, (LRd.zero.words (r.drop (i + 1))).out, false, (LRd.zero.words (r.drop (i + 1))).within, e⟩
def pfV (p : Pf) (lv cv : Value) : Value := .agg #[.int .i64 p.form, lv, cv, .bool p.broken, .bool p.cut, .string p.end_.text, .int .i64 p.end_.at_.off, .int .i64 p.end_.at_.line, .int .i64 p.end_.at_.col]
def Qm (p : Pf) (w : World) (e : Ending) (w' : World) : Prop := ∃ lv cv, e = .returned (pfV p lv cv) ∧ Row w' 59 4 lv p.labels.length (AC p.labels) ∧ AH w lv ∧ Row w' 187 5 cv p.codes.length (KZ p.codes) ∧ AH w cv ∧ Ad [] w w'
theorem QS {w : World} {b : Nat} {x0 x1 x2 x3 x4 x5 x6 x7 x8 : Value} {t : TypeId} (h : w.heap[b]? = some (.cells #[x0, x1, x2, x3, x4, x5, x6, x7, x8] t (0, 0))) : w.cell? ⟨b, 0, none⟩ = some x0 ∧ w.cell? ⟨b, 1, none⟩ = some x1 ∧ w.cell? ⟨b, 2, none⟩ = some x2 ∧ w.cell? ⟨b, 3, none⟩ = some x3 ∧ w.cell? ⟨b, 4, none⟩ = some x4 ∧ w.cell? ⟨b, 5, none⟩ = some x5 ∧ w.cell? ⟨b, 6, none⟩ = some x6 ∧ w.cell? ⟨b, 7, none⟩ = some x7 ∧ w.cell? ⟨b, 8, none⟩ = some x8 ∧ ∀ i, w.frozen? ⟨b, i, none⟩ = false :=
 ⟨Ai h, Ai h, Ai h, Ai h, Ai h, Ai h, Ai h, Ai h, Ai h, AE h⟩
theorem NR (l : List Tk) : ∀ u ∈ AC l, u.oneCell' = true := by
 exact zq125
theorem zq20 {P : Prop} (h : P := by
 go_enter Tryz.func46, Tryz.ntmps46
 go_wp2
 refine AD (.read 0 (.read 2 (.one 1 [2] (.read 3 (.one 4 [] (.done)))))) (by kernel_rfl) (by kernel_rfl) ?_
 iterate 2 (refine An rfl (fun K hK => ?_); go_simp; (try go_bits); (try (rw [if_pos (by omega)]; go_simp)); refine hK _ ?_; clear hK K)
 refine Ak rfl ?_
 go_wp2_with (go_at_call 52; go_must (refine (hcl _ (((Ad.alloc [] _ _).trans (Ad.alloc [] _ _)).trans (Ad.drew [] _))).mono ?_; rintro e1 W1 ⟨v1, rfl, hr1, hs1, hf1⟩; obtain ⟨A1, c1, rfl⟩ := hr1.shape))
 have hE1 := hs1.get (AR (Aj w (.cells #[.string en.text, .int .i64 en.at_.off, .int .i64 en.at_.line, .int .i64 en.at_.col] 59)) (.cells #[.int .i64 0, .slice none 0 0, .slice none 0 0, .bool false, .bool false, .string ⟨#[]⟩, .int .i64 0, .int .i64 0, .int .i64 0] 120)) (by simp)
 have hR1 := hs1.get (Aj (w.alloc (.cells #[.string en.text, .int .i64 en.at_.off, .int .i64 en.at_.line, .int .i64 en.at_.col] 59)) (.cells #[.int .i64 0, .slice none 0 0, .slice none 0 0, .bool false, .bool false, .string ⟨#[]⟩, .int .i64 0, .int .i64 0, .int .i64 0] 120)) (by simp)
 rw [AA] at hR1
 obtain ⟨e0, e1, e2, e3, ef⟩ := BV hE1
 have el := Af hE1
 have HR1 := Kd hR1
 have Hr1 := Kd hr1
 have Hs1 := Kd hs1
 have Hf1 : Hid (AH w (.slice A1 ws.length c1)) := Kd (AH.mono hf1 (by rw [Dw, AA, AA]; omega))
 clear hE1 hR1 hr1 hs1 hf1
 refine EQ.A ?_
 iterate 1 (refine An rfl (fun K hK => ?_); go_simp; (try go_bits); (try (rw [if_pos (by omega)]; go_simp)); refine hK _ ?_; clear hK K)
 refine Ak rfl ?_
 refine AU rfl 120 _ _ rfl (w.heap.size + 1) #[.int .i64 1, .slice A1 ws.length c1, .slice none 0 0, .bool false, .bool false, .string en.text, .int .i64 en.at_.off, .int .i64 en.at_.line, .int .i64 en.at_.col] (by go_simp) (by go_simp) 120 _ HR1.out (by kernel_rfl) rfl (by simp [Value.oneCell']) ?_
 intro W2 hR2 hs2
 obtain ⟨y0, y1, y2, y3, y4, y5, y6, y7, y8, yf⟩ := QS hR2
 have Hs2 := Kd hs2
 clear hR2 hs2
 go_wp2
 refine EQ.A ?_
 refine AB ?_
 go_wp2
 refine bodyPost_ret_by (v := .agg #[.int .i64 1, .slice A1 ws.length c1, .slice none 0 0, .bool false, .bool false, .string en.text, .int .i64 en.at_.off, .int .i64 en.at_.line, .int .i64 en.at_.col]) (by simp [results, Tryz.f46, go_sem, y0, y1, y2, y3, y4, y5, y6, y7, y8]) rfl ?_
 have hsA : Ad [] w W1 := (((Ad.alloc [] _ _).trans (Ad.alloc [] _ _)).trans (Ad.drew [] _)).trans Hs1.out
 exact ⟨.slice A1 ws.length c1, .slice none 0 0, rfl, Hr1.out.same Hs2.out (fun b hb hm => by have := List.mem_singleton.1 hm; subst this; exact Hr1.out.ne HR1.out (by decide) hb), Hf1.out, World.ownsRow_nil _ _ _ _, by simp [AH, Value.ownBlock], hsA.then Hs2.out fun x hx => .inr (by simp at hx; omega)⟩) : P := h
theorem zq126 {P : Prop} (h : P := by
 rcases hp with rfl | ⟨x, r, rfl, hx⟩
 ·rfl
 ·unfold Ig; dsimp only; rw [if_pos hx]) : P := h
theorem M1 (w : World) (va : Value) (ws : List Tk) (hw : Row w 59 4 va ws.length (AC ws)) (hn : ws.length ≤ 10000000) (en : Tk) (hp : ws = [] ∨ ∃ x r, ws = x :: r ∧ (x.text.toList == [40]) = false) :
  Calls Tryz.prog 46 #[va, tkV en] w (Qm (Ig ws en) w) := by
 have hres : Ig ws en = ⟨1, ws, [], false, false, en⟩ := by
  exact zq126
 rw [hres]
 have hcl := fun (W : World) (hW : Ad [] w W) => EX va ws.length (AC ws) W (hw.same hW (by simp)) (NR _) (by omega)
 unfold tkV
 rcases hp with hp | ⟨x, r, hp, hx⟩
 ·obtain ⟨Av, cv, rfl⟩ := hw.shape
  have k0 : ((ws.length : Int) == 0) = true := by rw [hp]; rfl
  clear hw hres hp
  exact zq20
 ·have hpos : 0 < ws.length := by rw [hp]; simp
  have hx0 : ws[0] = x := by subst hp; rfl
  obtain ⟨g, c, hv, t0, t1, t2, t3, hgl⟩ := DA hw hpos
  subst hv
  rw [Nat.zero_mul, hx0] at t0
  have k0 : ((ws.length : Int) == 0) = false := by rw [beq_eq_false_iff_ne]; omega
  clear hw hres hp hx0 t1 t2 t3
  exact zq20
end Go.Proofs.YtbfbgfpghkijdaaGreatDoor
