/- lemmalaw texts, part 7. -/
import Derived.Test.YtbfbgfpghkijdaaGreatDoorYad
import Derived.Test.YtbfbgfpghkijdaaGreatDoorYaf
set_option maxRecDepth 100000
set_option linter.unusedVariables false
set_option linter.unusedSimpArgs false
set_option maxHeartbeats 32000000
namespace Go.Proofs.YtbfbgfpghkijdaaGreatDoor
open Go.RowKit
attribute [local go_sem] Oper.semAt_some
theorem Tryz.infoToken : (Tryz.prog.info? 59).map (fun i => (i.zero, i.size, i.bytes)) = some (some (.agg #[.string ByteArray.empty, .int .i64 0, .int .i64 0, .int .i64 0]), 4, 40) := by kernel_rfl
def AC (l : List Tk) : List Value := l.flatMap Tk.cells
def Dj (w : World) : Prop := ∃ m : Int, w.cell? ⟨0, 0, none⟩ = some (.int .i64 m)
theorem MH (t : ByteArray) (w : World) : Calls Tryz.prog 102 #[.string t] w fun e w' => e = .returned (.func (.func 147) #[] #[.pointer (some ⟨w.heap.size, 0, none⟩)]) ∧
  w'.heap.size = w.heap.size + 1 ∧ w'.cell? ⟨w.heap.size, 0, none⟩ = some (.string t) ∧ Ad [] w w' := by
 go_enter Tryz.func102, Tryz.ntmps102
 go_wp2
 go_ret
 exact ⟨rfl, by simp, Ai (Aj _ _), Ad.alloc _ _ _⟩
structure Do (lo : Nat) (t : ByteArray) (out : List Tk) (op : Option Tk) (v p : Value) (w W : World) : Prop where
 base : Ad [] w W
 r0 : W.heap[lo]? = some (.cells #[.slice none 0 0] 54 (0, 0))
 r1 : W.heap[lo + 1]? = some (.cells #[.pointer none] 29 (0, 0))
 r2 : W.heap[lo + 1 + 1]? = some (.cells #[v] 54 (0, 0))
 r3 : W.heap[lo + 1 + 1 + 1]? = some (.cells #[p] 140 (0, 0))
 txt : W.cell? ⟨lo + 1 + 1 + 1 + 1, 0, none⟩ = some (.string t)
 row : Row W 59 4 v out.length (AC out)
 vlo : ∀ b, v.ownBlock = some b → lo + 9 ≤ b
 opn : (op = none ∧ p = .pointer none) ∨ ∃ o b, op = some o ∧ p = .pointer (some ⟨b, 0, none⟩) ∧ lo + 9 ≤ b ∧ W.heap[b]? = some (AP o) ∧ v.ownBlock ≠ some b
 len : out.length ≤ 16384
 lt : lo + 5 ≤ W.heap.size
 sz : lo = w.heap.size
theorem Do.same {lo : Nat} {t : ByteArray} {out : List Tk} {op : Option Tk} {v p : Value} {w W W' : World} {S : List Nat} (h : Do lo t out op v p w W) (hs : Ad S W W') (hS : ∀ b ∈ S, lo + 5 ≤ b ∧ b < lo + 9) : Do lo t out op v p w W' := {
 base := h.base.then hs (fun x hx => .inr (by have := hS x hx; have := h.sz; omega))
 r0 := hs.get h.r0 (fun hm => by have := hS _ hm; omega)
 r1 := hs.get h.r1 (fun hm => by have := hS _ hm; omega)
 r2 := hs.get h.r2 (fun hm => by have := hS _ hm; omega)
 r3 := hs.get h.r3 (fun hm => by have := hS _ hm; omega)
 txt := hs.cell h.txt (fun hm => by have := hS _ hm; omega)
 row := h.row.same hs (fun b hb hm => by have := hS _ hm; have := h.vlo b hb; omega)
 vlo := h.vlo
 opn := by
  rcases h.opn with h1 | ⟨o, b, h1, h2, h3, h4, h5⟩
  ·exact .inl h1
  ·exact .inr ⟨o, b, h1, h2, h3, hs.get h4 (fun hm => by have := hS _ hm; omega), h5⟩
 len := h.len
 lt := Nat.le_trans h.lt hs.size
 sz := h.sz }
structure I9 (lo : Nat) (out : List Tk) (x : Tk) (e : Int) (w W : World) : Prop where
 base : Ad [] w W
 res : ∃ v b, W.heap[lo]? = some (.cells #[v] 54 (0, 0)) ∧ W.heap[lo + 1]? = some (.cells #[.pointer (some ⟨b, 0, none⟩)] 29 (0, 0)) ∧ Row W 59 4 v out.length (AC out) ∧
  (∀ c, v.ownBlock = some c → lo + 9 ≤ c) ∧ lo + 9 ≤ b ∧ W.heap[b]? = some (CZ ⟨x.at_, x.text, e⟩)
 sz : lo = w.heap.size
theorem I9.same {lo : Nat} {out : List Tk} {x : Tk} {e : Int} {w W W' : World} {S : List Nat} (h : I9 lo out x e w W) (hs : Ad S W W') (hS : ∀ b ∈ S, lo + 5 ≤ b ∧ b < lo + 9) : I9 lo out x e w W' := {
 base := h.base.then hs (fun x hx => .inr (by have := hS x hx; have := h.sz; omega))
 res := by
  obtain ⟨v, b, h1, h2, h3, h4, h5, h6⟩ := h.res
  exact ⟨v, b, hs.get h1 (fun hm => by have := hS _ hm; omega), hs.get h2 (fun hm => by have := hS _ hm; omega), h3.same hs (fun b hb hm => by have := hS _ hm; have := h4 b hb; omega), h4, h5, hs.get h6 (fun hm => by have := hS _ hm; omega)⟩
 sz := h.sz }
theorem LZ (x : Tk) : ∀ u ∈ x.cells, u.oneCell' = true := by simp [Tk.cells, Ps.cells, Value.oneCell']
theorem Do.setOpen {lo : Nat} {t : ByteArray} {out : List Tk} {op : Option Tk} {v p : Value} {w W : World} (h : Do lo t out op v p w W) (h9 : lo + 9 ≤ W.heap.size) (x : Tk) :
  Do lo t out (some x) v (.pointer (some ⟨W.heap.size, 0, none⟩)) w ((W.alloc (AP x)).setCell ⟨lo + 1 + 1 + 1, 0, none⟩ (.pointer (some ⟨W.heap.size, 0, none⟩))) ∧
  Ch (lo + 1 + 1 + 1 + 1 + 1) 4 W ((W.alloc (AP x)).setCell ⟨lo + 1 + 1 + 1, 0, none⟩ (.pointer (some ⟨W.heap.size, 0, none⟩))) := by
 have hs : Ad [lo + 1 + 1 + 1] W ((W.alloc (AP x)).setCell ⟨lo + 1 + 1 + 1, 0, none⟩ (.pointer (some ⟨W.heap.size, 0, none⟩))) := (Ad.alloc _ W _).set _ _ (by simp)
 have hlt := h.lt
 have hsz := h.sz
 have hr3 := h.r3
 refine ⟨⟨h.base.then hs (fun y hy => .inr (by simp at hy; omega)), hs.get h.r0 (by simp <;> omega), hs.get h.r1 (by simp <;> omega), hs.get h.r2 (by simp), ?_, hs.cell h.txt (by simp), h.row.same hs (fun b hb hm => by have := h.vlo b hb; simp at hm; omega), h.vlo,
  .inr ⟨x, _, rfl, rfl, by omega, ?_, fun e => ?_⟩, h.len, Nat.le_trans hlt hs.size, hsz⟩, Ch.of_same hs (by simp <;> omega) (by omega)⟩
 ·simp [Az, AR hr3, AV]
 ·have : W.heap.size ≠ lo + 1 + 1 + 1 := by omega
  have := (Ad.setCell (W.alloc (AP x)) ⟨lo + 1 + 1 + 1, 0, none⟩ (.pointer (some ⟨W.heap.size, 0, none⟩)) (S := [lo + 1 + 1 + 1]) (by simp)).get (Aj W (AP x)) (by simp <;> omega)
  exact this
 ·have := h.row.lt e
  omega
theorem Do.setClosed {lo : Nat} {t : ByteArray} {out : List Tk} {op : Option Tk} {v p : Value} {w W : World} (h : Do lo t out op v p w W) (h9 : lo + 9 ≤ W.heap.size) (o : Obj) :
  Do lo t out none v (.pointer none) w ((W.alloc o).setCell ⟨lo + 1 + 1 + 1, 0, none⟩ (.pointer none)) ∧ Ch (lo + 1 + 1 + 1 + 1 + 1) 4 W ((W.alloc o).setCell ⟨lo + 1 + 1 + 1, 0, none⟩ (.pointer none)) := by
 have hs : Ad [lo + 1 + 1 + 1] W ((W.alloc o).setCell ⟨lo + 1 + 1 + 1, 0, none⟩ (.pointer none)) := (Ad.alloc _ W _).set _ _ (by simp)
 have hlt := h.lt
 have hsz := h.sz
 have hr3 := h.r3
 refine ⟨⟨h.base.then hs (fun y hy => .inr (by simp at hy; omega)), hs.get h.r0 (by simp <;> omega), hs.get h.r1 (by simp <;> omega), hs.get h.r2 (by simp), ?_, hs.cell h.txt (by simp), h.row.same hs (fun b hb hm => by have := h.vlo b hb; simp at hm; omega), h.vlo,
  .inl ⟨rfl, rfl⟩, h.len, Nat.le_trans hlt hs.size, hsz⟩, Ch.of_same hs (by simp <;> omega) (by omega)⟩
 simp [Az, AR hr3, AV]
theorem zq105 {P : Prop} (h : P := by
 rcases ho with ho | ⟨c, hc, hle⟩
 ·exact h.vlo b (by rw [← ho]; exact hb)
 ·rw [hc] at hb; cases hb; omega) : P := h
theorem zq112 {P : Prop} (h : P := by
 rcases List.mem_cons.1 hb with rfl | hb
 ·exact .inl rfl
 ·exact .inr (h.vlo b (Option.mem_toList.1 hb))) : P := h
theorem Do.push {lo : Nat} {t : ByteArray} {out : List Tk} {v v1 : Value} {w W W1 : World} (h : Do lo t out none v (.pointer none) w W) (h9 : lo + 9 ≤ W.heap.size) (x : Tk) (hs : Ad v.ownBlock.toList W W1) (hr : Row W1 59 4 v1 (out.length + 1) (AC out ++ x.cells))
  (ho : v1.ownBlock = v.ownBlock ∨ ∃ b, v1.ownBlock = some b ∧ W.heap.size ≤ b) (hlen : out.length < 16384) :
  Do lo t (out ++ [x]) none v1 (.pointer none) w (W1.setCell ⟨lo + 1 + 1, 0, none⟩ v1) ∧ Ch (lo + 1 + 1 + 1 + 1 + 1) 4 W (W1.setCell ⟨lo + 1 + 1, 0, none⟩ v1) := by
 have hlt := h.lt
 have hsz := h.sz
 have hr2 := h.r2
 have hv1 : ∀ b, v1.ownBlock = some b → lo + 9 ≤ b := fun b hb => by
  exact zq105
 have hs' : Ad ((lo + 1 + 1) :: v.ownBlock.toList) W (W1.setCell ⟨lo + 1 + 1, 0, none⟩ v1) := (hs.mono (fun y hy => .inl (List.mem_cons_of_mem _ hy))).set _ _ (by simp)
 have hno : ∀ b, b ∈ (lo + 1 + 1) :: v.ownBlock.toList → b = lo + 1 + 1 ∨ lo + 9 ≤ b := fun b hb => by
  exact zq112
 refine ⟨⟨h.base.then hs' (fun y hy => .inr (by have := hno y hy; omega)), hs'.get h.r0 (fun hm => by have := hno _ hm; omega), hs'.get h.r1 (fun hm => by have := hno _ hm; omega), ?_, hs'.get h.r3 (fun hm => by have := hno _ hm; omega),
  hs'.cell h.txt (fun hm => by have := hno _ hm; omega), ?_, hv1, .inl ⟨rfl, rfl⟩, by simp; omega, Nat.le_trans hlt hs'.size, hsz⟩, Ch.of_same hs' (fun b hb => by have := hno b hb; omega) (by omega)⟩
 ·have := hs.get hr2 (fun hm => by have := h.vlo _ (Option.mem_toList.1 hm); omega)
  simp [Az, this, AV]
 ·have := hr.same (Ad.setCell W1 ⟨lo + 1 + 1, 0, none⟩ v1 (S := [lo + 1 + 1]) (by simp)) (fun b hb hm => by have := hv1 b hb; simp at hm; omega)
  simpa [AC] using this
def RW (lo : Nat) (t : ByteArray) (w : World) (pre : List It) (W : World) : Prop :=
 ∃ out op v p, Do lo t out op v p w W ∧ ∀ suf, BX (pre ++ suf) [] none = BX suf out op
def Rt (lo : Nat) (w : World) (c : Code) (pre : List It) (W : World) : Prop :=
 c = .ret ∧ ∃ out x e, I9 lo out x e w W ∧ ∀ suf, BX (pre ++ suf) [] none = (out, some (x, e))
def IK (r : Option (Tk × Int)) : Option Flt := r.map fun p => ⟨p.1.at_, p.1.text, p.2⟩
def P6 (t : ByteArray) (w : World) (e : Ending) (w' : World) : Prop :=
 ∃ v f, e = .returned (.tuple #[v, f]) ∧ Ad [] w w' ∧ Row w' 59 4 v (BM t).1.length (AC (BM t).1) ∧ (∀ b, v.ownBlock = some b → w.heap.size ≤ b) ∧
   CR w' f (IK (BM t).2) ∧ (∀ b, f = .pointer (some ⟨b, 0, none⟩) → w.heap.size ≤ b)
theorem CR.same {S : List Nat} {w w' : World} {f : Value} {o : Option Flt} (h : CR w f o) (hs : Ad S w w') (hn : ∀ b, f = .pointer (some ⟨b, 0, none⟩) → b ∉ S) : CR w' f o := by
 cases o with
 | none => exact h
 | some x => obtain ⟨b, h1, h2⟩ := h; exact ⟨b, h1, hs.get h2 (hn b h1)⟩
theorem F1 {t : ByteArray} {w X : World} {D : Nat} (hD : D = w.heap.size + 5) {tmps : Array Value} (ht2 : tmps.getD 2 undef = .pointer (some ⟨w.heap.size, 0, none⟩)) (ht3 : tmps.getD 3 undef = .pointer (some ⟨w.heap.size + 1, 0, none⟩))
  {v f : Value} (hbase : Ad [] w X) (h0 : X.cell? ⟨w.heap.size, 0, none⟩ = some v) (h1 : X.cell? ⟨w.heap.size + 1, 0, none⟩ = some f)
  (hrow : Row X 59 4 v (BM t).1.length (AC (BM t).1)) (hv : ∀ b, v.ownBlock = some b → w.heap.size + 9 ≤ b)
  (hf : CR X f (IK (BM t).2)) (hfb : ∀ b, f = .pointer (some ⟨b, 0, none⟩) → w.heap.size + 9 ≤ b) (hK : X.heap[D]? = some (.deferred (some []))) :
  LeavesInM Fence.wide 0 Tryz.prog Tryz.f55 tmps (P6 t w) [] .returning (X.putObj D (.deferred none)) := by
 have hp : Ad [D] X (X.putObj D (.deferred none)) := Ad.put _ hK
 have c0 := hp.cell h0 (by simp <;> omega)
 have c1 := hp.cell h1 (by simp <;> omega)
 refine ⟨.tuple #[v, f], ?_, v, f, rfl, hbase.then hp (by simp; omega), hrow.same hp (fun b hb hm => by have := hv b hb; simp at hm; omega), fun b hb => by have := hv b hb; omega, hf.same hp (fun b hb hm => by have := hfb b hb; simp at hm; omega), fun b hb => by have := hfb b hb; omega⟩
 simp only [Array.getD_eq_getD_getElem?] at ht2 ht3
 simp [results, Tryz.f55, go_sem, c0, c1, ht2, ht3]
theorem zq41 {P : Prop} (h : P := by
 exact hS4.row.same (((Ad.refl [w.heap.size, w.heap.size + 1] W4).set _ _ (by simp)).set _ _ (by simp)) (fun c hc hm => by have := hS4.vlo c hc; simp at hm; omega)) : P := h
theorem zq42 {P : Prop} (h : P := by
 exact (((Ad.refl [w.heap.size, w.heap.size + 1] W4).set _ _ (by simp)).set _ _ (by simp)).get hf4 (fun hm => by simp at hm; omega)) : P := h
theorem zq44 {P : Prop} (h : P := by
 repeat (first | exact BJ | (refine Br rfl ?_) | (refine DG rfl (by go_simp; (try trivial)) ?_))) : P := h
theorem zq59 {P : Prop} (h : P := by
 exact HS.out.base.then hfin (fun x hx => .inr (by simp at hx; omega))) : P := h
theorem NP (t : ByteArray) (w : World) (ht : t.size ≤ maxLen) (hb : BF w) (hl : Dj w) : Calls Tryz.prog 55 #[.string t] w (P6 t w) := by
 refine (callsIn_wide (n := 0)).1 ?_
 refine callsIn_of_wp_marks Tryz.func55 rfl trivial ?_ rfl
 simp only [Tryz.ntmps55, List.size_toArray, List.length_cons, List.length_nil, Nat.reduceAdd, Nat.reduceSub, Array.replicate_succ, Array.replicate_zero, List.push_toArray, List.append_toArray, List.nil_append, List.cons_append]
 gi_wp2_with (gi_at_call 102; refine ((callsIn_wide (n := 0)).2 (MH t _)).mono ?_; rintro e W0 ⟨rfl, hs0, hc0, hsm0⟩)
 simp only [World.size_alloc] at hs0 hc0
 have hsm0' : Ad [] w W0 := ((((Ad.alloc [] w _).trans (Ad.alloc [] _ _)).trans (Ad.alloc [] _ _)).trans (Ad.alloc [] _ _)).trans hsm0
 have hS0 : Do w.heap.size t [] none (.slice none 0 0) (.pointer none) w W0 := by
  refine ⟨hsm0', hsm0.get (AR (AR (AR (Aj w _) _) _) _) (by simp), hsm0.get (AR (AR ?_ _) _) (by simp), hsm0.get (AR ?_ _) (by simp), hsm0.get ?_ (by simp), hc0, World.ownsRow_nil _ _ _ _, by simp [Value.ownBlock], .inl ⟨rfl, rfl⟩, by simp, ?_, rfl⟩
  ·have := Aj (w.alloc (.cells #[.slice none 0 0] 54)) (.cells #[.pointer none] 29); simpa using this
  ·have := Aj ((w.alloc (.cells #[.slice none 0 0] 54)).alloc (.cells #[.pointer none] 29)) (.cells #[.slice none 0 0] 54); simpa using this
  ·have := Aj (((w.alloc (.cells #[.slice none 0 0] 54)).alloc (.cells #[.pointer none] 29)).alloc (.cells #[.slice none 0 0] 54)) (.cells #[.pointer none] 140); simpa using this
  ·omega
 refine PR (p := 2) (gf := 147) (lb := #[.pointer (some ⟨w.heap.size + 1 + 1 + 1 + 1, 0, none⟩)]) (encs := fun x : It => #[x.val])
  (Kp := fun W => W.cell? ⟨w.heap.size + 1 + 1 + 1 + 1, 0, none⟩ = some (.string t) ∧ BF W) (xs := G3 t) (by simp [Act.eval]) (enters_of Tryz.func147 (by kernel_rfl) rfl) (fun _ => rfl)
  (fun W hW => M7 t _ W ht (by have := hW.size; omega)) (RW w.heap.size t w) (Rt w.heap.size w) ⟨[], none, _, _, hS0, fun _ => rfl⟩ ?kp ?hI ?hIx ?round ?done ?stop
 case kp =>
  rintro pre W ⟨out, op, v, p, hS, _⟩
  exact ⟨hS.txt, hb.same hS.base⟩
 case hI =>
  rintro pre S W1 W2 ⟨out, op, v, p, hS, hgo⟩ hsm hin
  exact ⟨out, op, v, p, hS.same hsm (fun b hb => by have := hin b hb; omega), hgo⟩
 case hIx =>
  rintro c pre S W1 W2 ⟨hc, out, x, e, hS, hgo⟩ hsm hin
  exact ⟨hc, out, x, e, hS.same hsm (fun b hb => by have := hin b hb; omega), hgo⟩
 case round =>
  rintro l pre x suf W hxs ⟨out, op, v, p, hS, hgo⟩ hsz
  dsimp only [It.val]
  gi_wp2
  refine ⟨fun b h1 h2 => (Ad.alloc [] W _).block b (by omega) (by simp), (Ad.alloc [] W _).size, ?_⟩
  intro W2 hsm2
  have hsm := (Ad.alloc [W0.heap.size + 1] W (.cells #[.string x.word.text, .int .i64 x.word.at_.off, .int .i64 x.word.at_.line, .int .i64 x.word.at_.col, .int .i64 x.code] 200)).trans hsm2
  have hS2 := hS.same hsm (fun b hb => by simp at hb; omega)
  have hblk := hsm2.get (Aj W (.cells #[.string x.word.text, .int .i64 x.word.at_.off, .int .i64 x.word.at_.line, .int .i64 x.word.at_.col, .int .i64 x.code] 200)) (by simp; omega)
  have hb2 : BF W2 := hb.same hS2.base
  have hl2 : Dj W2 := by obtain ⟨m, hm⟩ := hl; exact ⟨m, hS2.base.cell hm (by simp)⟩
  have hszW := hsm.size
  have h9 : w.heap.size + 9 ≤ W2.heap.size := by omega
  obtain ⟨i0, i1, i2, i3, i4, iF⟩ : W2.cell? ⟨W.heap.size, 0, none⟩ = some (.string x.word.text) ∧ W2.cell? ⟨W.heap.size, 1, none⟩ = some (.int .i64 x.word.at_.off) ∧ W2.cell? ⟨W.heap.size, 2, none⟩ = some (.int .i64 x.word.at_.line) ∧
    W2.cell? ⟨W.heap.size, 3, none⟩ = some (.int .i64 x.word.at_.col) ∧ W2.cell? ⟨W.heap.size, 4, none⟩ = some (.int .i64 x.code) ∧ ∀ i, W2.frozen? ⟨W.heap.size, i, none⟩ = false := ⟨Ai hblk, Ai hblk, Ai hblk, Ai hblk, Ai hblk, AE hblk⟩
  have hWs2 : W.heap.size + 1 ≤ W2.heap.size := by have := Af hblk; omega
  have e0 := Ai (i := 0) (v := .slice none 0 0) hS2.r0 rfl
  have e1 := Ai (i := 0) (v := .pointer none) hS2.r1 rfl
  have e2 := Ai (i := 0) (v := v) hS2.r2 rfl
  have e3 := Ai (i := 0) (v := p) hS2.r3 rfl
  have f0 := AE hS2.r0
  have f1 := AE hS2.r1
  have f2 := AE hS2.r2
  have f3 := AE hS2.r3
  have fz : ∀ {b : Nat} {cs : Array Value} {T : TypeId}, W2.heap[b]? = some (.cells cs T (0, 0)) → ∀ o i, (W2.alloc o).frozen? ⟨b, i, none⟩ = false := fun h o i => AE (AR h o) i
  have i4a := fun o => (Ad.alloc [] W2 o).cell i4 (by simp)
  have e0a := fun o => (Ad.alloc [] W2 o).cell e0 (by simp)
  have e1a := fun o => (Ad.alloc [] W2 o).cell e1 (by simp)
  have e2a := fun o => (Ad.alloc [] W2 o).cell e2 (by simp)
  have e3a := fun o => (Ad.alloc [] W2 o).cell e3 (by simp)
  have f0a := fz hS2.r0
  have f1a := fz hS2.r1
  have f2a := fz hS2.r2
  have f3a := fz hS2.r3
  clear fz
  have hxm : x.word.text.size ≤ 65536 := Nk t x (by rw [hxs]; simp)
  have hgx := hgo (x :: suf)
  have Hx := Kd hxs
  have HS := Kd hS2
  have Hgo := Kd hgo
  have Hb := Kd hblk
  have Hsm := Kd hsm
  clear hS hsm2 hS2 hblk hgo hxs hgx
  obtain ⟨Av, cv, rfl⟩ := HS.out.row.shape
  have tlx : x.word.text.toList = x.word.text.data.toList := ByteArray.toList_eq _
  have Tl := Kd tlx
  clear tlx
  by_cases hcode : x.code = 0
  ·rw [hcode] at i4 i4a
   have Hc := Kd hcode
   clear hcode
   rcases HS.out.opn with ⟨rfl, rfl⟩ | ⟨o, b, rfl, rfl, hbl, hbo, hvb⟩
   ·by_cases hA : (x.word.text.toList == [36, 40]) = true
    ·gi_wp2
     refine ⟨by rw [hs0]; exact (HS.out.setOpen h9 x.word).2, out, some x.word, _, _, (HS.out.setOpen h9 x.word).1, fun suf' => ?_⟩
     rw [List.append_assoc, List.singleton_append, Hgo.out, BX, if_neg (by simp [Hc.out])]
     try dsimp only
     rw [if_pos (by rw [← Tl.out]; simpa using hA)]
    ·replace hA : (x.word.text.toList == [36, 40]) = false := by simpa using hA
     by_cases hB : (x.word.text.toList == [36, 41]) = true
     ·gi_wp2
      obtain ⟨W3, hW3⟩ : ∃ W3, W2.alloc (AP x.word) = W3 := ⟨_, rfl⟩
      have hsa : Ad [] W2 W3 := by rw [← hW3]; exact Ad.alloc _ _ _
      have htk : W3.heap[W2.heap.size]? = some (AP x.word) := by rw [← hW3]; exact Aj _ _
      have hW3' : W2.alloc (.cells #[.string x.word.text, .int .i64 x.word.at_.off, .int .i64 x.word.at_.line, .int .i64 x.word.at_.col] 59) = W3 := hW3
      rw [hW3']
      clear hW3 hW3' e0a e1a e2a e3a i4a f0a f1a f2a f3a i0 i1 i2 i3 iF
      obtain ⟨k0, k1, k2, k3, kf⟩ := At htk
      have hS3 := HS.out.same hsa (by simp)
      replace e0 := Ai (i := 0) (v := .slice none 0 0) hS3.r0 rfl
      replace e1 := Ai (i := 0) (v := .pointer none) hS3.r1 rfl
      replace e2 := Ai (i := 0) (v := .slice Av out.length cv) hS3.r2 rfl
      replace i4 := hsa.cell i4 (by simp)
      refine CJ (fun _ => trivial) (.read 0 (.read 1 (.one 2 [0] (.one 3 [] (.one 4 [] (.done)))))) (by kernel_rfl) (by kernel_rfl) ?_
      iterate 2 (refine C9 rfl (fun K hK => ?_); go_simp; (try go_bits); refine hK _ ?_; clear hK K)
      refine Bk (fun _ => trivial) rfl ?_
      gi_wp2_with (gi_at_call 103; refine (CallsIn.inRound l ((callsIn_wide (n := 0)).2 (Df x.word 11 _))).mono ?_; rintro e' W4 ⟨b4, rfl, hb4, hf4, hs4⟩)
      have hsb : Ad [] W2 W4 := hsa.trans ((Ad.drew [] W3).trans hs4)
      have hS4 := HS.out.same hsb (by simp)
      replace e0 := Ai (i := 0) (v := .slice none 0 0) hS4.r0 rfl
      replace e1 := Ai (i := 0) (v := .pointer none) hS4.r1 rfl
      replace e2 := Ai (i := 0) (v := .slice Av out.length cv) hS4.r2 rfl
      replace f0 := AE hS4.r0
      replace f1 := AE hS4.r1
      refine EQI.mk rfl ?_ ?_
      ·exact zq44
      refine Bk (fun _ => trivial) rfl ?_
      gi_wp2
      refine EQI.mk rfl ?_ ?_
      ·repeat (first | exact BJ | (refine Br rfl ?_))
      refine Bk (fun _ => trivial) rfl ?_
      gi_wp2
      refine EQI.mk rfl ?_ ?_
      ·repeat (first | exact BJ | (refine Br rfl ?_))
      refine Dc ?_
      gi_wp2
      have hb4' : W2.heap.size ≤ b4 := Nat.le_trans hsa.size hb4
      have hlt := hS4.lt
      have hlt2 := HS.out.lt
      have hfin : Ad [w.heap.size, w.heap.size + 1] W2 ((W4.setCell ⟨w.heap.size, 0, none⟩ (.slice Av out.length cv)).setCell ⟨w.heap.size + 1, 0, none⟩ (.pointer (some ⟨b4, 0, none⟩))) :=
       ((hsb.mono (by simp)).set _ _ (by simp)).set _ _ (by simp)
      refine ⟨Ch.of_same hfin (by intro b hb; simp at hb; omega) (by omega), rfl, out, x.word, 11, ⟨?_, ⟨.slice Av out.length cv, b4, ?_, ?_, ?_, hS4.vlo, by omega, ?_⟩, rfl⟩, ?_⟩
      ·exact zq59
      ·simp [Az, hS4.r0, AV]
      ·simp [Az, hS4.r1, AV]
      ·exact zq41
      ·exact zq42
      intro suf'
      rw [List.append_assoc, List.singleton_append, Hgo.out, BX, if_neg (by simp [Hc.out])]
      try dsimp only
      rw [if_neg (by rw [← Tl.out]; simpa using hA), if_pos (by rw [← Tl.out]; simpa using hB)]
     ·replace hB : (x.word.text.toList == [36, 41]) = false := by simpa using hB
      by_cases hC : out.length = 16384
      ·have hC' : ((out.length : Int) == 16384) = true := beq_iff_eq.2 (by omega)
       have HC := Kd hC
       clear hC
       gi_wp2
       obtain ⟨W3, hW3⟩ : ∃ W3, W2.alloc (AP x.word) = W3 := ⟨_, rfl⟩
       have hsa : Ad [] W2 W3 := by rw [← hW3]; exact Ad.alloc _ _ _
       have htk : W3.heap[W2.heap.size]? = some (AP x.word) := by rw [← hW3]; exact Aj _ _
       have hW3' : W2.alloc (.cells #[.string x.word.text, .int .i64 x.word.at_.off, .int .i64 x.word.at_.line, .int .i64 x.word.at_.col] 59) = W3 := hW3
       rw [hW3']
       clear hW3 hW3' e0a e1a e2a e3a i4a f0a f1a f2a f3a i0 i1 i2 i3 iF
       obtain ⟨k0, k1, k2, k3, kf⟩ := At htk
       have hS3 := HS.out.same hsa (by simp)
       replace e0 := Ai (i := 0) (v := .slice none 0 0) hS3.r0 rfl
       replace e1 := Ai (i := 0) (v := .pointer none) hS3.r1 rfl
       replace e2 := Ai (i := 0) (v := .slice Av out.length cv) hS3.r2 rfl
       replace i4 := hsa.cell i4 (by simp)
       refine CJ (fun _ => trivial) (.read 0 (.read 1 (.one 2 [0] (.one 3 [] (.one 4 [] (.done)))))) (by kernel_rfl) (by kernel_rfl) ?_
       iterate 2 (refine C9 rfl (fun K hK => ?_); go_simp; (try go_bits); refine hK _ ?_; clear hK K)
       refine Bk (fun _ => trivial) rfl ?_
       gi_wp2_with (gi_at_call 103; refine (CallsIn.inRound l ((callsIn_wide (n := 0)).2 (Df x.word 13 _))).mono ?_; rintro e' W4 ⟨b4, rfl, hb4, hf4, hs4⟩)
       have hsb : Ad [] W2 W4 := hsa.trans ((Ad.drew [] W3).trans hs4)
       have hS4 := HS.out.same hsb (by simp)
       replace e0 := Ai (i := 0) (v := .slice none 0 0) hS4.r0 rfl
       replace e1 := Ai (i := 0) (v := .pointer none) hS4.r1 rfl
       replace e2 := Ai (i := 0) (v := .slice Av out.length cv) hS4.r2 rfl
       replace f0 := AE hS4.r0
       replace f1 := AE hS4.r1
       refine EQI.mk rfl ?_ ?_
       ·exact zq44
       refine Bk (fun _ => trivial) rfl ?_
       gi_wp2
       refine EQI.mk rfl ?_ ?_
       ·repeat (first | exact BJ | (refine Br rfl ?_))
       refine Bk (fun _ => trivial) rfl ?_
       gi_wp2
       refine EQI.mk rfl ?_ ?_
       ·repeat (first | exact BJ | (refine Br rfl ?_))
       refine Dc ?_
       gi_wp2
       have hb4' : W2.heap.size ≤ b4 := Nat.le_trans hsa.size hb4
       have hlt := hS4.lt
       have hlt2 := HS.out.lt
       have hfin : Ad [w.heap.size, w.heap.size + 1] W2 ((W4.setCell ⟨w.heap.size, 0, none⟩ (.slice Av out.length cv)).setCell ⟨w.heap.size + 1, 0, none⟩ (.pointer (some ⟨b4, 0, none⟩))) :=
        ((hsb.mono (by simp)).set _ _ (by simp)).set _ _ (by simp)
       refine ⟨Ch.of_same hfin (by intro b hb; simp at hb; omega) (by omega), rfl, out, x.word, 13, ⟨?_, ⟨.slice Av out.length cv, b4, ?_, ?_, ?_, hS4.vlo, by omega, ?_⟩, rfl⟩, ?_⟩
       ·exact zq59
       ·simp [Az, hS4.r0, AV]
       ·simp [Az, hS4.r1, AV]
       ·exact zq41
       ·exact zq42
       intro suf'
       rw [List.append_assoc, List.singleton_append, Hgo.out, BX, if_neg (by simp [Hc.out])]
       try dsimp only
       rw [if_neg (by rw [← Tl.out]; simpa using hA), if_neg (by rw [← Tl.out]; simpa using hB), if_pos HC.out]
      ·have hC' : ((out.length : Int) == 16384) = false := beq_eq_false_iff_ne.2 (by omega)
       have hlen := HS.out.len
       gi_wp2_with (gi_at_builtin; refine MZ (fun _ => trivial) rfl _ _ 54 rfl 59 4 40 _ Tryz.underlying54 Tryz.infoToken rfl (by decide) (.slice Av out.length cv) out.length _ rfl (HS.out.row.same (Ad.alloc [] W2 _) (by simp)) [.string x.word.text, .int .i64 x.word.at_.off, .int .i64 x.word.at_.line, .int .i64 x.word.at_.col] (W2.heap.size + 1) (by simp) rfl rfl (by simp [Value.oneCell']) (by omega) (by decide) ?_; intro v1 W5 hrow5 hsm5 hor5; obtain ⟨A5, c5, rfl⟩ := hrow5.shape; have g2 := hsm5.get (AR HS.out.r2 _) (fun hm => by have := HS.out.vlo _ (Option.mem_toList.1 hm); omega); have g2f := AE g2; have g2c := Ai (i := 0) (v := .slice Av out.length cv) g2 rfl)
       have hpush := HS.out.push h9 x.word ((Ad.alloc _ W2 _).trans hsm5) hrow5 (by
        rcases hor5 with h5 | ⟨b, hb5, hle⟩
        ·exact .inl h5
        ·exact .inr ⟨b, hb5, by simp at hle; omega⟩) (by omega)
       refine ⟨by rw [hs0]; exact hpush.2, out ++ [x.word], none, _, _, hpush.1, fun suf' => ?_⟩
       rw [List.append_assoc, List.singleton_append, Hgo.out, BX, if_neg (by simp [Hc.out])]
       try dsimp only
       rw [if_neg (by rw [← Tl.out]; simpa using hA), if_neg (by rw [← Tl.out]; simpa using hB), if_neg hC]
   ·by_cases hB : (x.word.text.toList == [36, 41]) = true
    ·gi_wp2
     refine ⟨by rw [hs0]; exact (HS.out.setClosed h9 _).2, out, none, _, _, (HS.out.setClosed h9 _).1, fun suf' => ?_⟩
     rw [List.append_assoc, List.singleton_append, Hgo.out, BX, if_neg (by simp [Hc.out])]
     try dsimp only
     rw [if_pos (by rw [← Tl.out]; simpa using hB)]
    ·replace hB : (x.word.text.toList == [36, 41]) = false := by simpa using hB
     obtain ⟨m, hm⟩ := hl2
     have hma := fun o => (Ad.alloc [] W2 o).cell hm (by simp)
     have hT : ∀ c : Int, (c = 0 → False) → True := fun _ _ => trivial
     by_cases h1 : Lib.contains x.word.text.data.toList [36, 40] = true
     ·gi_wp2_with (gi_at_call 104; refine (CallsIn.inRound l ((callsIn_wide (n := 0)).2 (Tryz.strings_Contains x.word.text _ m _ (by omega) (hma _)))).mono ?_; rintro e' W5 ⟨rfl, rfl⟩)
      obtain ⟨W3, hW3⟩ : ∃ W3, W2.alloc (AP x.word) = W3 := ⟨_, rfl⟩
      have hsa : Ad [] W2 W3 := by rw [← hW3]; exact Ad.alloc _ _ _
      have htk : W3.heap[W2.heap.size]? = some (AP x.word) := by rw [← hW3]; exact Aj _ _
      have hW3' : W2.alloc (.cells #[.string x.word.text, .int .i64 x.word.at_.off, .int .i64 x.word.at_.line, .int .i64 x.word.at_.col] 59) = W3 := hW3
      rw [hW3']
      clear hW3 hW3' e0a e1a e2a e3a i4a f0a f1a f2a f3a i0 i1 i2 i3 iF
      obtain ⟨k0, k1, k2, k3, kf⟩ := At htk
      have hS3 := HS.out.same hsa (by simp)
      replace e0 := Ai (i := 0) (v := .slice none 0 0) hS3.r0 rfl
      replace e1 := Ai (i := 0) (v := .pointer none) hS3.r1 rfl
      replace e2 := Ai (i := 0) (v := .slice Av out.length cv) hS3.r2 rfl
      replace i4 := hsa.cell i4 (by simp)
      refine CJ (fun _ => trivial) (.read 0 (.read 1 (.one 2 [0] (.one 3 [] (.one 4 [] (.done)))))) (by kernel_rfl) (by kernel_rfl) ?_
      iterate 2 (refine C9 rfl (fun K hK => ?_); go_simp; (try go_bits); refine hK _ ?_; clear hK K)
      refine Bk (fun _ => trivial) rfl ?_
      gi_wp2_with (gi_at_call 103; refine (CallsIn.inRound l ((callsIn_wide (n := 0)).2 (Df x.word 11 _))).mono ?_; rintro e' W4 ⟨b4, rfl, hb4, hf4, hs4⟩)
      have hsb : Ad [] W2 W4 := hsa.trans ((Ad.drew [] W3).trans hs4)
      have hS4 := HS.out.same hsb (by simp)
      replace e0 := Ai (i := 0) (v := .slice none 0 0) hS4.r0 rfl
      replace e1 := Ai (i := 0) (v := .pointer none) hS4.r1 rfl
      replace e2 := Ai (i := 0) (v := .slice Av out.length cv) hS4.r2 rfl
      replace f0 := AE hS4.r0
      replace f1 := AE hS4.r1
      refine EQI.mk rfl ?_ ?_
      ·exact zq44
      refine Bk (fun _ => trivial) rfl ?_
      gi_wp2
      refine EQI.mk rfl ?_ ?_
      ·repeat (first | exact BJ | (refine Br rfl ?_))
      refine Bk (fun _ => trivial) rfl ?_
      gi_wp2
      refine EQI.mk rfl ?_ ?_
      ·repeat (first | exact BJ | (refine Br rfl ?_))
      refine Dc ?_
      gi_wp2
      have hb4' : W2.heap.size ≤ b4 := Nat.le_trans hsa.size hb4
      have hlt := hS4.lt
      have hlt2 := HS.out.lt
      have hfin : Ad [w.heap.size, w.heap.size + 1] W2 ((W4.setCell ⟨w.heap.size, 0, none⟩ (.slice Av out.length cv)).setCell ⟨w.heap.size + 1, 0, none⟩ (.pointer (some ⟨b4, 0, none⟩))) :=
       ((hsb.mono (by simp)).set _ _ (by simp)).set _ _ (by simp)
      refine ⟨Ch.of_same hfin (by intro b hb; simp at hb; omega) (by omega), rfl, out, x.word, 11, ⟨?_, ⟨.slice Av out.length cv, b4, ?_, ?_, ?_, hS4.vlo, by omega, ?_⟩, rfl⟩, ?_⟩
      ·exact zq59
      ·simp [Az, hS4.r0, AV]
      ·simp [Az, hS4.r1, AV]
      ·exact zq41
      ·exact zq42
      intro suf'
      rw [List.append_assoc, List.singleton_append, Hgo.out, BX, if_neg (by simp [Hc.out])]
      try dsimp only
      rw [if_neg (by rw [← Tl.out]; simpa using hB), if_pos (by simp [h1])]
     ·replace h1 : Lib.contains x.word.text.data.toList [36, 40] = false := by simpa using h1
      by_cases h2 : Lib.contains x.word.text.data.toList [36, 41] = true
      ·gi_wp2_with (gi_at_call 104; refine (CallsIn.inRound l ((callsIn_wide (n := 0)).2 (Tryz.strings_Contains x.word.text _ m _ (by omega) (hma _)))).mono ?_; rintro e' W5 ⟨rfl, rfl⟩)
       obtain ⟨W3, hW3⟩ : ∃ W3, W2.alloc (AP x.word) = W3 := ⟨_, rfl⟩
       have hsa : Ad [] W2 W3 := by rw [← hW3]; exact Ad.alloc _ _ _
       have htk : W3.heap[W2.heap.size]? = some (AP x.word) := by rw [← hW3]; exact Aj _ _
       have hW3' : W2.alloc (.cells #[.string x.word.text, .int .i64 x.word.at_.off, .int .i64 x.word.at_.line, .int .i64 x.word.at_.col] 59) = W3 := hW3
       rw [hW3']
       clear hW3 hW3' e0a e1a e2a e3a i4a f0a f1a f2a f3a i0 i1 i2 i3 iF
       obtain ⟨k0, k1, k2, k3, kf⟩ := At htk
       have hS3 := HS.out.same hsa (by simp)
       replace e0 := Ai (i := 0) (v := .slice none 0 0) hS3.r0 rfl
       replace e1 := Ai (i := 0) (v := .pointer none) hS3.r1 rfl
       replace e2 := Ai (i := 0) (v := .slice Av out.length cv) hS3.r2 rfl
       replace i4 := hsa.cell i4 (by simp)
       refine CJ (fun _ => trivial) (.read 0 (.read 1 (.one 2 [0] (.one 3 [] (.one 4 [] (.done)))))) (by kernel_rfl) (by kernel_rfl) ?_
       iterate 2 (refine C9 rfl (fun K hK => ?_); go_simp; (try go_bits); refine hK _ ?_; clear hK K)
       refine Bk (fun _ => trivial) rfl ?_
       gi_wp2_with (gi_at_call 103; refine (CallsIn.inRound l ((callsIn_wide (n := 0)).2 (Df x.word 11 _))).mono ?_; rintro e' W4 ⟨b4, rfl, hb4, hf4, hs4⟩)
       have hsb : Ad [] W2 W4 := hsa.trans ((Ad.drew [] W3).trans hs4)
       have hS4 := HS.out.same hsb (by simp)
       replace e0 := Ai (i := 0) (v := .slice none 0 0) hS4.r0 rfl
       replace e1 := Ai (i := 0) (v := .pointer none) hS4.r1 rfl
       replace e2 := Ai (i := 0) (v := .slice Av out.length cv) hS4.r2 rfl
       replace f0 := AE hS4.r0
       replace f1 := AE hS4.r1
       refine EQI.mk rfl ?_ ?_
       ·exact zq44
       refine Bk (fun _ => trivial) rfl ?_
       gi_wp2
       refine EQI.mk rfl ?_ ?_
       ·repeat (first | exact BJ | (refine Br rfl ?_))
       refine Bk (fun _ => trivial) rfl ?_
       gi_wp2
       refine EQI.mk rfl ?_ ?_
       ·repeat (first | exact BJ | (refine Br rfl ?_))
       refine Dc ?_
       gi_wp2
       have hb4' : W2.heap.size ≤ b4 := Nat.le_trans hsa.size hb4
       have hlt := hS4.lt
       have hlt2 := HS.out.lt
       have hfin : Ad [w.heap.size, w.heap.size + 1] W2 ((W4.setCell ⟨w.heap.size, 0, none⟩ (.slice Av out.length cv)).setCell ⟨w.heap.size + 1, 0, none⟩ (.pointer (some ⟨b4, 0, none⟩))) :=
        ((hsb.mono (by simp)).set _ _ (by simp)).set _ _ (by simp)
       refine ⟨Ch.of_same hfin (by intro b hb; simp at hb; omega) (by omega), rfl, out, x.word, 11, ⟨?_, ⟨.slice Av out.length cv, b4, ?_, ?_, ?_, hS4.vlo, by omega, ?_⟩, rfl⟩, ?_⟩
       ·exact zq59
       ·simp [Az, hS4.r0, AV]
       ·simp [Az, hS4.r1, AV]
       ·exact zq41
       ·exact zq42
       intro suf'
       rw [List.append_assoc, List.singleton_append, Hgo.out, BX, if_neg (by simp [Hc.out])]
       try dsimp only
       rw [if_neg (by rw [← Tl.out]; simpa using hB), if_pos (by simp [h2])]
      ·replace h2 : Lib.contains x.word.text.data.toList [36, 41] = false := by simpa using h2
       gi_wp2_with (gi_at_call 104; refine (CallsIn.inRound l ((callsIn_wide (n := 0)).2 (Tryz.strings_Contains x.word.text _ m _ (by omega) (hma _)))).mono ?_; rintro e' W5 ⟨rfl, rfl⟩)
       refine ⟨Ch.of_same (Ad.alloc [] W2 _) (by simp) (by omega), out, some o, _, _, HS.out.same (Ad.alloc [] W2 _) (by simp), fun suf' => ?_⟩
       rw [List.append_assoc, List.singleton_append, Hgo.out, BX, if_neg (by simp [Hc.out])]
       try dsimp only
       rw [if_neg (by rw [← Tl.out]; simpa using hB), if_neg (by simp [h1, h2])]
  ·have hc' : (x.code != 0) = true := by simpa using hcode
   have Hc := Kd hcode
   clear hcode
   have hopn := HS.out.opn
   gi_wp2
   obtain ⟨W3, hW3⟩ : ∃ W3, W2.alloc (AP x.word) = W3 := ⟨_, rfl⟩
   have hsa : Ad [] W2 W3 := by rw [← hW3]; exact Ad.alloc _ _ _
   have htk : W3.heap[W2.heap.size]? = some (AP x.word) := by rw [← hW3]; exact Aj _ _
   have hW3' : W2.alloc (.cells #[.string x.word.text, .int .i64 x.word.at_.off, .int .i64 x.word.at_.line, .int .i64 x.word.at_.col] 59) = W3 := hW3
   rw [hW3']
   clear hW3 hW3' e0a e1a e2a e3a i4a f0a f1a f2a f3a i0 i1 i2 i3 iF
   obtain ⟨k0, k1, k2, k3, kf⟩ := At htk
   have hS3 := HS.out.same hsa (by simp)
   replace e0 := Ai (i := 0) (v := .slice none 0 0) hS3.r0 rfl
   replace e1 := Ai (i := 0) (v := .pointer none) hS3.r1 rfl
   replace e2 := Ai (i := 0) (v := .slice Av out.length cv) hS3.r2 rfl
   replace i4 := hsa.cell i4 (by simp)
   refine CJ (fun _ => trivial) (.read 0 (.read 1 (.read 2 (.read 3 (.one 4 [0] (.one 5 [] (.one 6 [] (.done)))))))) (by kernel_rfl) (by kernel_rfl) ?_
   iterate 4 (refine C9 rfl (fun K hK => ?_); go_simp; (try go_bits); refine hK _ ?_; clear hK K)
   refine Bk (fun _ => trivial) rfl ?_
   gi_wp2_with (gi_at_call 103; refine (CallsIn.inRound l ((callsIn_wide (n := 0)).2 (Df x.word x.code _))).mono ?_; rintro e' W4 ⟨b4, rfl, hb4, hf4, hs4⟩)
   have hsb : Ad [] W2 W4 := hsa.trans ((Ad.drew [] W3).trans hs4)
   have hS4 := HS.out.same hsb (by simp)
   replace e0 := Ai (i := 0) (v := .slice none 0 0) hS4.r0 rfl
   replace e1 := Ai (i := 0) (v := .pointer none) hS4.r1 rfl
   replace e2 := Ai (i := 0) (v := .slice Av out.length cv) hS4.r2 rfl
   replace f0 := AE hS4.r0
   replace f1 := AE hS4.r1
   refine EQI.mk rfl ?_ ?_
   ·exact zq44
   refine Bk (fun _ => trivial) rfl ?_
   gi_wp2
   refine EQI.mk rfl ?_ ?_
   ·repeat (first | exact BJ | (refine Br rfl ?_))
   refine Bk (fun _ => trivial) rfl ?_
   gi_wp2
   refine EQI.mk rfl ?_ ?_
   ·repeat (first | exact BJ | (refine Br rfl ?_))
   refine Dc ?_
   gi_wp2
   have hb4' : W2.heap.size ≤ b4 := Nat.le_trans hsa.size hb4
   have hlt := hS4.lt
   have hlt2 := HS.out.lt
   have hfin : Ad [w.heap.size, w.heap.size + 1] W2 ((W4.setCell ⟨w.heap.size, 0, none⟩ (.slice Av out.length cv)).setCell ⟨w.heap.size + 1, 0, none⟩ (.pointer (some ⟨b4, 0, none⟩))) :=
    ((hsb.mono (by simp)).set _ _ (by simp)).set _ _ (by simp)
   refine ⟨Ch.of_same hfin (by intro b hb; simp at hb; omega) (by omega), rfl, out, x.word, x.code, ⟨?_, ⟨.slice Av out.length cv, b4, ?_, ?_, ?_, hS4.vlo, by omega, ?_⟩, rfl⟩, ?_⟩
   ·exact zq59
   ·simp [Az, hS4.r0, AV]
   ·simp [Az, hS4.r1, AV]
   ·exact zq41
   ·exact zq42
   intro suf'
   rw [List.append_assoc, List.singleton_append, Hgo.out]
   unfold BX
   rw [if_pos Hc.out]
 case done =>
  rintro W ⟨out, op, v, p, hS, hgo⟩ hK
  have hgo' := hgo []
  rw [List.append_nil] at hgo'
  obtain ⟨Av, cv, rfl⟩ := hS.row.shape
  have e0 := Ai (i := 0) (v := .slice none 0 0) hS.r0 rfl
  have e1 := Ai (i := 0) (v := .pointer none) hS.r1 rfl
  have e2 := Ai (i := 0) (v := .slice Av out.length cv) hS.r2 rfl
  have e3 := Ai (i := 0) (v := p) hS.r3 rfl
  have f0 := AE hS.r0
  have f1 := AE hS.r1
  have HS := Kd hS
  have Hgo := Kd hgo'
  have HK := Kd hK
  have Hs0 := Kd hs0
  clear hS hgo hgo' hK hs0
  rcases HS.out.opn with ⟨rfl, rfl⟩ | ⟨o, b, rfl, rfl, hbl, hbo, hvb⟩
  ·gi_wp2
   have hlt := HS.out.lt
   have hs0 := Hs0.out
   have hfin : Ad [w.heap.size, w.heap.size + 1] W ((W.setCell ⟨w.heap.size, 0, none⟩ (.slice Av out.length cv)).setCell ⟨w.heap.size + 1, 0, none⟩ (.pointer none)) :=
    ((Ad.refl _ W).set _ _ (by simp)).set _ _ (by simp)
   have hK := hfin.get HK.out (by simp <;> omega)
   refine ⟨by simp, .inl ⟨_, _, rfl, run_takeDeferred hK, ?_⟩⟩
   have hsc : BM t = (out, none) := Hgo.out.trans rfl
   refine F1 (by omega) rfl rfl (v := .slice Av out.length cv) (f := .pointer none) (HS.out.base.then hfin (fun y hy => .inr (by simp at hy; omega))) (Ai (i := 0) (v := .slice Av out.length cv) (b := w.heap.size) (cs := #[.slice Av out.length cv]) (t := 54) (fr := (0, 0)) ?_ rfl) (Ai (b := w.heap.size + 1) (cs := #[.pointer none]) (t := 29) (fr := (0, 0)) ?_ rfl) ?_ HS.out.vlo ?_ ?_ hK
   ·simp [Az, HS.out.r0, AV]
   ·simp [Az, HS.out.r1, AV]
   ·rw [hsc]; exact HS.out.row.same hfin (fun b hb hm => by have := HS.out.vlo b hb; simp at hm; omega)
   ·rw [hsc]; rfl
   ·intro b hb; cases hb
  ·have Hbo := Kd hbo
   obtain ⟨k0, k1, k2, k3, kf⟩ := At hbo
   gi_wp2
   refine CJ (fun _ => trivial) (.read 0 (.read 1 (.read 2 (.read 3 (.one 4 [0] (.one 5 [] (.one 6 [] (.done)))))))) (by kernel_rfl) (by kernel_rfl) ?_
   iterate 4 (refine C9 rfl (fun K hK => ?_); go_simp; (try go_bits); refine hK _ ?_; clear hK K)
   refine Bk (fun _ => trivial) rfl ?_
   gi_wp2_with (gi_at_call 103; refine ((callsIn_wide (n := 0)).2 (Df o 12 _)).mono ?_; rintro e' W4 ⟨b4, rfl, hb4, hf4, hs4⟩)
   have hsb : Ad [] W W4 := (Ad.drew [] W).trans hs4
   have hS4 := HS.out.same hsb (by simp)
   replace e0 := Ai (i := 0) (v := .slice none 0 0) hS4.r0 rfl
   replace e1 := Ai (i := 0) (v := .pointer none) hS4.r1 rfl
   replace e2 := Ai (i := 0) (v := .slice Av out.length cv) hS4.r2 rfl
   replace f0 := AE hS4.r0
   replace f1 := AE hS4.r1
   refine EQI.mk rfl ?_ ?_
   ·exact zq44
   refine Bk (fun _ => trivial) rfl ?_
   gi_wp2
   refine EQI.mk rfl ?_ ?_
   ·repeat (first | exact BJ | (refine Br rfl ?_))
   refine Bk (fun _ => trivial) rfl ?_
   gi_wp2
   refine EQI.mk rfl ?_ ?_
   ·repeat (first | exact BJ | (refine Br rfl ?_))
   refine Dc ?_
   gi_wp2
   have hlt := Af Hbo.out
   have hs0 := Hs0.out
   have hb4' : W.heap.size ≤ b4 := hb4
   have hfin : Ad [w.heap.size, w.heap.size + 1] W4 ((W4.setCell ⟨w.heap.size, 0, none⟩ (.slice Av out.length cv)).setCell ⟨w.heap.size + 1, 0, none⟩ (.pointer (some ⟨b4, 0, none⟩))) :=
    ((Ad.refl _ W4).set _ _ (by simp)).set _ _ (by simp)
   have hK := hfin.get (hsb.get HK.out (by simp)) (by simp <;> omega)
   have hsc : BM t = (out, some (o, 12)) := Hgo.out.trans rfl
   refine ⟨by simp, .inl ⟨_, _, rfl, run_takeDeferred hK, ?_⟩⟩
   refine F1 (by omega) rfl rfl (v := .slice Av out.length cv) (f := .pointer (some ⟨b4, 0, none⟩)) (hS4.base.then hfin (fun y hy => .inr (by simp at hy; omega))) (Ai (i := 0) (v := .slice Av out.length cv) (b := w.heap.size) (cs := #[.slice Av out.length cv]) (t := 54) (fr := (0, 0)) ?_ rfl) (Ai (b := w.heap.size + 1) (cs := #[.pointer (some ⟨b4, 0, none⟩)]) (t := 29) (fr := (0, 0)) ?_ rfl) ?_ HS.out.vlo ?_ ?_ hK
   ·simp [Az, hS4.r0, AV]
   ·simp [Az, hS4.r1, AV]
   ·rw [hsc]; exact hS4.row.same hfin (fun b hb hm => by have := hS4.vlo b hb; simp at hm; omega)
   ·rw [hsc]; exact ⟨b4, rfl, hfin.get hf4 (fun hm => by simp at hm; omega)⟩
   ·intro c hc; cases hc; omega
 case stop =>
  rintro c pre suf W hxs ⟨rfl, out, x, e, hS, hgo⟩ hK
  gi_wp2
  obtain ⟨v, b, h0, h1, hrow, hv, hb9, hbf⟩ := hS.res
  have hsc : BM t = (out, some (x, e)) := by unfold BM; rw [hxs]; exact hgo suf
  refine ⟨by simp, .inl ⟨_, _, rfl, run_takeDeferred hK, ?_⟩⟩
  refine F1 (by omega) rfl rfl (v := v) (f := .pointer (some ⟨b, 0, none⟩)) hS.base (Ai h0 rfl) (Ai h1 rfl) ?_ hv ?_ ?_ hK
  ·rw [hsc]; exact hrow
  ·rw [hsc]; exact ⟨b, rfl, hbf⟩
  ·intro c hc; cases hc; exact hb9
end Go.Proofs.YtbfbgfpghkijdaaGreatDoor
