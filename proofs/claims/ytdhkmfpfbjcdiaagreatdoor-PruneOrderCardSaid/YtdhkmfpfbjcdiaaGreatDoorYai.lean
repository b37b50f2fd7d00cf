/- lemmalaw texts, part 9. -/
import Derived.Test.YtdhkmfpfbjcdiaaGreatDoorYae
import Derived.Test.YtdhkmfpfbjcdiaaGreatDoorYah
set_option maxRecDepth 100000
set_option linter.unusedVariables false
set_option linter.unusedSimpArgs false
set_option maxHeartbeats 32000000
namespace Go.Proofs.YtdhkmfpfbjcdiaaGreatDoor
open Go.RowKit
attribute [local go_sem] Oper.semAt_some
theorem Tryz.infoToken : (Tryz.prog.info? 54).map (fun i => (i.zero, i.size, i.bytes)) = some (some (.agg #[.string ByteArray.empty, .int .i64 0, .int .i64 0, .int .i64 0]), 4, 40) := by kernel_rfl
def tkCells (l : List Tk) : List Value := l.flatMap Tk.cells
def LibCell (w : World) : Prop := ∃ m : Int, w.cell? ⟨0, 0, none⟩ = some (.int .i64 m)
theorem items_calls (t : ByteArray) (w : World) : Calls Tryz.prog 109 #[.string t] w fun e w' => e = .returned (.func (.func 154) #[] #[.pointer (some ⟨w.heap.size, 0, none⟩)]) ∧
  w'.heap.size = w.heap.size + 1 ∧ w'.cell? ⟨w.heap.size, 0, none⟩ = some (.string t) ∧ Same [] w w' := by
 go_enter Tryz.func109, Tryz.ntmps109
 go_wp2
 go_ret
 exact ⟨rfl, by simp, blk_c (blk_new _ _), Same.alloc _ _ _⟩
structure ScanAt (lo : Nat) (t : ByteArray) (out : List Tk) (op : Option Tk) (v p : Value) (w W : World) : Prop where
 base : Same [] w W
 r0 : W.heap[lo]? = some (.cells #[.slice none 0 0] 50 (0, 0))
 r1 : W.heap[lo + 1]? = some (.cells #[.pointer none] 24 (0, 0))
 r2 : W.heap[lo + 1 + 1]? = some (.cells #[v] 50 (0, 0))
 r3 : W.heap[lo + 1 + 1 + 1]? = some (.cells #[p] 135 (0, 0))
 txt : W.cell? ⟨lo + 1 + 1 + 1 + 1, 0, none⟩ = some (.string t)
 row : Row W 54 4 v out.length (tkCells out)
 vlo : ∀ b, v.ownBlock = some b → lo + 9 ≤ b
 opn : (op = none ∧ p = .pointer none) ∨ ∃ o b, op = some o ∧ p = .pointer (some ⟨b, 0, none⟩) ∧ lo + 9 ≤ b ∧ W.heap[b]? = some (tokBlk o) ∧ v.ownBlock ≠ some b
 len : out.length ≤ 16384
 lt : lo + 5 ≤ W.heap.size
 sz : lo = w.heap.size
theorem ScanAt.same {lo : Nat} {t : ByteArray} {out : List Tk} {op : Option Tk} {v p : Value} {w W W' : World} {S : List Nat} (h : ScanAt lo t out op v p w W) (hs : Same S W W') (hS : ∀ b ∈ S, lo + 5 ≤ b ∧ b < lo + 9) : ScanAt lo t out op v p w W' := {
 base := h.base.then hs (fun x hx => .inr (by have := hS x hx; have := h.sz; omega))
 r0 := hs.get h.r0 (fun hm => by have := hS _ hm; omega)
 r1 := hs.get h.r1 (fun hm => by have := hS _ hm; omega)
 r2 := hs.get h.r2 (fun hm => by have := hS _ hm; omega)
 r3 := hs.get h.r3 (fun hm => by have := hS _ hm; omega)
 txt := hs.cell h.txt (fun hm => by have := hS _ hm; omega)
 row := h.row.same hs (fun b hb hm => by have := hS _ hm; have := h.vlo b hb; omega)
 vlo := h.vlo
 opn := by
  rcases h.opn with h1 | ⟨o, b, h1, h2, h3, h4, h5⟩
  ·exact .inl h1
  ·exact .inr ⟨o, b, h1, h2, h3, hs.get h4 (fun hm => by have := hS _ hm; omega), h5⟩
 len := h.len
 lt := Nat.le_trans h.lt hs.size
 sz := h.sz }
structure ScanRes (lo : Nat) (out : List Tk) (x : Tk) (e : Int) (w W : World) : Prop where
 base : Same [] w W
 res : ∃ v b, W.heap[lo]? = some (.cells #[v] 50 (0, 0)) ∧ W.heap[lo + 1]? = some (.cells #[.pointer (some ⟨b, 0, none⟩)] 24 (0, 0)) ∧ Row W 54 4 v out.length (tkCells out) ∧
  (∀ c, v.ownBlock = some c → lo + 9 ≤ c) ∧ lo + 9 ≤ b ∧ W.heap[b]? = some (fltBlk ⟨x.at_, x.text, e⟩)
 sz : lo = w.heap.size
theorem ScanRes.same {lo : Nat} {out : List Tk} {x : Tk} {e : Int} {w W W' : World} {S : List Nat} (h : ScanRes lo out x e w W) (hs : Same S W W') (hS : ∀ b ∈ S, lo + 5 ≤ b ∧ b < lo + 9) : ScanRes lo out x e w W' := {
 base := h.base.then hs (fun x hx => .inr (by have := hS x hx; have := h.sz; omega))
 res := by
  obtain ⟨v, b, h1, h2, h3, h4, h5, h6⟩ := h.res
  exact ⟨v, b, hs.get h1 (fun hm => by have := hS _ hm; omega), hs.get h2 (fun hm => by have := hS _ hm; omega), h3.same hs (fun b hb hm => by have := hS _ hm; have := h4 b hb; omega), h4, h5, hs.get h6 (fun hm => by have := hS _ hm; omega)⟩
 sz := h.sz }
theorem tk_one (x : Tk) : ∀ u ∈ x.cells, u.oneCell' = true := by simp [Tk.cells, Ps.cells, Value.oneCell']
theorem ScanAt.setOpen {lo : Nat} {t : ByteArray} {out : List Tk} {op : Option Tk} {v p : Value} {w W : World} (h : ScanAt lo t out op v p w W) (h9 : lo + 9 ≤ W.heap.size) (x : Tk) :
  ScanAt lo t out (some x) v (.pointer (some ⟨W.heap.size, 0, none⟩)) w ((W.alloc (tokBlk x)).setCell ⟨lo + 1 + 1 + 1, 0, none⟩ (.pointer (some ⟨W.heap.size, 0, none⟩))) ∧
  Stays (lo + 1 + 1 + 1 + 1 + 1) 4 W ((W.alloc (tokBlk x)).setCell ⟨lo + 1 + 1 + 1, 0, none⟩ (.pointer (some ⟨W.heap.size, 0, none⟩))) := by
 have hs : Same [lo + 1 + 1 + 1] W ((W.alloc (tokBlk x)).setCell ⟨lo + 1 + 1 + 1, 0, none⟩ (.pointer (some ⟨W.heap.size, 0, none⟩))) := (Same.alloc _ W _).set _ _ (by simp)
 have hlt := h.lt
 have hsz := h.sz
 have hr3 := h.r3
 refine ⟨⟨h.base.then hs (fun y hy => .inr (by simp at hy; omega)), hs.get h.r0 (by simp <;> omega), hs.get h.r1 (by simp <;> omega), hs.get h.r2 (by simp), ?_, hs.cell h.txt (by simp), h.row.same hs (fun b hb hm => by have := h.vlo b hb; simp at hm; omega), h.vlo,
  .inr ⟨x, _, rfl, rfl, by omega, ?_, fun e => ?_⟩, h.len, Nat.le_trans hlt hs.size, hsz⟩, Stays.of_same hs (by simp <;> omega) (by omega)⟩
 ·simp [heap_setCell, blk_old hr3, cellPut]
 ·have : W.heap.size ≠ lo + 1 + 1 + 1 := by omega
  have := (Same.setCell (W.alloc (tokBlk x)) ⟨lo + 1 + 1 + 1, 0, none⟩ (.pointer (some ⟨W.heap.size, 0, none⟩)) (S := [lo + 1 + 1 + 1]) (by simp)).get (blk_new W (tokBlk x)) (by simp <;> omega)
  exact this
 ·have := h.row.lt e
  omega
theorem ScanAt.setClosed {lo : Nat} {t : ByteArray} {out : List Tk} {op : Option Tk} {v p : Value} {w W : World} (h : ScanAt lo t out op v p w W) (h9 : lo + 9 ≤ W.heap.size) (o : Obj) :
  ScanAt lo t out none v (.pointer none) w ((W.alloc o).setCell ⟨lo + 1 + 1 + 1, 0, none⟩ (.pointer none)) ∧ Stays (lo + 1 + 1 + 1 + 1 + 1) 4 W ((W.alloc o).setCell ⟨lo + 1 + 1 + 1, 0, none⟩ (.pointer none)) := by
 have hs : Same [lo + 1 + 1 + 1] W ((W.alloc o).setCell ⟨lo + 1 + 1 + 1, 0, none⟩ (.pointer none)) := (Same.alloc _ W _).set _ _ (by simp)
 have hlt := h.lt
 have hsz := h.sz
 have hr3 := h.r3
 refine ⟨⟨h.base.then hs (fun y hy => .inr (by simp at hy; omega)), hs.get h.r0 (by simp <;> omega), hs.get h.r1 (by simp <;> omega), hs.get h.r2 (by simp), ?_, hs.cell h.txt (by simp), h.row.same hs (fun b hb hm => by have := h.vlo b hb; simp at hm; omega), h.vlo,
  .inl ⟨rfl, rfl⟩, h.len, Nat.le_trans hlt hs.size, hsz⟩, Stays.of_same hs (by simp <;> omega) (by omega)⟩
 simp [heap_setCell, blk_old hr3, cellPut]
theorem ScanAt.push {lo : Nat} {t : ByteArray} {out : List Tk} {v v1 : Value} {w W W1 : World} (h : ScanAt lo t out none v (.pointer none) w W) (h9 : lo + 9 ≤ W.heap.size) (x : Tk) (hs : Same v.ownBlock.toList W W1) (hr : Row W1 54 4 v1 (out.length + 1) (tkCells out ++ x.cells))
  (ho : v1.ownBlock = v.ownBlock ∨ ∃ b, v1.ownBlock = some b ∧ W.heap.size ≤ b) (hlen : out.length < 16384) :
  ScanAt lo t (out ++ [x]) none v1 (.pointer none) w (W1.setCell ⟨lo + 1 + 1, 0, none⟩ v1) ∧ Stays (lo + 1 + 1 + 1 + 1 + 1) 4 W (W1.setCell ⟨lo + 1 + 1, 0, none⟩ v1) := by
 have hlt := h.lt
 have hsz := h.sz
 have hr2 := h.r2
 have hv1 : ∀ b, v1.ownBlock = some b → lo + 9 ≤ b := fun b hb => by
  rcases ho with ho | ⟨c, hc, hle⟩
  ·exact h.vlo b (by rw [← ho]; exact hb)
  ·rw [hc] at hb; cases hb; omega
 have hs' : Same ((lo + 1 + 1) :: v.ownBlock.toList) W (W1.setCell ⟨lo + 1 + 1, 0, none⟩ v1) := (hs.mono (fun y hy => .inl (List.mem_cons_of_mem _ hy))).set _ _ (by simp)
 have hno : ∀ b, b ∈ (lo + 1 + 1) :: v.ownBlock.toList → b = lo + 1 + 1 ∨ lo + 9 ≤ b := fun b hb => by
  rcases List.mem_cons.1 hb with rfl | hb
  ·exact .inl rfl
  ·exact .inr (h.vlo b (Option.mem_toList.1 hb))
 refine ⟨⟨h.base.then hs' (fun y hy => .inr (by have := hno y hy; omega)), hs'.get h.r0 (fun hm => by have := hno _ hm; omega), hs'.get h.r1 (fun hm => by have := hno _ hm; omega), ?_, hs'.get h.r3 (fun hm => by have := hno _ hm; omega),
  hs'.cell h.txt (fun hm => by have := hno _ hm; omega), ?_, hv1, .inl ⟨rfl, rfl⟩, by simp; omega, Nat.le_trans hlt hs'.size, hsz⟩, Stays.of_same hs' (fun b hb => by have := hno b hb; omega) (by omega)⟩
 ·have := hs.get hr2 (fun hm => by have := h.vlo _ (Option.mem_toList.1 hm); omega)
  simp [heap_setCell, this, cellPut]
 ·have := hr.same (Same.setCell W1 ⟨lo + 1 + 1, 0, none⟩ v1 (S := [lo + 1 + 1]) (by simp)) (fun b hb hm => by have := hv1 b hb; simp at hm; omega)
  simpa [tkCells] using this
def ScanI (lo : Nat) (t : ByteArray) (w : World) (pre : List It) (W : World) : Prop :=
 ∃ out op v p, ScanAt lo t out op v p w W ∧ ∀ suf, scanGo (pre ++ suf) [] none = scanGo suf out op
def ScanIx (lo : Nat) (w : World) (c : Code) (pre : List It) (W : World) : Prop :=
 c = .ret ∧ ∃ out x e, ScanRes lo out x e w W ∧ ∀ suf, scanGo (pre ++ suf) [] none = (out, some (x, e))
def fltOf (r : Option (Tk × Int)) : Option Flt := r.map fun p => ⟨p.1.at_, p.1.text, p.2⟩
def ScanR (t : ByteArray) (w : World) (e : Ending) (w' : World) : Prop :=
 ∃ v f, e = .returned (.tuple #[v, f]) ∧ Same [] w w' ∧ Row w' 54 4 v (scanOf t).1.length (tkCells (scanOf t).1) ∧ (∀ b, v.ownBlock = some b → w.heap.size ≤ b) ∧
   FltAt w' f (fltOf (scanOf t).2) ∧ (∀ b, f = .pointer (some ⟨b, 0, none⟩) → w.heap.size ≤ b)
theorem FltAt.same {S : List Nat} {w w' : World} {f : Value} {o : Option Flt} (h : FltAt w f o) (hs : Same S w w') (hn : ∀ b, f = .pointer (some ⟨b, 0, none⟩) → b ∉ S) : FltAt w' f o := by
 cases o with
 | none => exact h
 | some x => obtain ⟨b, h1, h2⟩ := h; exact ⟨b, h1, hs.get h2 (hn b h1)⟩
theorem scan_finish {t : ByteArray} {w X : World} {D : Nat} (hD : D = w.heap.size + 5) {tmps : Array Value} (ht2 : tmps.getD 2 undef = .pointer (some ⟨w.heap.size, 0, none⟩)) (ht3 : tmps.getD 3 undef = .pointer (some ⟨w.heap.size + 1, 0, none⟩))
  {v f : Value} (hbase : Same [] w X) (h0 : X.cell? ⟨w.heap.size, 0, none⟩ = some v) (h1 : X.cell? ⟨w.heap.size + 1, 0, none⟩ = some f)
  (hrow : Row X 54 4 v (scanOf t).1.length (tkCells (scanOf t).1)) (hv : ∀ b, v.ownBlock = some b → w.heap.size + 9 ≤ b)
  (hf : FltAt X f (fltOf (scanOf t).2)) (hfb : ∀ b, f = .pointer (some ⟨b, 0, none⟩) → w.heap.size + 9 ≤ b) (hK : X.heap[D]? = some (.deferred (some []))) :
  LeavesInM Fence.wide 0 Tryz.prog Tryz.f58 tmps (ScanR t w) [] .returning (X.putObj D (.deferred none)) := by
 have hp : Same [D] X (X.putObj D (.deferred none)) := Same.put _ hK
 have c0 := hp.cell h0 (by simp <;> omega)
 have c1 := hp.cell h1 (by simp <;> omega)
 refine ⟨.tuple #[v, f], ?_, v, f, rfl, hbase.then hp (by simp; omega), hrow.same hp (fun b hb hm => by have := hv b hb; simp at hm; omega), fun b hb => by have := hv b hb; omega, hf.same hp (fun b hb hm => by have := hfb b hb; simp at hm; omega), fun b hb => by have := hfb b hb; omega⟩
 simp only [Array.getD_eq_getD_getElem?] at ht2 ht3
 simp [results, Tryz.f58, go_sem, c0, c1, ht2, ht3]
theorem Scan_calls (t : ByteArray) (w : World) (ht : t.size ≤ maxLen) (hb : Blanks w) (hl : LibCell w) : Calls Tryz.prog 58 #[.string t] w (ScanR t w) := by
 refine (callsIn_wide (n := 0)).1 ?_
 refine callsIn_of_wp_marks Tryz.func58 rfl trivial ?_ rfl
 simp only [Tryz.ntmps58, List.size_toArray, List.length_cons, List.length_nil, Nat.reduceAdd, Nat.reduceSub, Array.replicate_succ, Array.replicate_zero, List.push_toArray, List.append_toArray, List.nil_append, List.cons_append]
 gi_wp2_with (gi_at_call 109; refine ((callsIn_wide (n := 0)).2 (items_calls t _)).mono ?_; rintro e W0 ⟨rfl, hs0, hc0, hsm0⟩)
 simp only [World.size_alloc] at hs0 hc0
 have hsm0' : Same [] w W0 := ((((Same.alloc [] w _).trans (Same.alloc [] _ _)).trans (Same.alloc [] _ _)).trans (Same.alloc [] _ _)).trans hsm0
 have hS0 : ScanAt w.heap.size t [] none (.slice none 0 0) (.pointer none) w W0 := by
  refine ⟨hsm0', hsm0.get (blk_old (blk_old (blk_old (blk_new w _) _) _) _) (by simp), hsm0.get (blk_old (blk_old ?_ _) _) (by simp), hsm0.get (blk_old ?_ _) (by simp), hsm0.get ?_ (by simp), hc0, World.ownsRow_nil _ _ _ _, by simp [Value.ownBlock], .inl ⟨rfl, rfl⟩, by simp, ?_, rfl⟩
  ·have := blk_new (w.alloc (.cells #[.slice none 0 0] 50)) (.cells #[.pointer none] 24); simpa using this
  ·have := blk_new ((w.alloc (.cells #[.slice none 0 0] 50)).alloc (.cells #[.pointer none] 24)) (.cells #[.slice none 0 0] 50); simpa using this
  ·have := blk_new (((w.alloc (.cells #[.slice none 0 0] 50)).alloc (.cells #[.pointer none] 24)).alloc (.cells #[.slice none 0 0] 50)) (.cells #[.pointer none] 135); simpa using this
  ·omega
 refine wp_tells (p := 2) (gf := 154) (lb := #[.pointer (some ⟨w.heap.size + 1 + 1 + 1 + 1, 0, none⟩)]) (encs := fun x : It => #[x.val])
  (Kp := fun W => W.cell? ⟨w.heap.size + 1 + 1 + 1 + 1, 0, none⟩ = some (.string t) ∧ Blanks W) (xs := itemsOf t) (by simp [Act.eval]) (enters_of Tryz.func154 (by kernel_rfl) rfl) (fun _ => rfl)
  (fun W hW => items_tells t _ W ht (by have := hW.size; omega)) (ScanI w.heap.size t w) (ScanIx w.heap.size w) ⟨[], none, _, _, hS0, fun _ => rfl⟩ ?kp ?hI ?hIx ?round ?done ?stop
 case kp =>
  rintro pre W ⟨out, op, v, p, hS, _⟩
  exact ⟨hS.txt, hb.same hS.base⟩
 case hI =>
  rintro pre S W1 W2 ⟨out, op, v, p, hS, hgo⟩ hsm hin
  exact ⟨out, op, v, p, hS.same hsm (fun b hb => by have := hin b hb; omega), hgo⟩
 case hIx =>
  rintro c pre S W1 W2 ⟨hc, out, x, e, hS, hgo⟩ hsm hin
  exact ⟨hc, out, x, e, hS.same hsm (fun b hb => by have := hin b hb; omega), hgo⟩
 case round =>
  rintro l pre x suf W hxs ⟨out, op, v, p, hS, hgo⟩ hsz
  dsimp only [It.val]
  gi_wp2
  refine ⟨fun b h1 h2 => (Same.alloc [] W _).block b (by omega) (by simp), (Same.alloc [] W _).size, ?_⟩
  intro W2 hsm2
  have hsm := (Same.alloc [W0.heap.size + 1] W (.cells #[.string x.word.text, .int .i64 x.word.at_.off, .int .i64 x.word.at_.line, .int .i64 x.word.at_.col, .int .i64 x.code] 186)).trans hsm2
  have hS2 := hS.same hsm (fun b hb => by simp at hb; omega)
  have hblk := hsm2.get (blk_new W (.cells #[.string x.word.text, .int .i64 x.word.at_.off, .int .i64 x.word.at_.line, .int .i64 x.word.at_.col, .int .i64 x.code] 186)) (by simp; omega)
  have hb2 : Blanks W2 := hb.same hS2.base
  have hl2 : LibCell W2 := by obtain ⟨m, hm⟩ := hl; exact ⟨m, hS2.base.cell hm (by simp)⟩
  have hszW := hsm.size
  have h9 : w.heap.size + 9 ≤ W2.heap.size := by omega
  obtain ⟨i0, i1, i2, i3, i4, iF⟩ : W2.cell? ⟨W.heap.size, 0, none⟩ = some (.string x.word.text) ∧ W2.cell? ⟨W.heap.size, 1, none⟩ = some (.int .i64 x.word.at_.off) ∧ W2.cell? ⟨W.heap.size, 2, none⟩ = some (.int .i64 x.word.at_.line) ∧
    W2.cell? ⟨W.heap.size, 3, none⟩ = some (.int .i64 x.word.at_.col) ∧ W2.cell? ⟨W.heap.size, 4, none⟩ = some (.int .i64 x.code) ∧ ∀ i, W2.frozen? ⟨W.heap.size, i, none⟩ = false := ⟨blk_c hblk, blk_c hblk, blk_c hblk, blk_c hblk, blk_c hblk, blk_free hblk⟩
  have hWs2 : W.heap.size + 1 ≤ W2.heap.size := by have := blk_lt hblk; omega
  have e0 := blk_c (i := 0) (v := .slice none 0 0) hS2.r0 rfl
  have e1 := blk_c (i := 0) (v := .pointer none) hS2.r1 rfl
  have e2 := blk_c (i := 0) (v := v) hS2.r2 rfl
  have e3 := blk_c (i := 0) (v := p) hS2.r3 rfl
  have f0 := blk_free hS2.r0
  have f1 := blk_free hS2.r1
  have f2 := blk_free hS2.r2
  have f3 := blk_free hS2.r3
  have fz : ∀ {b : Nat} {cs : Array Value} {T : TypeId}, W2.heap[b]? = some (.cells cs T (0, 0)) → ∀ o i, (W2.alloc o).frozen? ⟨b, i, none⟩ = false := fun h o i => blk_free (blk_old h o) i
  have i4a := fun o => (Same.alloc [] W2 o).cell i4 (by simp)
  have e0a := fun o => (Same.alloc [] W2 o).cell e0 (by simp)
  have e1a := fun o => (Same.alloc [] W2 o).cell e1 (by simp)
  have e2a := fun o => (Same.alloc [] W2 o).cell e2 (by simp)
  have e3a := fun o => (Same.alloc [] W2 o).cell e3 (by simp)
  have f0a := fz hS2.r0
  have f1a := fz hS2.r1
  have f2a := fz hS2.r2
  have f3a := fz hS2.r3
  clear fz
  have hxm : x.word.text.size ≤ 65536 := items_small t x (by rw [hxs]; simp)
  have hgx := hgo (x :: suf)
  have Hx := Kd hxs
  have HS := Kd hS2
  have Hgo := Kd hgo
  have Hb := Kd hblk
  have Hsm := Kd hsm
  clear hS hsm2 hS2 hblk hgo hxs hgx
  obtain ⟨Av, cv, rfl⟩ := HS.out.row.shape
  have tlx : x.word.text.toList = x.word.text.data.toList := ByteArray.toList_eq _
  have Tl := Kd tlx
  clear tlx
  by_cases hcode : x.code = 0
  ·rw [hcode] at i4 i4a
   have Hc := Kd hcode
   clear hcode
   rcases HS.out.opn with ⟨rfl, rfl⟩ | ⟨o, b, rfl, rfl, hbl, hbo, hvb⟩
   ·by_cases hA : (x.word.text.toList == [36, 40]) = true
    ·gi_wp2
     refine ⟨by rw [hs0]; exact (HS.out.setOpen h9 x.word).2, out, some x.word, _, _, (HS.out.setOpen h9 x.word).1, fun suf' => ?_⟩
     rw [List.append_assoc, List.singleton_append, Hgo.out, scanGo, if_neg (by simp [Hc.out])]
     try dsimp only
     rw [if_pos (by rw [← Tl.out]; simpa using hA)]
    ·replace hA : (x.word.text.toList == [36, 40]) = false := by simpa using hA
     by_cases hB : (x.word.text.toList == [36, 41]) = true
     ·gi_wp2
      obtain ⟨W3, hW3⟩ : ∃ W3, W2.alloc (tokBlk x.word) = W3 := ⟨_, rfl⟩
      have hsa : Same [] W2 W3 := by rw [← hW3]; exact Same.alloc _ _ _
      have htk : W3.heap[W2.heap.size]? = some (tokBlk x.word) := by rw [← hW3]; exact blk_new _ _
      have hW3' : W2.alloc (.cells #[.string x.word.text, .int .i64 x.word.at_.off, .int .i64 x.word.at_.line, .int .i64 x.word.at_.col] 54) = W3 := hW3
      rw [hW3']
      clear hW3 hW3' e0a e1a e2a e3a i4a f0a f1a f2a f3a i0 i1 i2 i3 iF
      obtain ⟨k0, k1, k2, k3, kf⟩ := tokBlk_cells htk
      have hS3 := HS.out.same hsa (by simp)
      replace e0 := blk_c (i := 0) (v := .slice none 0 0) hS3.r0 rfl
      replace e1 := blk_c (i := 0) (v := .pointer none) hS3.r1 rfl
      replace e2 := blk_c (i := 0) (v := .slice Av out.length cv) hS3.r2 rfl
      replace i4 := hsa.cell i4 (by simp)
      refine region_canonI (fun _ => trivial) (.read 0 (.read 1 (.one 2 [0] (.one 3 [] (.one 4 [] (.done)))))) (by kernel_rfl) (by kernel_rfl) ?_
      iterate 2 (refine canonI_read rfl (fun K hK => ?_); go_simp; (try go_bits); refine hK _ ?_; clear hK K)
      refine canonI_oneL (fun _ => trivial) rfl ?_
      gi_wp2_with (gi_at_call 110; refine (CallsIn.inRound l ((callsIn_wide (n := 0)).2 (fault_calls x.word 11 _))).mono ?_; rintro e' W4 ⟨b4, rfl, hb4, hf4, hs4⟩)
      have hsb : Same [] W2 W4 := hsa.trans ((Same.drew [] W3).trans hs4)
      have hS4 := HS.out.same hsb (by simp)
      replace e0 := blk_c (i := 0) (v := .slice none 0 0) hS4.r0 rfl
      replace e1 := blk_c (i := 0) (v := .pointer none) hS4.r1 rfl
      replace e2 := blk_c (i := 0) (v := .slice Av out.length cv) hS4.r2 rfl
      replace f0 := blk_free hS4.r0
      replace f1 := blk_free hS4.r1
      refine EQI.mk rfl ?_ ?_
      ·repeat (first | exact rr_nil | (refine rr_skip rfl ?_) | (refine rr_cons rfl (by go_simp; (try trivial)) ?_))
      refine canonI_oneL (fun _ => trivial) rfl ?_
      gi_wp2
      refine EQI.mk rfl ?_ ?_
      ·repeat (first | exact rr_nil | (refine rr_skip rfl ?_))
      refine canonI_oneL (fun _ => trivial) rfl ?_
      gi_wp2
      refine EQI.mk rfl ?_ ?_
      ·repeat (first | exact rr_nil | (refine rr_skip rfl ?_))
      refine canonI_done ?_
      gi_wp2
      have hb4' : W2.heap.size ≤ b4 := Nat.le_trans hsa.size hb4
      have hlt := hS4.lt
      have hlt2 := HS.out.lt
      have hfin : Same [w.heap.size, w.heap.size + 1] W2 ((W4.setCell ⟨w.heap.size, 0, none⟩ (.slice Av out.length cv)).setCell ⟨w.heap.size + 1, 0, none⟩ (.pointer (some ⟨b4, 0, none⟩))) :=
       ((hsb.mono (by simp)).set _ _ (by simp)).set _ _ (by simp)
      refine ⟨Stays.of_same hfin (by intro b hb; simp at hb; omega) (by omega), rfl, out, x.word, 11, ⟨?_, ⟨.slice Av out.length cv, b4, ?_, ?_, ?_, hS4.vlo, by omega, ?_⟩, rfl⟩, ?_⟩
      ·exact HS.out.base.then hfin (fun x hx => .inr (by simp at hx; omega))
      ·simp [heap_setCell, hS4.r0, cellPut]
      ·simp [heap_setCell, hS4.r1, cellPut]
      ·exact hS4.row.same (((Same.refl [w.heap.size, w.heap.size + 1] W4).set _ _ (by simp)).set _ _ (by simp)) (fun c hc hm => by have := hS4.vlo c hc; simp at hm; omega)
      ·exact (((Same.refl [w.heap.size, w.heap.size + 1] W4).set _ _ (by simp)).set _ _ (by simp)).get hf4 (fun hm => by simp at hm; omega)
      intro suf'
      rw [List.append_assoc, List.singleton_append, Hgo.out, scanGo, if_neg (by simp [Hc.out])]
      try dsimp only
      rw [if_neg (by rw [← Tl.out]; simpa using hA), if_pos (by rw [← Tl.out]; simpa using hB)]
     ·replace hB : (x.word.text.toList == [36, 41]) = false := by simpa using hB
      by_cases hC : out.length = 16384
      ·have hC' : ((out.length : Int) == 16384) = true := beq_iff_eq.2 (by omega)
       have HC := Kd hC
       clear hC
       gi_wp2
       obtain ⟨W3, hW3⟩ : ∃ W3, W2.alloc (tokBlk x.word) = W3 := ⟨_, rfl⟩
       have hsa : Same [] W2 W3 := by rw [← hW3]; exact Same.alloc _ _ _
       have htk : W3.heap[W2.heap.size]? = some (tokBlk x.word) := by rw [← hW3]; exact blk_new _ _
       have hW3' : W2.alloc (.cells #[.string x.word.text, .int .i64 x.word.at_.off, .int .i64 x.word.at_.line, .int .i64 x.word.at_.col] 54) = W3 := hW3
       rw [hW3']
       clear hW3 hW3' e0a e1a e2a e3a i4a f0a f1a f2a f3a i0 i1 i2 i3 iF
       obtain ⟨k0, k1, k2, k3, kf⟩ := tokBlk_cells htk
       have hS3 := HS.out.same hsa (by simp)
       replace e0 := blk_c (i := 0) (v := .slice none 0 0) hS3.r0 rfl
       replace e1 := blk_c (i := 0) (v := .pointer none) hS3.r1 rfl
       replace e2 := blk_c (i := 0) (v := .slice Av out.length cv) hS3.r2 rfl
       replace i4 := hsa.cell i4 (by simp)
       refine region_canonI (fun _ => trivial) (.read 0 (.read 1 (.one 2 [0] (.one 3 [] (.one 4 [] (.done)))))) (by kernel_rfl) (by kernel_rfl) ?_
       iterate 2 (refine canonI_read rfl (fun K hK => ?_); go_simp; (try go_bits); refine hK _ ?_; clear hK K)
       refine canonI_oneL (fun _ => trivial) rfl ?_
       gi_wp2_with (gi_at_call 110; refine (CallsIn.inRound l ((callsIn_wide (n := 0)).2 (fault_calls x.word 13 _))).mono ?_; rintro e' W4 ⟨b4, rfl, hb4, hf4, hs4⟩)
       have hsb : Same [] W2 W4 := hsa.trans ((Same.drew [] W3).trans hs4)
       have hS4 := HS.out.same hsb (by simp)
       replace e0 := blk_c (i := 0) (v := .slice none 0 0) hS4.r0 rfl
       replace e1 := blk_c (i := 0) (v := .pointer none) hS4.r1 rfl
       replace e2 := blk_c (i := 0) (v := .slice Av out.length cv) hS4.r2 rfl
       replace f0 := blk_free hS4.r0
       replace f1 := blk_free hS4.r1
       refine EQI.mk rfl ?_ ?_
       ·repeat (first | exact rr_nil | (refine rr_skip rfl ?_) | (refine rr_cons rfl (by go_simp; (try trivial)) ?_))
       refine canonI_oneL (fun _ => trivial) rfl ?_
       gi_wp2
       refine EQI.mk rfl ?_ ?_
       ·repeat (first | exact rr_nil | (refine rr_skip rfl ?_))
       refine canonI_oneL (fun _ => trivial) rfl ?_
       gi_wp2
       refine EQI.mk rfl ?_ ?_
       ·repeat (first | exact rr_nil | (refine rr_skip rfl ?_))
       refine canonI_done ?_
       gi_wp2
       have hb4' : W2.heap.size ≤ b4 := Nat.le_trans hsa.size hb4
       have hlt := hS4.lt
       have hlt2 := HS.out.lt
       have hfin : Same [w.heap.size, w.heap.size + 1] W2 ((W4.setCell ⟨w.heap.size, 0, none⟩ (.slice Av out.length cv)).setCell ⟨w.heap.size + 1, 0, none⟩ (.pointer (some ⟨b4, 0, none⟩))) :=
        ((hsb.mono (by simp)).set _ _ (by simp)).set _ _ (by simp)
       refine ⟨Stays.of_same hfin (by intro b hb; simp at hb; omega) (by omega), rfl, out, x.word, 13, ⟨?_, ⟨.slice Av out.length cv, b4, ?_, ?_, ?_, hS4.vlo, by omega, ?_⟩, rfl⟩, ?_⟩
       ·exact HS.out.base.then hfin (fun x hx => .inr (by simp at hx; omega))
       ·simp [heap_setCell, hS4.r0, cellPut]
       ·simp [heap_setCell, hS4.r1, cellPut]
       ·exact hS4.row.same (((Same.refl [w.heap.size, w.heap.size + 1] W4).set _ _ (by simp)).set _ _ (by simp)) (fun c hc hm => by have := hS4.vlo c hc; simp at hm; omega)
       ·exact (((Same.refl [w.heap.size, w.heap.size + 1] W4).set _ _ (by simp)).set _ _ (by simp)).get hf4 (fun hm => by simp at hm; omega)
       intro suf'
       rw [List.append_assoc, List.singleton_append, Hgo.out, scanGo, if_neg (by simp [Hc.out])]
       try dsimp only
       rw [if_neg (by rw [← Tl.out]; simpa using hA), if_neg (by rw [← Tl.out]; simpa using hB), if_pos HC.out]
      ·have hC' : ((out.length : Int) == 16384) = false := beq_eq_false_iff_ne.2 (by omega)
       have hlen := HS.out.len
       gi_wp2_with (gi_at_builtin; refine wpI_push (fun _ => trivial) rfl _ _ 50 rfl 54 4 40 _ Tryz.underlying50 Tryz.infoToken rfl (by decide) (.slice Av out.length cv) out.length _ rfl (HS.out.row.same (Same.alloc [] W2 _) (by simp)) [.string x.word.text, .int .i64 x.word.at_.off, .int .i64 x.word.at_.line, .int .i64 x.word.at_.col] (W2.heap.size + 1) (by simp) rfl rfl (by simp [Value.oneCell']) (by omega) (by decide) ?_; intro v1 W5 hrow5 hsm5 hor5; obtain ⟨A5, c5, rfl⟩ := hrow5.shape; have g2 := hsm5.get (blk_old HS.out.r2 _) (fun hm => by have := HS.out.vlo _ (Option.mem_toList.1 hm); omega); have g2f := blk_free g2; have g2c := blk_c (i := 0) (v := .slice Av out.length cv) g2 rfl)
       have hpush := HS.out.push h9 x.word ((Same.alloc _ W2 _).trans hsm5) hrow5 (by
        rcases hor5 with h5 | ⟨b, hb5, hle⟩
        ·exact .inl h5
        ·exact .inr ⟨b, hb5, by simp at hle; omega⟩) (by omega)
       refine ⟨by rw [hs0]; exact hpush.2, out ++ [x.word], none, _, _, hpush.1, fun suf' => ?_⟩
       rw [List.append_assoc, List.singleton_append, Hgo.out, scanGo, if_neg (by simp [Hc.out])]
       try dsimp only
       rw [if_neg (by rw [← Tl.out]; simpa using hA), if_neg (by rw [← Tl.out]; simpa using hB), if_neg hC]
   ·by_cases hB : (x.word.text.toList == [36, 41]) = true
    ·gi_wp2
     refine ⟨by rw [hs0]; exact (HS.out.setClosed h9 _).2, out, none, _, _, (HS.out.setClosed h9 _).1, fun suf' => ?_⟩
     rw [List.append_assoc, List.singleton_append, Hgo.out, scanGo, if_neg (by simp [Hc.out])]
     try dsimp only
     rw [if_pos (by rw [← Tl.out]; simpa using hB)]
    ·replace hB : (x.word.text.toList == [36, 41]) = false := by simpa using hB
     obtain ⟨m, hm⟩ := hl2
     have hma := fun o => (Same.alloc [] W2 o).cell hm (by simp)
     have hT : ∀ c : Int, (c = 0 → False) → True := fun _ _ => trivial
     by_cases h1 : Lib.contains x.word.text.data.toList [36, 40] = true
     ·gi_wp2_with (gi_at_call 111; refine (CallsIn.inRound l ((callsIn_wide (n := 0)).2 (Tryz.strings_Contains x.word.text _ m _ (by omega) (hma _)))).mono ?_; rintro e' W5 ⟨rfl, rfl⟩)
      obtain ⟨W3, hW3⟩ : ∃ W3, W2.alloc (tokBlk x.word) = W3 := ⟨_, rfl⟩
      have hsa : Same [] W2 W3 := by rw [← hW3]; exact Same.alloc _ _ _
      have htk : W3.heap[W2.heap.size]? = some (tokBlk x.word) := by rw [← hW3]; exact blk_new _ _
      have hW3' : W2.alloc (.cells #[.string x.word.text, .int .i64 x.word.at_.off, .int .i64 x.word.at_.line, .int .i64 x.word.at_.col] 54) = W3 := hW3
      rw [hW3']
      clear hW3 hW3' e0a e1a e2a e3a i4a f0a f1a f2a f3a i0 i1 i2 i3 iF
      obtain ⟨k0, k1, k2, k3, kf⟩ := tokBlk_cells htk
      have hS3 := HS.out.same hsa (by simp)
      replace e0 := blk_c (i := 0) (v := .slice none 0 0) hS3.r0 rfl
      replace e1 := blk_c (i := 0) (v := .pointer none) hS3.r1 rfl
      replace e2 := blk_c (i := 0) (v := .slice Av out.length cv) hS3.r2 rfl
      replace i4 := hsa.cell i4 (by simp)
      refine region_canonI (fun _ => trivial) (.read 0 (.read 1 (.one 2 [0] (.one 3 [] (.one 4 [] (.done)))))) (by kernel_rfl) (by kernel_rfl) ?_
      iterate 2 (refine canonI_read rfl (fun K hK => ?_); go_simp; (try go_bits); refine hK _ ?_; clear hK K)
      refine canonI_oneL (fun _ => trivial) rfl ?_
      gi_wp2_with (gi_at_call 110; refine (CallsIn.inRound l ((callsIn_wide (n := 0)).2 (fault_calls x.word 11 _))).mono ?_; rintro e' W4 ⟨b4, rfl, hb4, hf4, hs4⟩)
      have hsb : Same [] W2 W4 := hsa.trans ((Same.drew [] W3).trans hs4)
      have hS4 := HS.out.same hsb (by simp)
      replace e0 := blk_c (i := 0) (v := .slice none 0 0) hS4.r0 rfl
      replace e1 := blk_c (i := 0) (v := .pointer none) hS4.r1 rfl
      replace e2 := blk_c (i := 0) (v := .slice Av out.length cv) hS4.r2 rfl
      replace f0 := blk_free hS4.r0
      replace f1 := blk_free hS4.r1
      refine EQI.mk rfl ?_ ?_
      ·repeat (first | exact rr_nil | (refine rr_skip rfl ?_) | (refine rr_cons rfl (by go_simp; (try trivial)) ?_))
      refine canonI_oneL (fun _ => trivial) rfl ?_
      gi_wp2
      refine EQI.mk rfl ?_ ?_
      ·repeat (first | exact rr_nil | (refine rr_skip rfl ?_))
      refine canonI_oneL (fun _ => trivial) rfl ?_
      gi_wp2
      refine EQI.mk rfl ?_ ?_
      ·repeat (first | exact rr_nil | (refine rr_skip rfl ?_))
      refine canonI_done ?_
      gi_wp2
      have hb4' : W2.heap.size ≤ b4 := Nat.le_trans hsa.size hb4
      have hlt := hS4.lt
      have hlt2 := HS.out.lt
      have hfin : Same [w.heap.size, w.heap.size + 1] W2 ((W4.setCell ⟨w.heap.size, 0, none⟩ (.slice Av out.length cv)).setCell ⟨w.heap.size + 1, 0, none⟩ (.pointer (some ⟨b4, 0, none⟩))) :=
       ((hsb.mono (by simp)).set _ _ (by simp)).set _ _ (by simp)
      refine ⟨Stays.of_same hfin (by intro b hb; simp at hb; omega) (by omega), rfl, out, x.word, 11, ⟨?_, ⟨.slice Av out.length cv, b4, ?_, ?_, ?_, hS4.vlo, by omega, ?_⟩, rfl⟩, ?_⟩
      ·exact HS.out.base.then hfin (fun x hx => .inr (by simp at hx; omega))
      ·simp [heap_setCell, hS4.r0, cellPut]
      ·simp [heap_setCell, hS4.r1, cellPut]
      ·exact hS4.row.same (((Same.refl [w.heap.size, w.heap.size + 1] W4).set _ _ (by simp)).set _ _ (by simp)) (fun c hc hm => by have := hS4.vlo c hc; simp at hm; omega)
      ·exact (((Same.refl [w.heap.size, w.heap.size + 1] W4).set _ _ (by simp)).set _ _ (by simp)).get hf4 (fun hm => by simp at hm; omega)
      intro suf'
      rw [List.append_assoc, List.singleton_append, Hgo.out, scanGo, if_neg (by simp [Hc.out])]
      try dsimp only
      rw [if_neg (by rw [← Tl.out]; simpa using hB), if_pos (by simp [h1])]
     ·replace h1 : Lib.contains x.word.text.data.toList [36, 40] = false := by simpa using h1
      by_cases h2 : Lib.contains x.word.text.data.toList [36, 41] = true
      ·gi_wp2_with (gi_at_call 111; refine (CallsIn.inRound l ((callsIn_wide (n := 0)).2 (Tryz.strings_Contains x.word.text _ m _ (by omega) (hma _)))).mono ?_; rintro e' W5 ⟨rfl, rfl⟩)
       obtain ⟨W3, hW3⟩ : ∃ W3, W2.alloc (tokBlk x.word) = W3 := ⟨_, rfl⟩
       have hsa : Same [] W2 W3 := by rw [← hW3]; exact Same.alloc _ _ _
       have htk : W3.heap[W2.heap.size]? = some (tokBlk x.word) := by rw [← hW3]; exact blk_new _ _
       have hW3' : W2.alloc (.cells #[.string x.word.text, .int .i64 x.word.at_.off, .int .i64 x.word.at_.line, .int .i64 x.word.at_.col] 54) = W3 := hW3
       rw [hW3']
       clear hW3 hW3' e0a e1a e2a e3a i4a f0a f1a f2a f3a i0 i1 i2 i3 iF
       obtain ⟨k0, k1, k2, k3, kf⟩ := tokBlk_cells htk
       have hS3 := HS.out.same hsa (by simp)
       replace e0 := blk_c (i := 0) (v := .slice none 0 0) hS3.r0 rfl
       replace e1 := blk_c (i := 0) (v := .pointer none) hS3.r1 rfl
       replace e2 := blk_c (i := 0) (v := .slice Av out.length cv) hS3.r2 rfl
       replace i4 := hsa.cell i4 (by simp)
       refine region_canonI (fun _ => trivial) (.read 0 (.read 1 (.one 2 [0] (.one 3 [] (.one 4 [] (.done)))))) (by kernel_rfl) (by kernel_rfl) ?_
       iterate 2 (refine canonI_read rfl (fun K hK => ?_); go_simp; (try go_bits); refine hK _ ?_; clear hK K)
       refine canonI_oneL (fun _ => trivial) rfl ?_
       gi_wp2_with (gi_at_call 110; refine (CallsIn.inRound l ((callsIn_wide (n := 0)).2 (fault_calls x.word 11 _))).mono ?_; rintro e' W4 ⟨b4, rfl, hb4, hf4, hs4⟩)
       have hsb : Same [] W2 W4 := hsa.trans ((Same.drew [] W3).trans hs4)
       have hS4 := HS.out.same hsb (by simp)
       replace e0 := blk_c (i := 0) (v := .slice none 0 0) hS4.r0 rfl
       replace e1 := blk_c (i := 0) (v := .pointer none) hS4.r1 rfl
       replace e2 := blk_c (i := 0) (v := .slice Av out.length cv) hS4.r2 rfl
       replace f0 := blk_free hS4.r0
       replace f1 := blk_free hS4.r1
       refine EQI.mk rfl ?_ ?_
       ·repeat (first | exact rr_nil | (refine rr_skip rfl ?_) | (refine rr_cons rfl (by go_simp; (try trivial)) ?_))
       refine canonI_oneL (fun _ => trivial) rfl ?_
       gi_wp2
       refine EQI.mk rfl ?_ ?_
       ·repeat (first | exact rr_nil | (refine rr_skip rfl ?_))
       refine canonI_oneL (fun _ => trivial) rfl ?_
       gi_wp2
       refine EQI.mk rfl ?_ ?_
       ·repeat (first | exact rr_nil | (refine rr_skip rfl ?_))
       refine canonI_done ?_
       gi_wp2
       have hb4' : W2.heap.size ≤ b4 := Nat.le_trans hsa.size hb4
       have hlt := hS4.lt
       have hlt2 := HS.out.lt
       have hfin : Same [w.heap.size, w.heap.size + 1] W2 ((W4.setCell ⟨w.heap.size, 0, none⟩ (.slice Av out.length cv)).setCell ⟨w.heap.size + 1, 0, none⟩ (.pointer (some ⟨b4, 0, none⟩))) :=
        ((hsb.mono (by simp)).set _ _ (by simp)).set _ _ (by simp)
       refine ⟨Stays.of_same hfin (by intro b hb; simp at hb; omega) (by omega), rfl, out, x.word, 11, ⟨?_, ⟨.slice Av out.length cv, b4, ?_, ?_, ?_, hS4.vlo, by omega, ?_⟩, rfl⟩, ?_⟩
       ·exact HS.out.base.then hfin (fun x hx => .inr (by simp at hx; omega))
       ·simp [heap_setCell, hS4.r0, cellPut]
       ·simp [heap_setCell, hS4.r1, cellPut]
       ·exact hS4.row.same (((Same.refl [w.heap.size, w.heap.size + 1] W4).set _ _ (by simp)).set _ _ (by simp)) (fun c hc hm => by have := hS4.vlo c hc; simp at hm; omega)
       ·exact (((Same.refl [w.heap.size, w.heap.size + 1] W4).set _ _ (by simp)).set _ _ (by simp)).get hf4 (fun hm => by simp at hm; omega)
       intro suf'
       rw [List.append_assoc, List.singleton_append, Hgo.out, scanGo, if_neg (by simp [Hc.out])]
       try dsimp only
       rw [if_neg (by rw [← Tl.out]; simpa using hB), if_pos (by simp [h2])]
      ·replace h2 : Lib.contains x.word.text.data.toList [36, 41] = false := by simpa using h2
       gi_wp2_with (gi_at_call 111; refine (CallsIn.inRound l ((callsIn_wide (n := 0)).2 (Tryz.strings_Contains x.word.text _ m _ (by omega) (hma _)))).mono ?_; rintro e' W5 ⟨rfl, rfl⟩)
       refine ⟨Stays.of_same (Same.alloc [] W2 _) (by simp) (by omega), out, some o, _, _, HS.out.same (Same.alloc [] W2 _) (by simp), fun suf' => ?_⟩
       rw [List.append_assoc, List.singleton_append, Hgo.out, scanGo, if_neg (by simp [Hc.out])]
       try dsimp only
       rw [if_neg (by rw [← Tl.out]; simpa using hB), if_neg (by simp [h1, h2])]
  ·have hc' : (x.code != 0) = true := by simpa using hcode
   have Hc := Kd hcode
   clear hcode
   have hopn := HS.out.opn
   gi_wp2
   obtain ⟨W3, hW3⟩ : ∃ W3, W2.alloc (tokBlk x.word) = W3 := ⟨_, rfl⟩
   have hsa : Same [] W2 W3 := by rw [← hW3]; exact Same.alloc _ _ _
   have htk : W3.heap[W2.heap.size]? = some (tokBlk x.word) := by rw [← hW3]; exact blk_new _ _
   have hW3' : W2.alloc (.cells #[.string x.word.text, .int .i64 x.word.at_.off, .int .i64 x.word.at_.line, .int .i64 x.word.at_.col] 54) = W3 := hW3
   rw [hW3']
   clear hW3 hW3' e0a e1a e2a e3a i4a f0a f1a f2a f3a i0 i1 i2 i3 iF
   obtain ⟨k0, k1, k2, k3, kf⟩ := tokBlk_cells htk
   have hS3 := HS.out.same hsa (by simp)
   replace e0 := blk_c (i := 0) (v := .slice none 0 0) hS3.r0 rfl
   replace e1 := blk_c (i := 0) (v := .pointer none) hS3.r1 rfl
   replace e2 := blk_c (i := 0) (v := .slice Av out.length cv) hS3.r2 rfl
   replace i4 := hsa.cell i4 (by simp)
   refine region_canonI (fun _ => trivial) (.read 0 (.read 1 (.read 2 (.read 3 (.one 4 [0] (.one 5 [] (.one 6 [] (.done)))))))) (by kernel_rfl) (by kernel_rfl) ?_
   iterate 4 (refine canonI_read rfl (fun K hK => ?_); go_simp; (try go_bits); refine hK _ ?_; clear hK K)
   refine canonI_oneL (fun _ => trivial) rfl ?_
   gi_wp2_with (gi_at_call 110; refine (CallsIn.inRound l ((callsIn_wide (n := 0)).2 (fault_calls x.word x.code _))).mono ?_; rintro e' W4 ⟨b4, rfl, hb4, hf4, hs4⟩)
   have hsb : Same [] W2 W4 := hsa.trans ((Same.drew [] W3).trans hs4)
   have hS4 := HS.out.same hsb (by simp)
   replace e0 := blk_c (i := 0) (v := .slice none 0 0) hS4.r0 rfl
   replace e1 := blk_c (i := 0) (v := .pointer none) hS4.r1 rfl
   replace e2 := blk_c (i := 0) (v := .slice Av out.length cv) hS4.r2 rfl
   replace f0 := blk_free hS4.r0
   replace f1 := blk_free hS4.r1
   refine EQI.mk rfl ?_ ?_
   ·repeat (first | exact rr_nil | (refine rr_skip rfl ?_) | (refine rr_cons rfl (by go_simp; (try trivial)) ?_))
   refine canonI_oneL (fun _ => trivial) rfl ?_
   gi_wp2
   refine EQI.mk rfl ?_ ?_
   ·repeat (first | exact rr_nil | (refine rr_skip rfl ?_))
   refine canonI_oneL (fun _ => trivial) rfl ?_
   gi_wp2
   refine EQI.mk rfl ?_ ?_
   ·repeat (first | exact rr_nil | (refine rr_skip rfl ?_))
   refine canonI_done ?_
   gi_wp2
   have hb4' : W2.heap.size ≤ b4 := Nat.le_trans hsa.size hb4
   have hlt := hS4.lt
   have hlt2 := HS.out.lt
   have hfin : Same [w.heap.size, w.heap.size + 1] W2 ((W4.setCell ⟨w.heap.size, 0, none⟩ (.slice Av out.length cv)).setCell ⟨w.heap.size + 1, 0, none⟩ (.pointer (some ⟨b4, 0, none⟩))) :=
    ((hsb.mono (by simp)).set _ _ (by simp)).set _ _ (by simp)
   refine ⟨Stays.of_same hfin (by intro b hb; simp at hb; omega) (by omega), rfl, out, x.word, x.code, ⟨?_, ⟨.slice Av out.length cv, b4, ?_, ?_, ?_, hS4.vlo, by omega, ?_⟩, rfl⟩, ?_⟩
   ·exact HS.out.base.then hfin (fun x hx => .inr (by simp at hx; omega))
   ·simp [heap_setCell, hS4.r0, cellPut]
   ·simp [heap_setCell, hS4.r1, cellPut]
   ·exact hS4.row.same (((Same.refl [w.heap.size, w.heap.size + 1] W4).set _ _ (by simp)).set _ _ (by simp)) (fun c hc hm => by have := hS4.vlo c hc; simp at hm; omega)
   ·exact (((Same.refl [w.heap.size, w.heap.size + 1] W4).set _ _ (by simp)).set _ _ (by simp)).get hf4 (fun hm => by simp at hm; omega)
   intro suf'
   rw [List.append_assoc, List.singleton_append, Hgo.out]
   unfold scanGo
   rw [if_pos Hc.out]
 case done =>
  rintro W ⟨out, op, v, p, hS, hgo⟩ hK
  have hgo' := hgo []
  rw [List.append_nil] at hgo'
  obtain ⟨Av, cv, rfl⟩ := hS.row.shape
  have e0 := blk_c (i := 0) (v := .slice none 0 0) hS.r0 rfl
  have e1 := blk_c (i := 0) (v := .pointer none) hS.r1 rfl
  have e2 := blk_c (i := 0) (v := .slice Av out.length cv) hS.r2 rfl
  have e3 := blk_c (i := 0) (v := p) hS.r3 rfl
  have f0 := blk_free hS.r0
  have f1 := blk_free hS.r1
  have HS := Kd hS
  have Hgo := Kd hgo'
  have HK := Kd hK
  have Hs0 := Kd hs0
  clear hS hgo hgo' hK hs0
  rcases HS.out.opn with ⟨rfl, rfl⟩ | ⟨o, b, rfl, rfl, hbl, hbo, hvb⟩
  ·gi_wp2
   have hlt := HS.out.lt
   have hs0 := Hs0.out
   have hfin : Same [w.heap.size, w.heap.size + 1] W ((W.setCell ⟨w.heap.size, 0, none⟩ (.slice Av out.length cv)).setCell ⟨w.heap.size + 1, 0, none⟩ (.pointer none)) :=
    ((Same.refl _ W).set _ _ (by simp)).set _ _ (by simp)
   have hK := hfin.get HK.out (by simp <;> omega)
   refine ⟨by simp, .inl ⟨_, _, rfl, run_takeDeferred hK, ?_⟩⟩
   have hsc : scanOf t = (out, none) := Hgo.out.trans rfl
   refine scan_finish (by omega) rfl rfl (v := .slice Av out.length cv) (f := .pointer none) (HS.out.base.then hfin (fun y hy => .inr (by simp at hy; omega))) (blk_c (i := 0) (v := .slice Av out.length cv) (b := w.heap.size) (cs := #[.slice Av out.length cv]) (t := 50) (fr := (0, 0)) ?_ rfl) (blk_c (b := w.heap.size + 1) (cs := #[.pointer none]) (t := 24) (fr := (0, 0)) ?_ rfl) ?_ HS.out.vlo ?_ ?_ hK
   ·simp [heap_setCell, HS.out.r0, cellPut]
   ·simp [heap_setCell, HS.out.r1, cellPut]
   ·rw [hsc]; exact HS.out.row.same hfin (fun b hb hm => by have := HS.out.vlo b hb; simp at hm; omega)
   ·rw [hsc]; rfl
   ·intro b hb; cases hb
  ·have Hbo := Kd hbo
   obtain ⟨k0, k1, k2, k3, kf⟩ := tokBlk_cells hbo
   gi_wp2
   refine region_canonI (fun _ => trivial) (.read 0 (.read 1 (.read 2 (.read 3 (.one 4 [0] (.one 5 [] (.one 6 [] (.done)))))))) (by kernel_rfl) (by kernel_rfl) ?_
   iterate 4 (refine canonI_read rfl (fun K hK => ?_); go_simp; (try go_bits); refine hK _ ?_; clear hK K)
   refine canonI_oneL (fun _ => trivial) rfl ?_
   gi_wp2_with (gi_at_call 110; refine ((callsIn_wide (n := 0)).2 (fault_calls o 12 _)).mono ?_; rintro e' W4 ⟨b4, rfl, hb4, hf4, hs4⟩)
   have hsb : Same [] W W4 := (Same.drew [] W).trans hs4
   have hS4 := HS.out.same hsb (by simp)
   replace e0 := blk_c (i := 0) (v := .slice none 0 0) hS4.r0 rfl
   replace e1 := blk_c (i := 0) (v := .pointer none) hS4.r1 rfl
   replace e2 := blk_c (i := 0) (v := .slice Av out.length cv) hS4.r2 rfl
   replace f0 := blk_free hS4.r0
   replace f1 := blk_free hS4.r1
   refine EQI.mk rfl ?_ ?_
   ·repeat (first | exact rr_nil | (refine rr_skip rfl ?_) | (refine rr_cons rfl (by go_simp; (try trivial)) ?_))
   refine canonI_oneL (fun _ => trivial) rfl ?_
   gi_wp2
   refine EQI.mk rfl ?_ ?_
   ·repeat (first | exact rr_nil | (refine rr_skip rfl ?_))
   refine canonI_oneL (fun _ => trivial) rfl ?_
   gi_wp2
   refine EQI.mk rfl ?_ ?_
   ·repeat (first | exact rr_nil | (refine rr_skip rfl ?_))
   refine canonI_done ?_
   gi_wp2
   have hlt := blk_lt Hbo.out
   have hs0 := Hs0.out
   have hb4' : W.heap.size ≤ b4 := hb4
   have hfin : Same [w.heap.size, w.heap.size + 1] W4 ((W4.setCell ⟨w.heap.size, 0, none⟩ (.slice Av out.length cv)).setCell ⟨w.heap.size + 1, 0, none⟩ (.pointer (some ⟨b4, 0, none⟩))) :=
    ((Same.refl _ W4).set _ _ (by simp)).set _ _ (by simp)
   have hK := hfin.get (hsb.get HK.out (by simp)) (by simp <;> omega)
   have hsc : scanOf t = (out, some (o, 12)) := Hgo.out.trans rfl
   refine ⟨by simp, .inl ⟨_, _, rfl, run_takeDeferred hK, ?_⟩⟩
   refine scan_finish (by omega) rfl rfl (v := .slice Av out.length cv) (f := .pointer (some ⟨b4, 0, none⟩)) (hS4.base.then hfin (fun y hy => .inr (by simp at hy; omega))) (blk_c (i := 0) (v := .slice Av out.length cv) (b := w.heap.size) (cs := #[.slice Av out.length cv]) (t := 50) (fr := (0, 0)) ?_ rfl) (blk_c (b := w.heap.size + 1) (cs := #[.pointer (some ⟨b4, 0, none⟩)]) (t := 24) (fr := (0, 0)) ?_ rfl) ?_ HS.out.vlo ?_ ?_ hK
   ·simp [heap_setCell, hS4.r0, cellPut]
   ·simp [heap_setCell, hS4.r1, cellPut]
   ·rw [hsc]; exact hS4.row.same hfin (fun b hb hm => by have := hS4.vlo b hb; simp at hm; omega)
   ·rw [hsc]; exact ⟨b4, rfl, hfin.get hf4 (fun hm => by simp at hm; omega)⟩
   ·intro c hc; cases hc; omega
 case stop =>
  rintro c pre suf W hxs ⟨rfl, out, x, e, hS, hgo⟩ hK
  gi_wp2
  obtain ⟨v, b, h0, h1, hrow, hv, hb9, hbf⟩ := hS.res
  have hsc : scanOf t = (out, some (x, e)) := by unfold scanOf; rw [hxs]; exact hgo suf
  refine ⟨by simp, .inl ⟨_, _, rfl, run_takeDeferred hK, ?_⟩⟩
  refine scan_finish (by omega) rfl rfl (v := v) (f := .pointer (some ⟨b, 0, none⟩)) hS.base (blk_c h0 rfl) (blk_c h1 rfl) ?_ hv ?_ ?_ hK
  ·rw [hsc]; exact hrow
  ·rw [hsc]; exact ⟨b, rfl, hbf⟩
  ·intro c hc; cases hc; exact hb9
end Go.Proofs.YtdhkmfpfbjcdiaaGreatDoor
