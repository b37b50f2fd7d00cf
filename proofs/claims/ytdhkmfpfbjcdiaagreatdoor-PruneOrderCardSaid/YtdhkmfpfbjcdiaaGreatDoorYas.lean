/- lemmalaw texts, part 19. -/
import Derived.Test.YtdhkmfpfbjcdiaaGreatDoorYaj
import Derived.Deep.DeepFit
set_option maxRecDepth 100000
set_option linter.unusedVariables false
set_option linter.unusedSimpArgs false
set_option maxHeartbeats 32000000
namespace Go.Proofs.YtdhkmfpfbjcdiaaGreatDoor
open Go.RowKit
structure RA where
 vo : Value
 sv : List (Value × Value)
 lv : Value
 nv : Value
 nw : Value
 np : Value
def ptrB : Value → List Nat
 | .pointer (some a) => [a.block]
 | _ => []
def RA.blocks (A : RA) (r : Nat) : List Nat := r :: (A.vo.ownBlock.toList ++ ptrB A.nv ++ A.nw.ownBlock.toList ++ A.np.ownBlock.toList)
def outCells : List St → List (Value × Value) → List Value
 | s :: l, p :: m => s.cells p.1 p.2 ++ outCells l m
 | _, _ => []
theorem outCells_snoc (s : St) (p : Value × Value) : ∀ (l : List St) (m : List (Value × Value)), m.length = l.length → outCells (l ++ [s]) (m ++ [p]) = outCells l m ++ s.cells p.1 p.2
 | [], [], _ => by simp [outCells]
 | x :: l, y :: m, h => by simp [outCells, outCells_snoc s p l m (by simpa using h)]
 | [], _ :: _, h => by simp at h
 | _ :: _, [], h => by simp at h
def StIn (w : World) (M : List Nat) (s : St) (p : Value × Value) : Prop :=
 Fix w M 54 4 p.1 s.words.length (tkCells s.words) ∧ Fix w M 54 4 p.2 s.proof.length (tkCells s.proof)
theorem StIn.move {w w' : World} {M M' : List Nat} (m : Move M M' w w') {s : St} {p : Value × Value} (h : StIn w M s p) : StIn w' M' s p := ⟨h.1.move m, h.2.move m⟩
def TkAt (w : World) (M : List Nat) (v : Value) : Option Tk → Prop
 | none => v = .pointer none
 | some t => ∃ b, v = .pointer (some ⟨b, 0, none⟩) ∧ w.heap[b]? = some (tokBlk t) ∧ b ∉ M
theorem TkAt.move {w w' : World} {M M' : List Nat} {v : Value} {o : Option Tk} (h : TkAt w M v o) (m : Move M M' w w') : TkAt w' M' v o := by
 cases o with
 | none => exact h
 | some t =>
  obtain ⟨b, h1, h2, h3⟩ := h
  exact ⟨b, h1, m.same.get h2 h3, (Still.move (w := w) ⟨blk_lt h2, h3⟩ m).2⟩
def stBlk (s : St) (wv pv : Value) : Obj := .cells (s.cells wv pv).toArray 73 (0, 0)
structure NowIn (w : World) (vo nv nw np : Value) (s : St) : Prop where
 at_ : ∃ b, nv = .pointer (some ⟨b, 0, none⟩) ∧ w.heap[b]? = some (stBlk s nw np) ∧ vo.ownBlock ≠ some b
 words : Row w 54 4 nw s.words.length (tkCells s.words)
 proof : Row w 54 4 np s.proof.length (tkCells s.proof)
 apart : ∀ b, nw.ownBlock = some b → np.ownBlock ≠ some b
def NowAt (w : World) (A : RA) : Option St → Prop
 | none => A.nv = .pointer none ∧ A.nw = .slice none 0 0 ∧ A.np = .slice none 0 0
 | some s => NowIn w A.vo A.nv A.nw A.np s
structure RdAt (w : World) (r : Nat) (A : RA) (R : Rd) : Prop where
 blk : w.heap[r]? = some (.cells #[A.vo, A.lv, A.nv, formV R.what, .bool R.proves] 140 (0, 0))
 out : Row w 73 16 A.vo R.out.length (outCells R.out A.sv)
 outs : All2 (StIn w (A.blocks r)) R.out A.sv
 label : TkAt w (A.blocks r) A.lv R.label
 now : NowAt w A R.now
theorem RdAt.lt {w : World} {r : Nat} {A : RA} {R : Rd} (h : RdAt w r A R) : ∀ b ∈ A.blocks r, b < w.heap.size := by
 intro b hb
 simp only [RA.blocks, List.mem_cons, List.mem_append, Option.mem_toList] at hb
 have hn := h.now
 rcases hb with rfl | ((hb | hb) | hb) | hb
 ·exact blk_lt h.blk
 ·exact h.out.lt hb
 ·unfold NowAt at hn
  split at hn
  ·rw [hn.1] at hb; simp [ptrB] at hb
  ·obtain ⟨c, h1, h2, _⟩ := hn.at_
   rw [h1] at hb; simp [ptrB] at hb; subst hb; exact blk_lt h2
 ·unfold NowAt at hn
  split at hn
  ·rw [hn.2.1] at hb; simp [Value.ownBlock] at hb
  ·exact hn.words.lt hb
 ·unfold NowAt at hn
  split at hn
  ·rw [hn.2.2] at hb; simp [Value.ownBlock] at hb
  ·exact hn.proof.lt hb
theorem RdAt.same {w w' : World} {r : Nat} {A : RA} {R : Rd} (h : RdAt w r A R) (hs : Same [] w w') : RdAt w' r A R := by
 have m : Move (A.blocks r) (A.blocks r) w w' := Move.of_same hs
 refine ⟨hs.get h.blk (by simp), h.out.same hs (by simp), h.outs.imp (fun _ _ => StIn.move m), h.label.move m, ?_⟩
 have hn := h.now
 unfold NowAt at hn ⊢
 split at hn
 ·exact hn
 ·obtain ⟨b, h1, h2, h3⟩ := hn.at_
  exact ⟨⟨b, h1, hs.get h2 (by simp), h3⟩, hn.words.same hs (by simp), hn.proof.same hs (by simp), hn.apart⟩
theorem RdAt.facts {w : World} {r : Nat} {A : RA} {R : Rd} (h : RdAt w r A R) : w.cell? ⟨r, 0, none⟩ = some A.vo ∧ w.cell? ⟨r, 1, none⟩ = some A.lv ∧ w.cell? ⟨r, 2, none⟩ = some A.nv ∧ w.cell? ⟨r, 3, none⟩ = some (formV R.what) ∧ w.cell? ⟨r, 4, none⟩ = some (.bool R.proves) ∧ ∀ i, w.frozen? ⟨r, i, none⟩ = false :=
 ⟨blk_c h.blk, blk_c h.blk, blk_c h.blk, blk_c h.blk, blk_c h.blk, blk_free h.blk⟩
def RdR (r : Nat) (A : RA) (x : Nat × Rd) (w : World) (e : Ending) (w' : World) : Prop := e = .returned (.int .i64 x.1) ∧ ∃ A', RdAt w' r A' x.2 ∧ Move (A.blocks r) (A'.blocks r) w w'
theorem RdR.stay {r : Nat} {A : RA} {R : Rd} {n : Nat} {w w' : World} (h : RdAt w r A R) (hs : Same [] w w') : RdR r A (n, R) w (.returned (.int .i64 n)) w' :=
 ⟨rfl, A, h.same hs, Move.of_same hs⟩
theorem RdAt.setLabel {w w' : World} {r : Nat} {A : RA} {R : Rd} (h : RdAt w r A R) (v : Value) (o : Option Tk) (hs : Same [r] w w') (hb : w'.heap[r]? = some (.cells #[A.vo, v, A.nv, formV R.what, .bool R.proves] 140 (0, 0)))
  (hl : TkAt w' (A.blocks r) v o) : RdAt w' r { A with lv := v } { R with label := o } ∧ Move (A.blocks r) (RA.blocks { A with lv := v } r) w w' := by
 have m : Move (A.blocks r) (A.blocks r) w w' := ⟨fun _ h => .inl h, hs.mono (fun x hx => .inl (by simp at hx; subst hx; simp [RA.blocks]))⟩
 refine ⟨⟨hb, h.out.same hs (fun b hb' => by have := h.out.ne h.blk (by decide); simp; rintro rfl; exact this hb'), h.outs.imp (fun _ _ => StIn.move m), hl, ?_⟩, m⟩
 have hn := h.now
 show NowAt w' { A with lv := v } R.now
 cases hR : R.now with
 | none => rw [hR] at hn; exact hn
 | some s =>
  rw [hR] at hn
  obtain ⟨b, h1, h2, h3⟩ := hn.at_
  have hbr : b ≠ r := by rintro rfl; have := h.blk; rw [h2] at this; simp [stBlk] at this
  exact ⟨⟨b, h1, hs.get h2 (by simpa using hbr), h3⟩, hn.words.same hs (fun b hb' => by have := hn.words.ne h.blk (by decide); simp; rintro rfl; exact this hb'),
   hn.proof.same hs (fun b hb' => by have := hn.proof.ne h.blk (by decide); simp; rintro rfl; exact this hb'), hn.apart⟩
theorem between_plain (w : World) (r : Nat) (A : RA) (R : Rd) (h : RdAt w r A R) (t : Tk) (hp : plainB t.text = true) :
  Calls Tryz.prog 59 #[.pointer (some ⟨r, 0, none⟩), .agg #[.string t.text, .int .i64 t.at_.off, .int .i64 t.at_.line, .int .i64 t.at_.col]] w (RdR r A (R.between t) w) := by
 obtain ⟨c0, c1, c2, c3, c4, cf⟩ := h.facts
 have hpc := plain_calls t.text
 rw [hp] at hpc
 have H := Kd h
 have hl := h.label
 have hlt := blk_lt h.blk
 cases hlb : R.label with
 | some x =>
  have hx : R.between t = (60, R) := by simp [Rd.between, plainT, hp, hlb]
  rw [hx]
  rw [hlb] at hl
  obtain ⟨b, hlv, -⟩ := hl
  rw [hlv] at c1
  clear hx hlb h hp hlv
  go_enter Tryz.func59, Tryz.ntmps59
  go_wp2_with (go_at_call 112; refine (hpc _).mono ?_; rintro e w' ⟨rfl, rfl⟩)
  go_ret
  exact RdR.stay H.out (Same.alloc _ _ _)
 | none =>
  have hx : R.between t = (0, { R with label := some t }) := by simp [Rd.between, plainT, hp, hlb]
  rw [hx]
  rw [hlb] at hl
  have hlv : A.lv = .pointer none := hl
  rw [hlv] at c1
  have hll := h.lt
  clear hx hlb h hp hlv hl
  go_enter Tryz.func59, Tryz.ntmps59
  go_wp2_with (go_at_call 112; refine (hpc _).mono ?_; rintro e w' ⟨rfl, rfl⟩)
  go_ret
  have hb := H.out.blk
  have hne : w.heap.size ≠ r := by omega
  have hne' : r ≠ w.heap.size := by omega
  refine ⟨rfl, _, H.out.setLabel (.pointer (some ⟨w.heap.size, 0, none⟩)) (some t) ?_ ?_ ⟨_, rfl, ?_, fun hm => by have := hll _ hm; omega⟩⟩
  ·repeat (first | (with_reducible refine Same.alloc' ?_ _) | (with_reducible refine Same.drew' ?_) | (with_reducible refine Same.drewN' ?_ _) | (with_reducible refine Same.set ?_ _ _ (by simp; done)) | (with_reducible refine Same.setNew ?_ _ _ (by simp <;> omega)) | (with_reducible exact Same.refl _ _))
  ·simp [heap_alloc', heap_setCell, size_set', hb, hne', cellPut]
  ·simp only [heap_alloc', size_set', ↓reduceIte, tokBlk]
theorem nine (k : Nat) (h : k < 9) : k = 0 ∨ k = 1 ∨ k = 2 ∨ k = 3 ∨ k = 4 ∨ k = 5 ∨ k = 6 ∨ k = 7 ∨ k = 8 := by omega
theorem formLab_vals : formLab 0 = false ∧ formLab 1 = false ∧ formLab 2 = true ∧ formLab 3 = true ∧ formLab 4 = false ∧ formLab 5 = true ∧ formLab 6 = true ∧ formLab 7 = false ∧ formLab 8 = false := ⟨rfl, rfl, rfl, rfl, rfl, rfl, rfl, rfl, rfl⟩
theorem between_none (w : World) (r : Nat) (A : RA) (R : Rd) (h : RdAt w r A R) (t : Tk) (hp : plainB t.text = false) (hk : keyN t.text = 9) :
  Calls Tryz.prog 59 #[.pointer (some ⟨r, 0, none⟩), .agg #[.string t.text, .int .i64 t.at_.off, .int .i64 t.at_.line, .int .i64 t.at_.col]] w (RdR r A (R.between t) w) := by
 have hpc := plain_calls t.text
 rw [hp] at hpc
 have hbk := byKey_calls t.text
 rw [hk] at hbk
 have H := Kd h
 have hx : R.between t = (60, R) := by simp [Rd.between, plainT, hp, hk]
 rw [hx]
 clear hx h hp hk
 go_enter Tryz.func59, Tryz.ntmps59
 go_wp2_with (first | (go_at_call 112; refine (hpc _).mono ?_; rintro e w' ⟨rfl, rfl⟩) | (go_at_call 113; refine (hbk _).mono ?_; rintro e W1 ⟨rfl, hs1⟩; dsimp only [formV]))
 go_ret
 exact RdR.stay H.out ((Same.alloc _ _ _).trans hs1)
theorem between_lab (w : World) (r : Nat) (A : RA) (R : Rd) (h : RdAt w r A R) (t : Tk) (hp : plainB t.text = false) (k : Nat) (hk : keyN t.text = k) (h9 : k < 9) (hl : formLab k ≠ R.label.isSome) :
    Calls Tryz.prog 59 #[.pointer (some ⟨r, 0, none⟩), .agg #[.string t.text, .int .i64 t.at_.off, .int .i64 t.at_.line, .int .i64 t.at_.col]] w (RdR r A (R.between t) w) := by
  have hpc := plain_calls t.text
  rw [hp] at hpc
  have hbk := byKey_calls t.text
  rw [hk] at hbk
  have H := Kd h
  have hx : R.between t = (61, R) := by simp [Rd.between, plainT, hp, hk, Nat.ne_of_lt h9, hl]
  rw [hx]
  have hla := h.label
  have hbd := fun w => bounds_calls w k h9
  clear hx h hp hk
  rcases nine k h9 with rfl | rfl | rfl | rfl | rfl | rfl | rfl | rfl | rfl
  all_goals
    simp only [formLab_vals] at hl
    cases hlb : R.label with
    | some x =>
      first
        | (exfalso; rw [hlb] at hl; exact hl rfl)
        | (rw [hlb] at hla
           obtain ⟨b, hlv, -⟩ := hla
           clear hl hlb
           dsimp only [formV] at hbk
           simp only [formLab_vals] at hbd
           go_enter Tryz.func59, Tryz.ntmps59
           go_wp2_with (first
             | (go_at_call 112; refine (hpc _).mono ?_; rintro e w' ⟨rfl, rfl⟩)
             | (go_at_call 113; refine (hbk _).mono ?_; rintro e W1 ⟨rfl, hs1⟩; have hs01 := (Same.alloc [] w (tokBlk t)).trans hs1)
             | (go_at_call 114; refine (hbd _).mono ?_; rintro e W2 ⟨rfl, hs2⟩; have hs02 := hs01.trans hs2; obtain ⟨e0, e1, e2, e3, e4, ef⟩ := (H.out.same hs02).facts; rw [hlv] at e1)
             )
           go_ret
           exact RdR.stay H.out hs02)
    | none =>
      first
        | (exfalso; rw [hlb] at hl; exact hl rfl)
        | (rw [hlb] at hla
           have hlv : A.lv = .pointer none := hla
           clear hl hlb hla
           dsimp only [formV] at hbk
           simp only [formLab_vals] at hbd
           go_enter Tryz.func59, Tryz.ntmps59
           go_wp2_with (first
             | (go_at_call 112; refine (hpc _).mono ?_; rintro e w' ⟨rfl, rfl⟩)
             | (go_at_call 113; refine (hbk _).mono ?_; rintro e W1 ⟨rfl, hs1⟩; have hs01 := (Same.alloc [] w (tokBlk t)).trans hs1)
             | (go_at_call 114; refine (hbd _).mono ?_; rintro e W2 ⟨rfl, hs2⟩; have hs02 := hs01.trans hs2; obtain ⟨e0, e1, e2, e3, e4, ef⟩ := (H.out.same hs02).facts; rw [hlv] at e1)
             )
           go_ret
           exact RdR.stay H.out hs02)
theorem stBlk_cells {w : World} {b : Nat} {s : St} {wv pv : Value} (h : w.heap[b]? = some (stBlk s wv pv)) :
  w.cell? ⟨b, 0, none⟩ = some (.int .i64 s.kind) ∧
  (w.cell? ⟨b, 1, none⟩ = some (.string s.label.text) ∧ w.cell? ⟨b, 2, none⟩ = some (.int .i64 s.label.at_.off) ∧ w.cell? ⟨b, 3, none⟩ = some (.int .i64 s.label.at_.line) ∧ w.cell? ⟨b, 4, none⟩ = some (.int .i64 s.label.at_.col)) ∧
  (w.cell? ⟨b, 5, none⟩ = some (.string s.key.text) ∧ w.cell? ⟨b, 6, none⟩ = some (.int .i64 s.key.at_.off) ∧ w.cell? ⟨b, 7, none⟩ = some (.int .i64 s.key.at_.line) ∧ w.cell? ⟨b, 8, none⟩ = some (.int .i64 s.key.at_.col)) ∧
  (w.cell? ⟨b, 9, none⟩ = some (.bool s.proving) ∧ w.cell? ⟨b, 10, none⟩ = some wv ∧ w.cell? ⟨b, 11, none⟩ = some pv) ∧
  (w.cell? ⟨b, 12, none⟩ = some (.string s.end_.text) ∧ w.cell? ⟨b, 13, none⟩ = some (.int .i64 s.end_.at_.off) ∧ w.cell? ⟨b, 14, none⟩ = some (.int .i64 s.end_.at_.line) ∧ w.cell? ⟨b, 15, none⟩ = some (.int .i64 s.end_.at_.col)) ∧ ∀ i, w.frozen? ⟨b, i, none⟩ = false :=
 ⟨blk_c h, ⟨blk_c h, blk_c h, blk_c h, blk_c h⟩, ⟨blk_c h, blk_c h, blk_c h, blk_c h⟩, ⟨blk_c h, blk_c h, blk_c h⟩, ⟨blk_c h, blk_c h, blk_c h, blk_c h⟩, blk_free h⟩
theorem Tryz.infoStmt : (Tryz.prog.info? 73).map (fun i => (i.zero, i.size, i.bytes)) = some (some (.agg #[.int .i64 0, .string ByteArray.empty, .int .i64 0, .int .i64 0, .int .i64 0, .string ByteArray.empty, .int .i64 0, .int .i64 0, .int .i64 0, .bool false, .slice none 0 0, .slice none 0 0, .string ByteArray.empty, .int .i64 0, .int .i64 0, .int .i64 0]), 16, 184) := by kernel_rfl
theorem St.cells_one (s : St) (wv pv : Value) (h1 : wv.oneCell' = true) (h2 : pv.oneCell' = true) : ∀ u ∈ s.cells wv pv, u.oneCell' = true := by
 intro u hu
 simp only [St.cells, Tk.cells, Ps.cells, List.mem_cons, List.mem_append, List.not_mem_nil, or_false] at hu
 rcases hu with rfl | (((rfl | rfl | rfl | rfl) | rfl | rfl | rfl | rfl) | rfl | rfl | rfl) | rfl | rfl | rfl | rfl <;> first | rfl | assumption
theorem own_nil : (Value.slice none 0 0).ownBlock = none := rfl
theorem RdAt.push {w w1 w' : World} {r : Nat} {A : RA} {R : Rd} {v1 : Value} {s : St} {p : Value × Value} (h : RdAt w r A R) (hr : Row w1 73 16 v1 (R.out.length + 1) (outCells R.out A.sv ++ s.cells p.1 p.2))
  (hs : Same A.vo.ownBlock.toList w w1) (ho : v1.ownBlock = A.vo.ownBlock ∨ ∃ b, v1.ownBlock = some b ∧ w.heap.size ≤ b) (hs' : Same [r] w1 w')
  (lv nv : Value) (lb : Option Tk) (what : Nat) (pr : Bool) (hb : w'.heap[r]? = some (.cells #[v1, lv, nv, formV what, .bool pr] 140 (0, 0)))
  (hp : StIn w' (RA.blocks ⟨v1, A.sv ++ [p], lv, nv, .slice none 0 0, .slice none 0 0⟩ r) s p) (hl : TkAt w (A.blocks r) lv lb) (hn : nv = .pointer none) :
  RdAt w' r ⟨v1, A.sv ++ [p], lv, nv, .slice none 0 0, .slice none 0 0⟩ ⟨R.out ++ [s], lb, none, what, pr⟩ ∧ Move (A.blocks r) (RA.blocks ⟨v1, A.sv ++ [p], lv, nv, .slice none 0 0, .slice none 0 0⟩ r) w w' := by
 subst hn
 have m : Move (A.blocks r) (RA.blocks ⟨v1, A.sv ++ [p], lv, .pointer none, .slice none 0 0, .slice none 0 0⟩ r) w w' := by
  refine ⟨fun b hb => ?_, Same.then (hs.mono (fun x hx => .inl ?_)) hs' (fun x hx => .inl ?_)⟩
  ·simp only [RA.blocks, List.mem_cons, List.mem_append, Option.mem_toList, Option.mem_def, own_nil, ptrB, List.not_mem_nil, reduceCtorEq, or_false] at hb ⊢
   rcases hb with rfl | hb
   ·exact .inl (.inl rfl)
   ·rcases ho with ho | ⟨c, hc, hle⟩
    ·rw [ho] at hb; exact .inl (.inr (.inl (.inl (.inl hb))))
    ·rw [hc] at hb; cases hb; exact .inr hle
  ·simp only [RA.blocks, List.mem_cons, List.mem_append]; exact .inr (.inl (.inl (.inl hx)))
  ·simp at hx; subst hx; simp [RA.blocks]
 have hne : v1.ownBlock ≠ some r := by
  rcases ho with ho | ⟨c, hc, hle⟩
  ·rw [ho]; exact h.out.ne h.blk (by decide)
  ·rw [hc]; intro e; cases e; have := blk_lt h.blk; omega
 refine ⟨⟨hb, ?_, (h.outs.imp (fun _ _ => StIn.move m)).snoc hp, hl.move m, ⟨rfl, rfl, rfl⟩⟩, m⟩
 have := hr.same hs' (fun b hv hm => by simp at hm; subst hm; exact hne hv)
 rw [← outCells_snoc s p R.out A.sv h.outs.len] at this
 simpa using this
theorem RdAt.begin {w w' : World} {r : Nat} {A : RA} {R : Rd} {B k : Nat} {s : St} (h : RdAt w r A R) (hnow : R.now = none) (hs : Same [r] w w') (hb : w'.heap[r]? = some (.cells #[A.vo, .pointer none, .pointer (some ⟨B, 0, none⟩), formV k, .bool false] 140 (0, 0)))
  (hB : w'.heap[B]? = some (stBlk s (.slice none 0 0) (.slice none 0 0))) (hBn : w.heap.size ≤ B) (hw : s.words = []) (hp : s.proof = []) :
  RdAt w' r ⟨A.vo, A.sv, .pointer none, .pointer (some ⟨B, 0, none⟩), .slice none 0 0, .slice none 0 0⟩ ⟨R.out, none, some s, k, false⟩ ∧ Move (A.blocks r) (RA.blocks ⟨A.vo, A.sv, .pointer none, .pointer (some ⟨B, 0, none⟩), .slice none 0 0, .slice none 0 0⟩ r) w w' := by
 have m : Move (A.blocks r) (RA.blocks ⟨A.vo, A.sv, .pointer none, .pointer (some ⟨B, 0, none⟩), .slice none 0 0, .slice none 0 0⟩ r) w w' := by
  refine ⟨fun b hb => ?_, hs.mono (fun x hx => .inl (by simp at hx; subst hx; simp [RA.blocks]))⟩
  simp only [RA.blocks, List.mem_cons, List.mem_append, Option.mem_toList, Option.mem_def, own_nil, ptrB, List.not_mem_nil, reduceCtorEq, or_false] at hb ⊢
  rcases hb with rfl | hb | rfl
  ·exact .inl (.inl rfl)
  ·exact .inl (.inr (.inl (.inl (.inl hb))))
  ·exact .inr hBn
 refine ⟨⟨hb, h.out.same hs (fun b hb' hm => ?_), h.outs.imp (fun _ _ => StIn.move m), rfl, ?_⟩, m⟩
 ·simp at hm; subst hm; exact h.out.ne h.blk (by decide) hb'
 ·refine ⟨⟨B, rfl, hB, fun e => ?_⟩, ?_, ?_, ?_⟩
  ·have := h.out.lt e; omega
  ·rw [hw]; exact World.ownsRow_nil _ _ _ _
  ·rw [hp]; exact World.ownsRow_nil _ _ _ _
  ·intro b hb; simp [Value.ownBlock] at hb
theorem RdAt.nowUpd {w w' : World} {r : Nat} {A : RA} {R : Rd} {s s' : St} {nw' np' : Value} {pr : Bool} {B : Nat} (h : RdAt w r A R) (hnow : R.now = some s) (hnv : A.nv = .pointer (some ⟨B, 0, none⟩)) (hs : Same (r :: B :: (A.nw.ownBlock.toList ++ A.np.ownBlock.toList)) w w')
  (hb : w'.heap[r]? = some (.cells #[A.vo, A.lv, A.nv, formV R.what, .bool pr] 140 (0, 0))) (hB : w'.heap[B]? = some (stBlk s' nw' np'))
  (hw : Row w' 54 4 nw' s'.words.length (tkCells s'.words)) (hp : Row w' 54 4 np' s'.proof.length (tkCells s'.proof)) (hap : ∀ b, nw'.ownBlock = some b → np'.ownBlock ≠ some b)
  (h1 : nw'.ownBlock = A.nw.ownBlock ∨ ∃ b, nw'.ownBlock = some b ∧ w.heap.size ≤ b) (h2 : np'.ownBlock = A.np.ownBlock ∨ ∃ b, np'.ownBlock = some b ∧ w.heap.size ≤ b) :
  RdAt w' r ⟨A.vo, A.sv, A.lv, A.nv, nw', np'⟩ ⟨R.out, R.label, some s', R.what, pr⟩ ∧ Move (A.blocks r) (RA.blocks ⟨A.vo, A.sv, A.lv, A.nv, nw', np'⟩ r) w w' := by
 have hn := h.now
 rw [hnow] at hn
 obtain ⟨B', e1, hB0, hvB⟩ := hn.at_
 have : B' = B := by rw [hnv] at e1; cases e1; rfl
 subst this
 have m : Move (A.blocks r) (RA.blocks ⟨A.vo, A.sv, A.lv, A.nv, nw', np'⟩ r) w w' := by
  refine ⟨fun b hb => ?_, hs.mono (fun x hx => .inl ?_)⟩
  ·simp only [RA.blocks, List.mem_cons, List.mem_append, Option.mem_toList, Option.mem_def] at hb ⊢
   rcases hb with rfl | ((hb | hb) | hb) | hb
   ·exact .inl (.inl rfl)
   ·exact .inl (.inr (.inl (.inl (.inl hb))))
   ·exact .inl (.inr (.inl (.inl (.inr hb))))
   ·rcases h1 with h1 | ⟨c, hc, hle⟩
    ·rw [h1] at hb; exact .inl (.inr (.inl (.inr hb)))
    ·rw [hc] at hb; cases hb; exact .inr hle
   ·rcases h2 with h1 | ⟨c, hc, hle⟩
    ·rw [h1] at hb; exact .inl (.inr (.inr hb))
    ·rw [hc] at hb; cases hb; exact .inr hle
  ·simp only [RA.blocks, hnv, ptrB, List.mem_cons, List.mem_append, Option.mem_toList, Option.mem_def, List.not_mem_nil, or_false] at hx ⊢
   rcases hx with rfl | rfl | hx | hx
   ·exact .inl rfl
   ·exact .inr (.inl (.inl (.inr rfl)))
   ·exact .inr (.inl (.inr hx))
   ·exact .inr (.inr hx)
 refine ⟨⟨hb, h.out.same hs (fun b hv hm => ?_), h.outs.imp (fun _ _ => StIn.move m), h.label.move m, ⟨⟨B', hnv, hB, hvB⟩, hw, hp, hap⟩⟩, m⟩
 simp only [List.mem_cons, List.mem_append, Option.mem_toList, Option.mem_def] at hm
 rcases hm with rfl | rfl | hm | hm
 ·exact h.out.ne h.blk (by decide) hv
 ·exact hvB hv
 ·exact h.out.ne_row hn.words (by decide) hm hv
 ·exact h.out.ne_row hn.proof (by decide) hm hv
theorem RdAt.nowFacts {w : World} {r : Nat} {A : RA} {R : Rd} {s : St} (h : RdAt w r A R) (hnow : R.now = some s) : ∃ B Aw cw Ap cp, A.nv = .pointer (some ⟨B, 0, none⟩) ∧ A.nw = .slice Aw s.words.length cw ∧ A.np = .slice Ap s.proof.length cp ∧ w.heap[B]? = some (stBlk s A.nw A.np) ∧ B ≠ r ∧
  A.nw.ownBlock ≠ some r ∧ A.np.ownBlock ≠ some r ∧ A.nw.ownBlock ≠ some B ∧ A.np.ownBlock ≠ some B ∧ A.vo.ownBlock ≠ some B ∧ A.vo.ownBlock ≠ some r ∧ Row w 54 4 A.nw s.words.length (tkCells s.words) ∧ Row w 54 4 A.np s.proof.length (tkCells s.proof) ∧ (∀ b, A.nw.ownBlock = some b → A.np.ownBlock ≠ some b) ∧
  (∀ b, A.nw.ownBlock = some b → A.vo.ownBlock ≠ some b) ∧ (∀ b, A.np.ownBlock = some b → A.vo.ownBlock ≠ some b) := by
 have hn := h.now
 rw [hnow] at hn
 obtain ⟨B, e1, hB0, hvB⟩ := hn.at_
 obtain ⟨Aw, cw, hw⟩ := hn.words.shape
 obtain ⟨Ap, cp, hp⟩ := hn.proof.shape
 exact ⟨B, Aw, cw, Ap, cp, e1, hw, hp, hB0, (by rintro rfl; have := h.blk; rw [hB0] at this; simp [stBlk] at this), hn.words.ne h.blk (by decide), hn.proof.ne h.blk (by decide), hn.words.ne hB0 (by decide), hn.proof.ne hB0 (by decide), hvB, h.out.ne h.blk (by decide), hn.words, hn.proof, hn.apart,
  fun b hb => h.out.ne_row hn.words (by decide) hb, fun b hb => h.out.ne_row hn.proof (by decide) hb⟩
end Go.Proofs.YtdhkmfpfbjcdiaaGreatDoor
