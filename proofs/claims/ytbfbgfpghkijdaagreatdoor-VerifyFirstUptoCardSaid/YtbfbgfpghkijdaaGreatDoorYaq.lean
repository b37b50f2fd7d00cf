/- lemmalaw texts, part 17. -/
import Derived.Test.YtbfbgfpghkijdaaGreatDoorYap
import Derived.Deep.DeepFit
set_option maxRecDepth 100000
set_option linter.unusedVariables false
set_option linter.unusedSimpArgs false
set_option maxHeartbeats 32000000
namespace Go.Proofs.YtbfbgfpghkijdaaGreatDoor
open Go.RowKit
theorem RT (k : Nat) (h : k < 9) : k = 0 ∨ k = 1 ∨ k = 2 ∨ k = 3 ∨ k = 4 ∨ k = 5 ∨ k = 6 ∨ k = 7 ∨ k = 8 := by omega
theorem BA : BQ 0 = false ∧ BQ 1 = false ∧ BQ 2 = true ∧ BQ 3 = true ∧ BQ 4 = false ∧ BQ 5 = true ∧ BQ 6 = true ∧ BQ 7 = false ∧ BQ 8 = false := ⟨rfl, rfl, rfl, rfl, rfl, rfl, rfl, rfl, rfl⟩
theorem LH (w : World) (r : Nat) (A : RA) (R : Rd) (h : BD w r A R) (t : Tk) (hp : BG t.text = false) (hk : DR t.text = 9) :
  Calls Tryz.prog 56 #[.pointer (some ⟨r, 0, none⟩), .agg #[.string t.text, .int .i64 t.at_.off, .int .i64 t.at_.line, .int .i64 t.at_.col]] w (RdR r A (R.between t) w) := by
 have hpc := Bc t.text
 rw [hp] at hpc
 have hbk := BU t.text
 rw [hk] at hbk
 have H := Kd h
 have hx : R.between t = (60, R) := by simp [Rd.between, B5, hp, hk]
 rw [hx]
 clear hx h hp hk
 go_enter Tryz.func56, Tryz.ntmps56
 go_wp2_with (first | (go_at_call 105; refine (hpc _).mono ?_; rintro e w' ⟨rfl, rfl⟩) | (go_at_call 106; refine (hbk _).mono ?_; rintro e W1 ⟨rfl, hs1⟩; dsimp only [BI]))
 go_ret
 exact RdR.stay H.out ((Ad.alloc _ _ _).trans hs1)
theorem Nc (w : World) (r : Nat) (A : RA) (R : Rd) (h : BD w r A R) (t : Tk) (hp : BG t.text = false) (k : Nat) (hk : DR t.text = k) (h9 : k < 9) (hl : BQ k ≠ R.label.isSome) :
    Calls Tryz.prog 56 #[.pointer (some ⟨r, 0, none⟩), .agg #[.string t.text, .int .i64 t.at_.off, .int .i64 t.at_.line, .int .i64 t.at_.col]] w (RdR r A (R.between t) w) := by
  have hpc := Bc t.text
  rw [hp] at hpc
  have hbk := BU t.text
  rw [hk] at hbk
  have H := Kd h
  have hx : R.between t = (61, R) := by simp [Rd.between, B5, hp, hk, Nat.ne_of_lt h9, hl]
  rw [hx]
  have hla := h.label
  have hbd := fun w => Bb w k h9
  clear hx h hp hk
  rcases RT k h9 with rfl | rfl | rfl | rfl | rfl | rfl | rfl | rfl | rfl
  all_goals
    simp only [BA] at hl
    cases hlb : R.label with
    | some x =>
      first
        | (exfalso; rw [hlb] at hl; exact hl rfl)
        | (rw [hlb] at hla
           obtain ⟨b, hlv, -⟩ := hla
           clear hl hlb
           dsimp only [BI] at hbk
           simp only [BA] at hbd
           go_enter Tryz.func56, Tryz.ntmps56
           go_wp2_with (first
             | (go_at_call 105; refine (hpc _).mono ?_; rintro e w' ⟨rfl, rfl⟩)
             | (go_at_call 106; refine (hbk _).mono ?_; rintro e W1 ⟨rfl, hs1⟩; have hs01 := (Ad.alloc [] w (AP t)).trans hs1)
             | (go_at_call 107; refine (hbd _).mono ?_; rintro e W2 ⟨rfl, hs2⟩; have hs02 := hs01.trans hs2; obtain ⟨e0, e1, e2, e3, e4, ef⟩ := (H.out.same hs02).facts; rw [hlv] at e1)
             )
           go_ret
           exact RdR.stay H.out hs02)
    | none =>
      first
        | (exfalso; rw [hlb] at hl; exact hl rfl)
        | (rw [hlb] at hla
           have hlv : A.lv = .pointer none := hla
           clear hl hlb hla
           dsimp only [BI] at hbk
           simp only [BA] at hbd
           go_enter Tryz.func56, Tryz.ntmps56
           go_wp2_with (first
             | (go_at_call 105; refine (hpc _).mono ?_; rintro e w' ⟨rfl, rfl⟩)
             | (go_at_call 106; refine (hbk _).mono ?_; rintro e W1 ⟨rfl, hs1⟩; have hs01 := (Ad.alloc [] w (AP t)).trans hs1)
             | (go_at_call 107; refine (hbd _).mono ?_; rintro e W2 ⟨rfl, hs2⟩; have hs02 := hs01.trans hs2; obtain ⟨e0, e1, e2, e3, e4, ef⟩ := (H.out.same hs02).facts; rw [hlv] at e1)
             )
           go_ret
           exact RdR.stay H.out hs02)
theorem AS {w : World} {b : Nat} {s : St} {wv pv : Value} (h : w.heap[b]? = some (Bj s wv pv)) :
  w.cell? ⟨b, 0, none⟩ = some (.int .i64 s.kind) ∧
  (w.cell? ⟨b, 1, none⟩ = some (.string s.label.text) ∧ w.cell? ⟨b, 2, none⟩ = some (.int .i64 s.label.at_.off) ∧ w.cell? ⟨b, 3, none⟩ = some (.int .i64 s.label.at_.line) ∧ w.cell? ⟨b, 4, none⟩ = some (.int .i64 s.label.at_.col)) ∧
  (w.cell? ⟨b, 5, none⟩ = some (.string s.key.text) ∧ w.cell? ⟨b, 6, none⟩ = some (.int .i64 s.key.at_.off) ∧ w.cell? ⟨b, 7, none⟩ = some (.int .i64 s.key.at_.line) ∧ w.cell? ⟨b, 8, none⟩ = some (.int .i64 s.key.at_.col)) ∧
  (w.cell? ⟨b, 9, none⟩ = some (.bool s.proving) ∧ w.cell? ⟨b, 10, none⟩ = some wv ∧ w.cell? ⟨b, 11, none⟩ = some pv) ∧
  (w.cell? ⟨b, 12, none⟩ = some (.string s.end_.text) ∧ w.cell? ⟨b, 13, none⟩ = some (.int .i64 s.end_.at_.off) ∧ w.cell? ⟨b, 14, none⟩ = some (.int .i64 s.end_.at_.line) ∧ w.cell? ⟨b, 15, none⟩ = some (.int .i64 s.end_.at_.col)) ∧ ∀ i, w.frozen? ⟨b, i, none⟩ = false :=
 ⟨Ai h, ⟨Ai h, Ai h, Ai h, Ai h⟩, ⟨Ai h, Ai h, Ai h, Ai h⟩, ⟨Ai h, Ai h, Ai h⟩, ⟨Ai h, Ai h, Ai h, Ai h⟩, AE h⟩
theorem Tryz.infoStmt : (Tryz.prog.info? 98).map (fun i => (i.zero, i.size, i.bytes)) = some (some (.agg #[.int .i64 0, .string ByteArray.empty, .int .i64 0, .int .i64 0, .int .i64 0, .string ByteArray.empty, .int .i64 0, .int .i64 0, .int .i64 0, .bool false, .slice none 0 0, .slice none 0 0, .string ByteArray.empty, .int .i64 0, .int .i64 0, .int .i64 0]), 16, 184) := by kernel_rfl
theorem St.cells_one (s : St) (wv pv : Value) (h1 : wv.oneCell' = true) (h2 : pv.oneCell' = true) : ∀ u ∈ s.cells wv pv, u.oneCell' = true := by
 intro u hu
 simp only [St.cells, Tk.cells, Ps.cells, List.mem_cons, List.mem_append, List.not_mem_nil, or_false] at hu
 rcases hu with rfl | (((rfl | rfl | rfl | rfl) | rfl | rfl | rfl | rfl) | rfl | rfl | rfl) | rfl | rfl | rfl | rfl <;> first | rfl | assumption
theorem Jd : (Value.slice none 0 0).ownBlock = none := rfl
theorem BD.push {w w1 w' : World} {r : Nat} {A : RA} {R : Rd} {v1 : Value} {s : St} {p : Value × Value} (h : BD w r A R) (hr : Row w1 98 16 v1 (R.out.length + 1) (BY R.out A.sv ++ s.cells p.1 p.2))
  (hs : Ad A.vo.ownBlock.toList w w1) (ho : v1.ownBlock = A.vo.ownBlock ∨ ∃ b, v1.ownBlock = some b ∧ w.heap.size ≤ b) (hs' : Ad [r] w1 w')
  (lv nv : Value) (lb : Option Tk) (what : Nat) (pr : Bool) (hb : w'.heap[r]? = some (.cells #[v1, lv, nv, BI what, .bool pr] 145 (0, 0)))
  (hp : F3 w' (RA.blocks ⟨v1, A.sv ++ [p], lv, nv, .slice none 0 0, .slice none 0 0⟩ r) s p) (hl : OZ w (A.blocks r) lv lb) (hn : nv = .pointer none) :
  BD w' r ⟨v1, A.sv ++ [p], lv, nv, .slice none 0 0, .slice none 0 0⟩ ⟨R.out ++ [s], lb, none, what, pr⟩ ∧ AN (A.blocks r) (RA.blocks ⟨v1, A.sv ++ [p], lv, nv, .slice none 0 0, .slice none 0 0⟩ r) w w' := by
 subst hn
 have m : AN (A.blocks r) (RA.blocks ⟨v1, A.sv ++ [p], lv, .pointer none, .slice none 0 0, .slice none 0 0⟩ r) w w' := by
  refine ⟨fun b hb => ?_, Ad.then (hs.mono (fun x hx => .inl ?_)) hs' (fun x hx => .inl ?_)⟩
  ·simp only [RA.blocks, List.mem_cons, List.mem_append, Option.mem_toList, Option.mem_def, Jd, Jw, List.not_mem_nil, reduceCtorEq, or_false] at hb ⊢
   rcases hb with rfl | hb
   ·exact .inl (.inl rfl)
   ·rcases ho with ho | ⟨c, hc, hle⟩
    ·rw [ho] at hb; exact .inl (.inr (.inl (.inl (.inl hb))))
    ·rw [hc] at hb; cases hb; exact .inr hle
  ·simp only [RA.blocks, List.mem_cons, List.mem_append]; exact .inr (.inl (.inl (.inl hx)))
  ·simp at hx; subst hx; simp [RA.blocks]
 have hne : v1.ownBlock ≠ some r := by
  rcases ho with ho | ⟨c, hc, hle⟩
  ·rw [ho]; exact h.out.ne h.blk (by decide)
  ·rw [hc]; intro e; cases e; have := Af h.blk; omega
 refine ⟨⟨hb, ?_, (h.outs.imp (fun _ _ => F3.move m)).snoc hp, hl.move m, ⟨rfl, rfl, rfl⟩⟩, m⟩
 have := hr.same hs' (fun b hv hm => by simp at hm; subst hm; exact hne hv)
 rw [← ER s p R.out A.sv h.outs.len] at this
 simpa using this
theorem BD.begin {w w' : World} {r : Nat} {A : RA} {R : Rd} {B k : Nat} {s : St} (h : BD w r A R) (hnow : R.now = none) (hs : Ad [r] w w') (hb : w'.heap[r]? = some (.cells #[A.vo, .pointer none, .pointer (some ⟨B, 0, none⟩), BI k, .bool false] 145 (0, 0)))
  (hB : w'.heap[B]? = some (Bj s (.slice none 0 0) (.slice none 0 0))) (hBn : w.heap.size ≤ B) (hw : s.words = []) (hp : s.proof = []) :
  BD w' r ⟨A.vo, A.sv, .pointer none, .pointer (some ⟨B, 0, none⟩), .slice none 0 0, .slice none 0 0⟩ ⟨R.out, none, some s, k, false⟩ ∧ AN (A.blocks r) (RA.blocks ⟨A.vo, A.sv, .pointer none, .pointer (some ⟨B, 0, none⟩), .slice none 0 0, .slice none 0 0⟩ r) w w' := by
 have m : AN (A.blocks r) (RA.blocks ⟨A.vo, A.sv, .pointer none, .pointer (some ⟨B, 0, none⟩), .slice none 0 0, .slice none 0 0⟩ r) w w' := by
  refine ⟨fun b hb => ?_, hs.mono (fun x hx => .inl (by simp at hx; subst hx; simp [RA.blocks]))⟩
  simp only [RA.blocks, List.mem_cons, List.mem_append, Option.mem_toList, Option.mem_def, Jd, Jw, List.not_mem_nil, reduceCtorEq, or_false] at hb ⊢
  rcases hb with rfl | hb | rfl
  ·exact .inl (.inl rfl)
  ·exact .inl (.inr (.inl (.inl (.inl hb))))
  ·exact .inr hBn
 refine ⟨⟨hb, h.out.same hs (fun b hb' hm => ?_), h.outs.imp (fun _ _ => F3.move m), rfl, ?_⟩, m⟩
 ·simp at hm; subst hm; exact h.out.ne h.blk (by decide) hb'
 ·refine ⟨⟨B, rfl, hB, fun e => ?_⟩, ?_, ?_, ?_⟩
  ·have := h.out.lt e; omega
  ·rw [hw]; exact World.ownsRow_nil _ _ _ _
  ·rw [hp]; exact World.ownsRow_nil _ _ _ _
  ·intro b hb; simp [Value.ownBlock] at hb
theorem BD.nowUpd {w w' : World} {r : Nat} {A : RA} {R : Rd} {s s' : St} {nw' np' : Value} {pr : Bool} {B : Nat} (h : BD w r A R) (hnow : R.now = some s) (hnv : A.nv = .pointer (some ⟨B, 0, none⟩)) (hs : Ad (r :: B :: (A.nw.ownBlock.toList ++ A.np.ownBlock.toList)) w w')
  (hb : w'.heap[r]? = some (.cells #[A.vo, A.lv, A.nv, BI R.what, .bool pr] 145 (0, 0))) (hB : w'.heap[B]? = some (Bj s' nw' np'))
  (hw : Row w' 59 4 nw' s'.words.length (AC s'.words)) (hp : Row w' 59 4 np' s'.proof.length (AC s'.proof)) (hap : ∀ b, nw'.ownBlock = some b → np'.ownBlock ≠ some b)
  (h1 : nw'.ownBlock = A.nw.ownBlock ∨ ∃ b, nw'.ownBlock = some b ∧ w.heap.size ≤ b) (h2 : np'.ownBlock = A.np.ownBlock ∨ ∃ b, np'.ownBlock = some b ∧ w.heap.size ≤ b) :
  BD w' r ⟨A.vo, A.sv, A.lv, A.nv, nw', np'⟩ ⟨R.out, R.label, some s', R.what, pr⟩ ∧ AN (A.blocks r) (RA.blocks ⟨A.vo, A.sv, A.lv, A.nv, nw', np'⟩ r) w w' := by
 have hn := h.now
 rw [hnow] at hn
 obtain ⟨B', e1, hB0, hvB⟩ := hn.at_
 have : B' = B := by rw [hnv] at e1; cases e1; rfl
 subst this
 have m : AN (A.blocks r) (RA.blocks ⟨A.vo, A.sv, A.lv, A.nv, nw', np'⟩ r) w w' := by
  refine ⟨fun b hb => ?_, hs.mono (fun x hx => .inl ?_)⟩
  ·simp only [RA.blocks, List.mem_cons, List.mem_append, Option.mem_toList, Option.mem_def] at hb ⊢
   rcases hb with rfl | ((hb | hb) | hb) | hb
   ·exact .inl (.inl rfl)
   ·exact .inl (.inr (.inl (.inl (.inl hb))))
   ·exact .inl (.inr (.inl (.inl (.inr hb))))
   ·rcases h1 with h1 | ⟨c, hc, hle⟩
    ·rw [h1] at hb; exact .inl (.inr (.inl (.inr hb)))
    ·rw [hc] at hb; cases hb; exact .inr hle
   ·rcases h2 with h1 | ⟨c, hc, hle⟩
    ·rw [h1] at hb; exact .inl (.inr (.inr hb))
    ·rw [hc] at hb; cases hb; exact .inr hle
  ·simp only [RA.blocks, hnv, Jw, List.mem_cons, List.mem_append, Option.mem_toList, Option.mem_def, List.not_mem_nil, or_false] at hx ⊢
   rcases hx with rfl | rfl | hx | hx
   ·exact .inl rfl
   ·exact .inr (.inl (.inl (.inr rfl)))
   ·exact .inr (.inl (.inr hx))
   ·exact .inr (.inr hx)
 refine ⟨⟨hb, h.out.same hs (fun b hv hm => ?_), h.outs.imp (fun _ _ => F3.move m), h.label.move m, ⟨⟨B', hnv, hB, hvB⟩, hw, hp, hap⟩⟩, m⟩
 simp only [List.mem_cons, List.mem_append, Option.mem_toList, Option.mem_def] at hm
 rcases hm with rfl | rfl | hm | hm
 ·exact h.out.ne h.blk (by decide) hv
 ·exact hvB hv
 ·exact h.out.ne_row hn.words (by decide) hm hv
 ·exact h.out.ne_row hn.proof (by decide) hm hv
theorem BD.nowFacts {w : World} {r : Nat} {A : RA} {R : Rd} {s : St} (h : BD w r A R) (hnow : R.now = some s) : ∃ B Aw cw Ap cp, A.nv = .pointer (some ⟨B, 0, none⟩) ∧ A.nw = .slice Aw s.words.length cw ∧ A.np = .slice Ap s.proof.length cp ∧ w.heap[B]? = some (Bj s A.nw A.np) ∧ B ≠ r ∧
  A.nw.ownBlock ≠ some r ∧ A.np.ownBlock ≠ some r ∧ A.nw.ownBlock ≠ some B ∧ A.np.ownBlock ≠ some B ∧ A.vo.ownBlock ≠ some B ∧ A.vo.ownBlock ≠ some r ∧ Row w 59 4 A.nw s.words.length (AC s.words) ∧ Row w 59 4 A.np s.proof.length (AC s.proof) ∧ (∀ b, A.nw.ownBlock = some b → A.np.ownBlock ≠ some b) ∧
  (∀ b, A.nw.ownBlock = some b → A.vo.ownBlock ≠ some b) ∧ (∀ b, A.np.ownBlock = some b → A.vo.ownBlock ≠ some b) := by
 have hn := h.now
 rw [hnow] at hn
 obtain ⟨B, e1, hB0, hvB⟩ := hn.at_
 obtain ⟨Aw, cw, hw⟩ := hn.words.shape
 obtain ⟨Ap, cp, hp⟩ := hn.proof.shape
 exact ⟨B, Aw, cw, Ap, cp, e1, hw, hp, hB0, (by rintro rfl; have := h.blk; rw [hB0] at this; simp [Bj] at this), hn.words.ne h.blk (by decide), hn.proof.ne h.blk (by decide), hn.words.ne hB0 (by decide), hn.proof.ne hB0 (by decide), hvB, h.out.ne h.blk (by decide), hn.words, hn.proof, hn.apart,
  fun b hb => h.out.ne_row hn.words (by decide) hb, fun b hb => h.out.ne_row hn.proof (by decide) hb⟩
theorem zq14 {P : Prop} (h : P := by
 have c15 := Dn
 obtain ⟨g0, ⟨g1, g2, g3, g4⟩, ⟨g5, g6, g7, g8⟩, ⟨g9, g10, g11⟩, ⟨g12, g13, g14, g15⟩, gf⟩ := AS hB4
 have hBl := Af hB4
 go_wp2
 generalize hW5 : World.alloc _ _ = W5
 have hB5 : W5.heap[B]? = some (Bj ⟨8, Tk.none, t, false, [], [], t⟩ (.slice none 0 0) (.slice none 0 0)) := by
  rw [← hW5]
  simp only [AZ, Az, Ba, ↓reduceIte, hB4, Option.map_some, AV, Bj, if_neg (show B ≠ W4.heap.size by omega)]
  rfl
 have hs5 : Ad [] w W5 := by
  rw [← hW5]
  refine Ad.then (S := []) (T := [B]) hs4 ?_ (fun x hx => .inr (by simp at hx; omega))
  exact Ad.A
 clear hW5 c15 e0 e1 e2 e3 e4 ef k0 k1 k2 k3 kf g0 g1 g2 g3 g4 g5 g6 g7 g8 g9 g10 g11 g12 g13 g14 g15 gf H4 hb4 hr4 hw4 hB4 hBl hs4
 have H5 := Kd (H.out.same hs5)
 obtain ⟨e0, e1, e2, e3, e4, ef⟩ := H5.out.facts
 have hrow5 := H5.out.out
 rw [hlv] at e1
 rw [Hvo.out] at e0 hrow5
 obtain ⟨g0, ⟨g1, g2, g3, g4⟩, ⟨g5, g6, g7, g8⟩, ⟨g9, g10, g11⟩, ⟨g12, g13, g14, g15⟩, gf⟩ := AS hB5
 have hBl := Af hB5
 have hr5 := Af H5.out.blk
 refine AD (.read 0 (.read 1 (.read 2 (.read 3 (.read 4 (.read 5 (.one 6 [0, 1, 2, 3, 4] (.one 7 [0] (.read 8 (.read 9 (.one 10 [] (.done)))))))))))) (by kernel_rfl) (by kernel_rfl) ?_
 iterate 6 (refine An rfl (fun K hK => ?_); go_simp; (try go_bits); (try (rw [if_pos (by omega)]; go_simp)); refine hK _ ?_; clear hK K)
 refine Ak rfl ?_
 go_wp2
 refine EQ.A ?_
 refine Ak rfl ?_
 refine Bh rfl _ _ 86 rfl 98 16 184 _ Tryz.underlying86 Tryz.infoStmt rfl (by decide) (.slice Av R.out.length cv) _ _ rfl (hrow5.same (Ad.drew [] _) (by simp)) (St.cells ⟨8, Tk.none, t, false, [], [], t⟩ (.slice none 0 0) (.slice none 0 0)) rfl rfl (St.cells_one _ _ _ rfl rfl) (by omega) (by decide) ?_
 intro v6 W6 hrow6 hsm6 hor6
 obtain ⟨A6, c6, rfl⟩ := hrow6.shape
 rw [← Hvo.out] at hsm6 hor6
 have hb6 := hsm6.get (w := W5.drew) H5.out.blk (by have := H5.out.out.ne H5.out.blk (by decide); simpa using this)
 have c60 := Ai (i := 0) (v := A.vo) hb6 rfl
 have f60 := AE hb6
 go_wp2
 refine EQ.A ?_
 iterate 2 (refine An rfl (fun K hK => ?_); go_simp; (try go_bits); (try (rw [if_pos (by omega)]; go_simp)); refine hK _ ?_; clear hK K)
 refine Ak rfl ?_
 go_wp2
 refine EQ.A ?_
 refine AB ?_
 clear e0 e1 e2 e3 e4 ef g0 g1 g2 g3 g4 g5 g6 g7 g8 g9 g10 g11 g12 g13 g14 g15 gf hrow5
 go_wp2
 go_ret
 have hfin := (H5.out.same (Ad.drew [] W5)).push (s := ⟨8, Tk.none, t, false, [], [], t⟩) (p := (.slice none 0 0, .slice none 0 0)) hrow6 hsm6 hor6 (Ad.setCell W6 ⟨r, 0, none⟩ (.slice A6 (R.out.length + 1) c6) (S := [r]) (by simp)) A.lv A.nv none R.what R.proves
  (by rw [AI hb6]; rfl) ⟨Fix.nil _ _ _ _, Fix.nil _ _ _ _⟩ Hlv.out Hnv.out
 rw [Hx.out]
 exact ⟨rfl, _, hfin.1, (AN.of_same (hs5.trans (Ad.drew [] W5))).trans hfin.2⟩) : P := h
theorem LI (w : World) (r : Nat) (A : RA) (R : Rd) (h : BD w r A R) (t : Tk) (hp : BG t.text = false) (hk : DR t.text = 7) (hlb : R.label = none) (hnow : R.now = none) (hn : R.out.length < 1000000) :
  Calls Tryz.prog 56 #[.pointer (some ⟨r, 0, none⟩), .agg #[.string t.text, .int .i64 t.at_.off, .int .i64 t.at_.line, .int .i64 t.at_.col]] w (RdR r A (R.between t) w) := by
 have hpc := Bc t.text
 rw [hp] at hpc
 have hbk := BU t.text
 rw [hk] at hbk
 have H := Kd h
 have hla := h.label
 rw [hlb] at hla
 have hlv : A.lv = .pointer none := hla
 have hbd := fun w => Bb w 7 (by omega)
 obtain ⟨Av, cv, hvo⟩ := h.out.shape
 have Hvo := Kd hvo
 have hno := h.now
 rw [hnow] at hno
 have Hnv := Kd hno.1
 have Hlv := Kd hlv
 have hx : R.between t = (0, ⟨R.out ++ [⟨8, Tk.none, t, false, [], [], t⟩], none, none, R.what, R.proves⟩) := by
  have hf : BQ 7 = false := rfl
  simp [Rd.between, B5, hp, hk, hlb, hf, hnow]
 have Hx := Kd hx
 have m4 := Gt
 have hlt := Af h.blk
 clear h hp hk hla hlb hvo hno hnow hx
 simp only [BA] at hbd
 dsimp only [BI] at hbk
 go_enter Tryz.func56, Tryz.ntmps56
 go_wp2_with (first
  | (go_at_call 105; refine (hpc _).mono ?_; rintro e w' ⟨rfl, rfl⟩)
  | (go_at_call 106; refine (hbk _).mono ?_; rintro e W1 ⟨rfl, hs1⟩; have hs01 := (Ad.alloc [] w (AP t)).trans hs1)
  | (go_at_call 107; go_must (refine (hbd _).mono ?_; rintro e W2 ⟨rfl, hs2⟩; have hs02 := hs01.trans hs2; have H2 := Kd (H.out.same hs02); obtain ⟨e0, e1, e2, e3, e4, ef⟩ := H2.out.facts; rw [hlv] at e1; have hr2 := Af H2.out.blk; have hb2 := (hs1.trans hs2).get (Aj w (AP t)) (by simp); obtain ⟨k0, k1, k2, k3, kf⟩ := At hb2; have hw2 := Af hb2; clear hs2))
  )
 refine AD (.read 0 (.read 2 (.two 1 [2] (.read 3 (.one 4 [0, 2, 1, 3] (.one 5 [] (.done)))) 4 [0, 2] (.one 1 [2, 4] (.read 3 (.one 5 [] (.done))))))) (by kernel_rfl) (by kernel_rfl) ?_
 iterate 2 (refine An rfl (fun K hK => ?_); go_simp; (try go_bits); (try (rw [if_pos (by omega)]; go_simp)); refine hK _ ?_; clear hK K)
 refine By rfl rfl ?_ ?_
 ·go_wp2_with (go_at_call 249; refine (Bf _ _ _ rfl rfl).mono ?_; rintro e' W3 ⟨rfl, hs3⟩)
  have hs23 := (Ad.drew [] W2).trans hs3
  have H3 := Kd (H2.out.same hs23)
  have hb3 := hs23.get hb2 (by simp)
  clear e0 e1 e2 e3 e4 ef k0 k1 k2 k3 kf
  obtain ⟨e0, e1, e2, e3, e4, ef⟩ := H3.out.facts
  rw [hlv] at e1
  obtain ⟨k0, k1, k2, k3, kf⟩ := At hb3
  have hr3 := Af H3.out.blk
  have hw3 := Af hb3
  refine EQ.A ?_
  iterate 1 (refine An rfl (fun K hK => ?_); go_simp; (try go_bits); (try (rw [if_pos (by omega)]; go_simp)); refine hK _ ?_; clear hK K)
  refine Ak rfl ?_
  go_wp2
  refine EQ.A ?_
  refine Ak rfl ?_
  go_wp2
  refine EQ.A ?_
  refine AB ?_
  generalize hW4 : W3.alloc (Obj.cells _ _ _) = W4
  have hB4 : W4.heap[W3.heap.size]? = some (Bj ⟨8, Tk.none, t, false, [], [], Tk.none⟩ (.slice none 0 0) (.slice none 0 0)) := by rw [← hW4]; exact Aj _ _
  have hs24 : Ad [] W2 W4 := by rw [← hW4]; exact hs23.trans (Ad.alloc _ _ _)
  have hBn : w.heap.size < W3.heap.size := hw3
  clear hW4 hs3 hs23 H3 hb3 hr3 hw3
  generalize W3.heap.size = B at hB4 hBn ⊢
  have hs4 : Ad [] w W4 := hs02.trans hs24
  have hb4 := hs24.get hb2 (by simp)
  have H4 := Kd (H.out.same hs4)
  clear e0 e1 e2 e3 e4 ef k0 k1 k2 k3 kf
  obtain ⟨e0, e1, e2, e3, e4, ef⟩ := H4.out.facts
  rw [hlv] at e1
  obtain ⟨k0, k1, k2, k3, kf⟩ := At hb4
  have hr4 := Af H4.out.blk
  have hw4 := Af hb4
  clear H2 hb2 hs02 hs24 hs1 hs01 hr2 hw2
  exact zq14
 ·go_wp2
  refine EQ.A ?_
  refine Ak rfl ?_
  go_wp2_with (go_at_call 249; refine (Bf _ _ _ rfl rfl).mono ?_; rintro e' W3 ⟨rfl, hs3⟩)
  have hz3 : W3.heap[W2.heap.size]? = some (Bj ⟨0, Tk.none, Tk.none, false, [], [], Tk.none⟩ (.slice none 0 0) (.slice none 0 0)) := hs3.get (b := W2.heap.size) (Aj W2 _) (by simp)
  have hs23 : Ad [] W2 W3 := by
   refine Ad.trans ?_ hs3
   exact Ad.A
  have H3 := Kd (H2.out.same hs23)
  have hb3 := hs23.get hb2 (by simp)
  clear e0 e1 e2 e3 e4 ef k0 k1 k2 k3 kf
  obtain ⟨e0, e1, e2, e3, e4, ef⟩ := H3.out.facts
  rw [hlv] at e1
  obtain ⟨k0, k1, k2, k3, kf⟩ := At hb3
  have hr3 := Af H3.out.blk
  have hw3 := Af hb3
  have hz3l := Af hz3
  refine EQ.A ?_
  iterate 1 (refine An rfl (fun K hK => ?_); go_simp; (try go_bits); (try (rw [if_pos (by omega)]; go_simp)); refine hK _ ?_; clear hK K)
  refine Ak rfl ?_
  refine AU rfl 98 _ _ rfl W2.heap.size _ rfl rfl 98 _ hz3 (by kernel_rfl) rfl (by simp [Value.oneCell']) ?_
  intro W4 hB4' hs34
  have hB4 : W4.heap[W2.heap.size]? = some (Bj ⟨8, Tk.none, t, false, [], [], Tk.none⟩ (.slice none 0 0) (.slice none 0 0)) := hB4'
  have hs24 : Ad [] W2 W4 := hs23.then hs34 (fun x hx => .inr (by simp at hx; omega))
  have hBn : w.heap.size < W2.heap.size := hw2
  clear hB4' hs34 hs3 hs23 H3 hb3 hr3 hw3 hz3 hz3l
  generalize W2.heap.size = B at hB4 hBn ⊢
  have hs4 : Ad [] w W4 := hs02.trans hs24
  have hb4 := hs24.get hb2 (by simp)
  have H4 := Kd (H.out.same hs4)
  clear e0 e1 e2 e3 e4 ef k0 k1 k2 k3 kf
  obtain ⟨e0, e1, e2, e3, e4, ef⟩ := H4.out.facts
  rw [hlv] at e1
  obtain ⟨k0, k1, k2, k3, kf⟩ := At hb4
  have hr4 := Af H4.out.blk
  have hw4 := Af hb4
  clear H2 hb2 hs02 hs24 hs1 hs01 hr2 hw2
  go_wp2
  refine EQ.A ?_
  refine AB ?_
  exact zq14
theorem zq15 {P : Prop} (h : P := by
 have c15 := Dn
 obtain ⟨g0, ⟨g1, g2, g3, g4⟩, ⟨g5, g6, g7, g8⟩, ⟨g9, g10, g11⟩, ⟨g12, g13, g14, g15⟩, gf⟩ := AS hB4
 have hBl := Af hB4
 go_wp2
 generalize hW5 : World.alloc _ _ = W5
 have hB5 : W5.heap[B]? = some (Bj ⟨9, Tk.none, t, false, [], [], t⟩ (.slice none 0 0) (.slice none 0 0)) := by
  rw [← hW5]
  simp only [AZ, Az, Ba, ↓reduceIte, hB4, Option.map_some, AV, Bj, if_neg (show B ≠ W4.heap.size by omega)]
  rfl
 have hs5 : Ad [] w W5 := by
  rw [← hW5]
  refine Ad.then (S := []) (T := [B]) hs4 ?_ (fun x hx => .inr (by simp at hx; omega))
  exact Ad.A
 clear hW5 c15 e0 e1 e2 e3 e4 ef k0 k1 k2 k3 kf g0 g1 g2 g3 g4 g5 g6 g7 g8 g9 g10 g11 g12 g13 g14 g15 gf H4 hb4 hr4 hw4 hB4 hBl hs4
 have H5 := Kd (H.out.same hs5)
 obtain ⟨e0, e1, e2, e3, e4, ef⟩ := H5.out.facts
 have hrow5 := H5.out.out
 rw [hlv] at e1
 rw [Hvo.out] at e0 hrow5
 obtain ⟨g0, ⟨g1, g2, g3, g4⟩, ⟨g5, g6, g7, g8⟩, ⟨g9, g10, g11⟩, ⟨g12, g13, g14, g15⟩, gf⟩ := AS hB5
 have hBl := Af hB5
 have hr5 := Af H5.out.blk
 refine AD (.read 0 (.read 1 (.read 2 (.read 3 (.read 4 (.read 5 (.one 6 [0, 1, 2, 3, 4] (.one 7 [0] (.read 8 (.read 9 (.one 10 [] (.done)))))))))))) (by kernel_rfl) (by kernel_rfl) ?_
 iterate 6 (refine An rfl (fun K hK => ?_); go_simp; (try go_bits); (try (rw [if_pos (by omega)]; go_simp)); refine hK _ ?_; clear hK K)
 refine Ak rfl ?_
 go_wp2
 refine EQ.A ?_
 refine Ak rfl ?_
 refine Bh rfl _ _ 86 rfl 98 16 184 _ Tryz.underlying86 Tryz.infoStmt rfl (by decide) (.slice Av R.out.length cv) _ _ rfl (hrow5.same (Ad.drew [] _) (by simp)) (St.cells ⟨9, Tk.none, t, false, [], [], t⟩ (.slice none 0 0) (.slice none 0 0)) rfl rfl (St.cells_one _ _ _ rfl rfl) (by omega) (by decide) ?_
 intro v6 W6 hrow6 hsm6 hor6
 obtain ⟨A6, c6, rfl⟩ := hrow6.shape
 rw [← Hvo.out] at hsm6 hor6
 have hb6 := hsm6.get (w := W5.drew) H5.out.blk (by have := H5.out.out.ne H5.out.blk (by decide); simpa using this)
 have c60 := Ai (i := 0) (v := A.vo) hb6 rfl
 have f60 := AE hb6
 go_wp2
 refine EQ.A ?_
 iterate 2 (refine An rfl (fun K hK => ?_); go_simp; (try go_bits); (try (rw [if_pos (by omega)]; go_simp)); refine hK _ ?_; clear hK K)
 refine Ak rfl ?_
 go_wp2
 refine EQ.A ?_
 refine AB ?_
 clear e0 e1 e2 e3 e4 ef g0 g1 g2 g3 g4 g5 g6 g7 g8 g9 g10 g11 g12 g13 g14 g15 gf hrow5
 go_wp2
 go_ret
 have hfin := (H5.out.same (Ad.drew [] W5)).push (s := ⟨9, Tk.none, t, false, [], [], t⟩) (p := (.slice none 0 0, .slice none 0 0)) hrow6 hsm6 hor6 (Ad.setCell W6 ⟨r, 0, none⟩ (.slice A6 (R.out.length + 1) c6) (S := [r]) (by simp)) A.lv A.nv none R.what R.proves
  (by rw [AI hb6]; rfl) ⟨Fix.nil _ _ _ _, Fix.nil _ _ _ _⟩ Hlv.out Hnv.out
 rw [Hx.out]
 exact ⟨rfl, _, hfin.1, (AN.of_same (hs5.trans (Ad.drew [] W5))).trans hfin.2⟩) : P := h
theorem Kq (w : World) (r : Nat) (A : RA) (R : Rd) (h : BD w r A R) (t : Tk) (hp : BG t.text = false) (hk : DR t.text = 8) (hlb : R.label = none) (hnow : R.now = none) (hn : R.out.length < 1000000) :
  Calls Tryz.prog 56 #[.pointer (some ⟨r, 0, none⟩), .agg #[.string t.text, .int .i64 t.at_.off, .int .i64 t.at_.line, .int .i64 t.at_.col]] w (RdR r A (R.between t) w) := by
 have hpc := Bc t.text
 rw [hp] at hpc
 have hbk := BU t.text
 rw [hk] at hbk
 have H := Kd h
 have hla := h.label
 rw [hlb] at hla
 have hlv : A.lv = .pointer none := hla
 have hbd := fun w => Bb w 8 (by omega)
 obtain ⟨Av, cv, hvo⟩ := h.out.shape
 have Hvo := Kd hvo
 have hno := h.now
 rw [hnow] at hno
 have Hnv := Kd hno.1
 have Hlv := Kd hlv
 have hx : R.between t = (0, ⟨R.out ++ [⟨9, Tk.none, t, false, [], [], t⟩], none, none, R.what, R.proves⟩) := by
  have hf : BQ 8 = false := rfl
  simp [Rd.between, B5, hp, hk, hlb, hf, hnow]
 have Hx := Kd hx
 have m4 := Gt
 have hlt := Af h.blk
 clear h hp hk hla hlb hvo hno hnow hx
 simp only [BA] at hbd
 dsimp only [BI] at hbk
 go_enter Tryz.func56, Tryz.ntmps56
 go_wp2_with (first
  | (go_at_call 105; refine (hpc _).mono ?_; rintro e w' ⟨rfl, rfl⟩)
  | (go_at_call 106; refine (hbk _).mono ?_; rintro e W1 ⟨rfl, hs1⟩; have hs01 := (Ad.alloc [] w (AP t)).trans hs1)
  | (go_at_call 107; go_must (refine (hbd _).mono ?_; rintro e W2 ⟨rfl, hs2⟩; have hs02 := hs01.trans hs2; have H2 := Kd (H.out.same hs02); obtain ⟨e0, e1, e2, e3, e4, ef⟩ := H2.out.facts; rw [hlv] at e1; have hr2 := Af H2.out.blk; have hb2 := (hs1.trans hs2).get (Aj w (AP t)) (by simp); obtain ⟨k0, k1, k2, k3, kf⟩ := At hb2; have hw2 := Af hb2; clear hs2))
  )
 refine AD (.read 0 (.read 2 (.two 1 [2] (.read 3 (.one 4 [0, 2, 1, 3] (.one 5 [] (.done)))) 4 [0, 2] (.one 1 [2, 4] (.read 3 (.one 5 [] (.done))))))) (by kernel_rfl) (by kernel_rfl) ?_
 iterate 2 (refine An rfl (fun K hK => ?_); go_simp; (try go_bits); (try (rw [if_pos (by omega)]; go_simp)); refine hK _ ?_; clear hK K)
 refine By rfl rfl ?_ ?_
 ·go_wp2_with (go_at_call 249; refine (Bf _ _ _ rfl rfl).mono ?_; rintro e' W3 ⟨rfl, hs3⟩)
  have hs23 := (Ad.drew [] W2).trans hs3
  have H3 := Kd (H2.out.same hs23)
  have hb3 := hs23.get hb2 (by simp)
  clear e0 e1 e2 e3 e4 ef k0 k1 k2 k3 kf
  obtain ⟨e0, e1, e2, e3, e4, ef⟩ := H3.out.facts
  rw [hlv] at e1
  obtain ⟨k0, k1, k2, k3, kf⟩ := At hb3
  have hr3 := Af H3.out.blk
  have hw3 := Af hb3
  refine EQ.A ?_
  iterate 1 (refine An rfl (fun K hK => ?_); go_simp; (try go_bits); (try (rw [if_pos (by omega)]; go_simp)); refine hK _ ?_; clear hK K)
  refine Ak rfl ?_
  go_wp2
  refine EQ.A ?_
  refine Ak rfl ?_
  go_wp2
  refine EQ.A ?_
  refine AB ?_
  generalize hW4 : W3.alloc (Obj.cells _ _ _) = W4
  have hB4 : W4.heap[W3.heap.size]? = some (Bj ⟨9, Tk.none, t, false, [], [], Tk.none⟩ (.slice none 0 0) (.slice none 0 0)) := by rw [← hW4]; exact Aj _ _
  have hs24 : Ad [] W2 W4 := by rw [← hW4]; exact hs23.trans (Ad.alloc _ _ _)
  have hBn : w.heap.size < W3.heap.size := hw3
  clear hW4 hs3 hs23 H3 hb3 hr3 hw3
  generalize W3.heap.size = B at hB4 hBn ⊢
  have hs4 : Ad [] w W4 := hs02.trans hs24
  have hb4 := hs24.get hb2 (by simp)
  have H4 := Kd (H.out.same hs4)
  clear e0 e1 e2 e3 e4 ef k0 k1 k2 k3 kf
  obtain ⟨e0, e1, e2, e3, e4, ef⟩ := H4.out.facts
  rw [hlv] at e1
  obtain ⟨k0, k1, k2, k3, kf⟩ := At hb4
  have hr4 := Af H4.out.blk
  have hw4 := Af hb4
  clear H2 hb2 hs02 hs24 hs1 hs01 hr2 hw2
  exact zq15
 ·go_wp2
  refine EQ.A ?_
  refine Ak rfl ?_
  go_wp2_with (go_at_call 249; refine (Bf _ _ _ rfl rfl).mono ?_; rintro e' W3 ⟨rfl, hs3⟩)
  have hz3 : W3.heap[W2.heap.size]? = some (Bj ⟨0, Tk.none, Tk.none, false, [], [], Tk.none⟩ (.slice none 0 0) (.slice none 0 0)) := hs3.get (b := W2.heap.size) (Aj W2 _) (by simp)
  have hs23 : Ad [] W2 W3 := by
   refine Ad.trans ?_ hs3
   exact Ad.A
  have H3 := Kd (H2.out.same hs23)
  have hb3 := hs23.get hb2 (by simp)
  clear e0 e1 e2 e3 e4 ef k0 k1 k2 k3 kf
  obtain ⟨e0, e1, e2, e3, e4, ef⟩ := H3.out.facts
  rw [hlv] at e1
  obtain ⟨k0, k1, k2, k3, kf⟩ := At hb3
  have hr3 := Af H3.out.blk
  have hw3 := Af hb3
  have hz3l := Af hz3
  refine EQ.A ?_
  iterate 1 (refine An rfl (fun K hK => ?_); go_simp; (try go_bits); (try (rw [if_pos (by omega)]; go_simp)); refine hK _ ?_; clear hK K)
  refine Ak rfl ?_
  refine AU rfl 98 _ _ rfl W2.heap.size _ rfl rfl 98 _ hz3 (by kernel_rfl) rfl (by simp [Value.oneCell']) ?_
  intro W4 hB4' hs34
  have hB4 : W4.heap[W2.heap.size]? = some (Bj ⟨9, Tk.none, t, false, [], [], Tk.none⟩ (.slice none 0 0) (.slice none 0 0)) := hB4'
  have hs24 : Ad [] W2 W4 := hs23.then hs34 (fun x hx => .inr (by simp at hx; omega))
  have hBn : w.heap.size < W2.heap.size := hw2
  clear hB4' hs34 hs3 hs23 H3 hb3 hr3 hw3 hz3 hz3l
  generalize W2.heap.size = B at hB4 hBn ⊢
  have hs4 : Ad [] w W4 := hs02.trans hs24
  have hb4 := hs24.get hb2 (by simp)
  have H4 := Kd (H.out.same hs4)
  clear e0 e1 e2 e3 e4 ef k0 k1 k2 k3 kf
  obtain ⟨e0, e1, e2, e3, e4, ef⟩ := H4.out.facts
  rw [hlv] at e1
  obtain ⟨k0, k1, k2, k3, kf⟩ := At hb4
  have hr4 := Af H4.out.blk
  have hw4 := Af hb4
  clear H2 hb2 hs02 hs24 hs1 hs01 hr2 hw2
  go_wp2
  refine EQ.A ?_
  refine AB ?_
  exact zq15
end Go.Proofs.YtbfbgfpghkijdaaGreatDoor
