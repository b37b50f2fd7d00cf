/- lemmalaw texts, part 4. -/
import Derived.Test.YtbfbgfpghkijdaaGreatDoorYaa
import Derived.Test.YtbfbgfpghkijdaaGreatDoorYab
import Derived.Test.YtbfbgfpghkijdaaGreatDoorYac
import Derived.OwnWalkIn
set_option maxRecDepth 100000
set_option linter.unusedVariables false
set_option linter.unusedSimpArgs false
set_option maxHeartbeats 32000000
namespace Go.Proofs.YtbfbgfpghkijdaaGreatDoor
def Ln (ops : Array Oper) : Bool := ops.all fun o => match o.op with | .defer _ => false | _ => true
theorem Ho {ops : Array Oper} (h : Ln ops = true) {i : Nat} {o : Oper} (ho : ops[i]? = some o) : ∀ c, o.op ≠ .defer c := by
 intro c hc
 have hi : i < ops.size := by
  rcases Nat.lt_or_ge i ops.size with h | h
  ·exact h
  ·rw [Array.getElem?_eq_none h] at ho; cases ho
 rw [Array.getElem?_eq_getElem hi] at ho
 have h1 := Array.all_eq_true.1 h i hi
 simp only [Option.some.injEq] at ho
 rw [ho, hc] at h1
 cases h1
section
variable {F : Fence} {n : Nat} {P : Program} {ops : Array Oper} {Q : Exit → Act → World → Prop}
theorem Mt (hF : ∀ f, F.fn f) (hs : Region.noSelect ops = true) (hnd : Ln ops = true) : GB ops (wpOpIn F n P ops (QF Q)) (YR P ops) := {
 y_put := (K6 (Q := Q) hs).y_put
 read i v a w K hi hy hK := by
  obtain ⟨o, ho, h1⟩ := hy
  rw [Fg ho] at hK
  unfold wpOpIn
  simp only [ho]
  unfold B4 at h1
  split
  ·rename_i hw
   rw [if_pos hw] at h1
   refine ⟨fun f _ => hF f, ?_⟩
   rw [Oper.semAt_plain F _ _ (Ho hnd ho)]
   cases hr : (execOp a.eval o).run P w with
   | halt x w' => rw [hr] at h1; exact h1.elim
   | ok n w' =>
    rw [hr] at h1
    cases n with
    | value u => obtain ⟨rfl, rfl⟩ := h1; exact hK
    | _ => exact (show False from h1).elim
  ·rename_i hw
   rw [if_neg hw] at h1
   subst h1
   exact ⟨fun f _ => hF f, hK⟩
 eff i K K' U a w hi hap hS hKK hdef := by
  obtain ⟨o, ho⟩ : ∃ o, ops[i]? = some o := ⟨_, Array.getElem?_eq_getElem hi⟩
  obtain ⟨he, hw⟩ := Gj ho (fun cs b => Region.noSelect_spec hs i o cs b ho) U a hap
  rw [Fg ho] at hKK
  have hout : ¬ LetsOut (QF Q) := fun ⟨a, w, h⟩ => h
  unfold wpOpIn at hS ⊢
  simp only [ho] at hS ⊢
  rw [hw] at hS
  split
  ·rename_i hww
   rw [if_pos hww] at hS
   unfold Oper.wpIn at hS ⊢
   refine ⟨fun f _ => hF f, ?_⟩
   have hS := hS.2
   rw [Oper.semAt_plain F _ _ (Ho hnd ho)] at hS ⊢
   rw [he] at hS
   have hd0 := DK ops U a
   cases hr : (execOp a.eval o).run P w with
   | halt x w' =>
    rw [hr] at hS
    cases x <;> exact (show False from hS).elim
   | ok n w' =>
    rw [hr] at hS
    cases n with
    | value u => exact hKK u w' hS
    | skip => exact hKK undef w' hS
    | defer d =>
     exact zq55
    | enter f args =>
     refine ⟨hS.1, CallsIn.mono hS.2 (fun e w'' h => ?_)⟩
     exact zq61
    | row row args => exact ⟨hS.1, RowsIn.mono hS.2 (fun v w'' h => hKK v w'' h)⟩
    | round l f tmps assign body =>
     refine ⟨hS.1, RoundIn.mono hS.2 (fun e w'' h => ?_)⟩
     exact zq61
    | _ => exact (show False from hS).elim
  ·rename_i hww
   rw [if_neg hww] at hS
   exact ⟨fun f _ => hF f, hKK undef w hS.2⟩ }
theorem GX : ∀ (f : Nat) (l : Array Bool) (a : Act) (w : World), Jo ops (wpOpIn F n P ops Q) (Q .normal) f l a w → wpAnyIn F n P .any ops Q f l a w
 | 0, l, a, w, h => h
 | f + 1, l, a, w, h => ⟨h.1, fun i hi => wpOpIn_mono (fun a w h => GX f _ a w h) (h.2 i hi)⟩
def Dv (F : Fence) (n : Nat) (P : Program) (ops : Array Oper) (Q : Exit → Act → World → Prop) (t : OTree) (pd : List (Nat × Value)) (a : Act) (w : World) : Prop := FA ops (wpOpIn F n P ops (QF Q)) (YR P ops) (Q .normal) t pd a w
theorem CJ {id : Nat} {l : List Oper} {a : Act} {w : World} (hF : ∀ f, F.fn f) (t : OTree) (hm : P.follows .mixedOrders = true) (hB : ((Region.noSelect l.toArray && Ln l.toArray) && Iw l.toArray t) = true)
  (h : Dv F n P l.toArray Q t [] a w.drew) : (Code.region id l.toArray true).wpIn F n P Q a w := by
 rw [Bool.and_eq_true, Bool.and_eq_true] at hB
 obtain ⟨⟨hs, hnd⟩, hB⟩ := hB
 unfold Iw at hB
 rw [Bool.and_eq_true] at hB
 have h1 : Jo l.toArray (wpOpIn F n P l.toArray (QF Q)) (QF Q .normal) l.toArray.size (Array.replicate l.toArray.size false) a w.drew :=
  Fe (QN := Q .normal) (Mt hF hs hnd) hB.2 _ t [] [] _ a [] _ (GQ _) hB.1 (by
   unfold Is
   rw [List.countP_eq_length.2 (fun i _ => by rw [getD_replicate_false]; rfl)]
   simp) (by simp) (by simp) h
 refine Code.wpIn_mono (fun e a w h => ?_) (wpIn_region_any hm (GX _ _ _ _ h1))
 cases e <;> first | exact h | exact (show False from h).elim
variable {a : Act} {w : World} {pd : List (Nat × Value)} {t : OTree} {i : Nat} {o : Oper}
theorem Dc (h : Q .normal a w) : Dv F n P ops Q .done pd a w := h
theorem C9 (ho : ops[i]? = some o) (h : ∀ K : Value → Prop, (∀ v, Dv F n P ops Q t ((i, v) :: pd) (a.put o.dst v) w → K v) → B4 P ops o a w K) : Dv F n P ops Q (.read i t) pd a w := by
 have key : ∃ v, B4 P ops o a w (fun u => u = v) ∧ Dv F n P ops Q t ((i, v) :: pd) (a.put o.dst v) w := by
  have h2 := h (fun v => Dv F n P ops Q t ((i, v) :: pd) (a.put o.dst v) w) (fun _ h => h)
  exact zq37
 exact zq81
def EQI (F : Fence) (n : Nat) (P : Program) (ops : Array Oper) (Q : Exit → Act → World → Prop) (L : List Nat) (t : OTree) (pd : List (Nat × Value)) (ds : List Deferred) : Exit → Act → World → Prop
 | .normal, a, w => a.defers = ds ∧ C0 P ops L pd a w ∧ Dv F n P ops Q t pd a w
 | _, _, _ => False
theorem EQI.mk {L : List Nat} {ds : List Deferred} (h1 : a.defers = ds) (h2 : C0 P ops L pd a w) (h3 : Dv F n P ops Q t pd a w) : EQI F n P ops Q L t pd ds .normal a w := ⟨h1, h2, h3⟩
theorem EQI.A {L : List Nat} {ds : List Deferred} (h3 : Dv F n P ops Q t pd a w) (h1 : a.defers = ds := by exact rfl) (h2 : C0 P ops L pd a w := by repeat (first | exact BJ | (refine Br rfl ?_) | (refine DG rfl (by go_simp; (try go_bits); (try (rw [if_pos (by omega)]; go_simp)); (try trivial)) ?_))) : EQI F n P ops Q L t pd ds .normal a w := ⟨h1, h2, h3⟩
theorem QX {L : List Nat} (hF : ∀ f, F.fn f) (ho : ops[i]? = some o) (h : wpListIn F n P ops (EQI F n P ops Q L t pd a.defers) [o] a w) :
  wpOpIn F n P ops (QF Q) i (fun a' w' => a'.defers = a.defers ∧ (∀ p ∈ pd, p.1 ∈ L → YR P ops p.1 p.2 a' w') ∧ Dv F n P ops Q t pd a' w') a w := by
 have hout : ¬ LetsOut (EQI F n P ops Q L t pd a.defers) := fun ⟨a, w, h⟩ => h
 have hout' : ¬ LetsOut (QF Q) := fun ⟨a, w, h⟩ => h
 unfold wpOpIn
 simp only [ho]
 unfold wpListIn at h
 have conv : ∀ a' w', wpListIn F n P ops (EQI F n P ops Q L t pd a.defers) [] a' w' → a'.defers = a.defers ∧ (∀ p ∈ pd, p.1 ∈ L → YR P ops p.1 p.2 a' w') ∧ Dv F n P ops Q t pd a' w' := fun a' w' h => ⟨h.1, Fo h.2.1, h.2.2⟩
 split
 ·rename_i hw
  rw [if_pos hw] at h
  unfold Oper.wpIn at h ⊢
  refine ⟨h.1, ?_⟩
  have h := h.2
  cases hr : (o.semAt F.round a.eval).run P w with
  | halt x w' =>
   rw [hr] at h
   cases x <;> exact (show False from h).elim
  | ok m w' =>
   rw [hr] at h
   cases m with
   | value u => exact conv _ _ h
   | skip => exact conv _ _ h
   | defer d => exact conv _ _ h
   | enter f args =>
    refine ⟨h.1, CallsIn.mono h.2 (fun e w'' h => ?_)⟩
    exact zq62
   | row row args => exact ⟨h.1, RowsIn.mono h.2 (fun v w'' h => conv _ _ h)⟩
   | round l f tmps assign body =>
    refine ⟨h.1, RoundIn.mono h.2 (fun e w'' h => ?_)⟩
    exact zq62
   | _ => exact (show False from h).elim
 ·rename_i hw
  rw [if_neg hw] at h
  exact ⟨h.1, conv _ _ h.2⟩
theorem Nn {L : List Nat} (hF : ∀ f, F.fn f) (ho : ops[i]? = some o) (h : wpListIn F n P ops (EQI F n P ops Q L t pd a.defers) [o] a w) : Dv F n P ops Q (.one i L t) pd a w := QX hF ho h
theorem Bk {l r : List Oper} {L : List Nat} (hF : ∀ f, F.fn f) (ho : l.drop i = o :: r) (h : wpListIn F n P l.toArray (EQI F n P l.toArray Q L t pd a.defers) [o] a w) : Dv F n P l.toArray Q (.one i L t) pd a w :=
 Nn hF (by rw [List.getElem?_toArray, ← List.head?_drop, ho]; rfl) h
end
end Go.Proofs.YtbfbgfpghkijdaaGreatDoor
namespace Go.Proofs.YtbfbgfpghkijdaaGreatDoor
open Go.RowKit
structure Flt where
 at_ : Ps
 text : ByteArray
 code : Int
def CZ (f : Flt) : Obj := .cells #[.int .i64 f.at_.off, .int .i64 f.at_.line, .int .i64 f.at_.col, .string f.text, .int .i64 f.code] 103 (0, 0)
def CR (w : World) (v : Value) : Option Flt → Prop
 | none => v = .pointer none
 | some f => ∃ b, v = .pointer (some ⟨b, 0, none⟩) ∧ w.heap[b]? = some (CZ f)
theorem Df (x : Tk) (e : Int) (w : World) : Calls Tryz.prog 103 #[.agg #[.string x.text, .int .i64 x.at_.off, .int .i64 x.at_.line, .int .i64 x.at_.col], .int .i64 e] w fun r w' =>
  ∃ b, r = .returned (.pointer (some ⟨b, 0, none⟩)) ∧ w.heap.size ≤ b ∧ w'.heap[b]? = some (CZ ⟨x.at_, x.text, e⟩) ∧ Ad [] w w' := by
 go_enter Tryz.func103, Tryz.ntmps103
 go_wp2
 go_ret
 have h := Aj (w.alloc (AP x)) (CZ ⟨x.at_, x.text, e⟩)
 rw [World.size_alloc] at h
 exact ⟨_, rfl, by omega, h, (Ad.alloc [] w _).trans (Ad.alloc [] _ _)⟩
def BX : List It → List Tk → Option Tk → List Tk × Option (Tk × Int)
 | [], out, op => (out, op.map fun o => (o, 12))
 | x :: r, out, op =>
  if x.code ≠ 0 then (out, some (x.word, x.code))
  else match op with
   | some o =>
    if x.word.text.data.toList = [36, 41] then BX r out none
    else if Lib.contains x.word.text.data.toList [36, 40] || Lib.contains x.word.text.data.toList [36, 41] then (out, some (x.word, 11))
    else BX r out (some o)
   | none =>
    if x.word.text.data.toList = [36, 40] then BX r out (some x.word)
    else if x.word.text.data.toList = [36, 41] then (out, some (x.word, 11))
    else if out.length = 16384 then (out, some (x.word, 13))
    else BX r (out ++ [x.word]) none
def BM (t : ByteArray) : List Tk × Option (Tk × Int) := BX (G3 t) [] none
theorem C2 (t : ByteArray) : ∀ (n k : Nat) (p : Ps) (w : Tk), k ≤ 65536 → w.text.size ≤ 65536 → ∀ x ∈ Cl t n k p w, x.word.text.size ≤ 65536
 | 0, k, p, w, hk, hw, x, hx => by
  unfold Cl at hx
  split at hx
  ·cases hx
  ·simp at hx; subst hx; exact hw
 | n + 1, k, p, w, hk, hw, x, hx => by
  unfold Cl at hx
  dsimp only at hx
  split at hx
  ·simp at hx; subst hx; exact Nat.zero_le 65536
  rename_i h1
  split at hx
  ·simp at hx; subst hx; exact Nat.zero_le 65536
  split at hx
  ·refine C2 t n (k + 1) _ _ (by omega) ?_ x hx
   simp; omega
  split at hx
  ·exact C2 t n (k + 1) _ _ (by omega) hw x hx
  ·rcases List.mem_cons.1 hx with rfl | hx
   ·exact hw
   ·exact C2 t n (k + 1) _ Tk.none (by omega) (show (ByteArray.mk #[]).size ≤ 65536 from Nat.zero_le 65536) x hx
theorem Nk (t : ByteArray) : ∀ x ∈ G3 t, x.word.text.size ≤ 65536 := C2 t _ _ _ Tk.none (by omega) (show (ByteArray.mk #[]).size ≤ 65536 from Nat.zero_le 65536)
section
variable {F : Fence} {n : Nat} {P : Program} {ops : Array Oper} {Q : Exit → Act → World → Prop} {a : Act} {o : Oper} {rest : List Oper}
theorem MZ {W : World} (hF : ∀ f, F.fn f) (hgd : o.guard = none) (s x : Operand) (t : TypeId) (ho : o.op = .call { callee := .builtin .append, args := #[s, x], argTypes := #[t, t] })
  (e k bytes : Nat) (z : Value) (ht : P.underlying t = some (.slice e)) (hinfo : (P.info? e).map (fun i => (i.zero, i.size, i.bytes)) = some (some z, k, bytes)) (hz : z.cells.size = k) (hk : 0 < k)
  (v : Value) (m : Nat) (xs : List Value) (hs : a.eval s = v) (hown : Row W e k v m xs) (ys : List Value) (b : Nat) (hbs : W.heap.size = b) (hx : a.eval x = .slice (some ⟨b, 0, none⟩) 1 1) (hl : ys.length = k) (h1 : ∀ u ∈ ys, u.oneCell' = true)
  (hn : (m + 1) * bytes ≤ 140737488355328) (hb : 0 < bytes)
  (h : ∀ v' w', Row w' e k v' (m + 1) (xs ++ ys) → Ad v.ownBlock.toList W w' → (v'.ownBlock = v.ownBlock ∨ ∃ b, v'.ownBlock = some b ∧ W.heap.size ≤ b) → wpListIn F n P ops Q rest (a.put o.dst v') w') :
  wpListIn F n P ops Q (o :: rest) a (W.alloc (.cells ys.toArray e)) := by
 subst hbs
 obtain ⟨i, hi, hz0, hz1, hz2⟩ := Co hinfo
 have hlen : m + 1 ≤ 140737488355328 := Nat.le_trans (Nat.le_mul_of_pos_right _ hb) hn
 obtain ⟨v', w', hr, h2, h3, h4, h5⟩ := run_append_own_at (P := P) (W.alloc (.cells ys.toArray e)) 0 t o.type e i z k bytes ht hi hz0 hz1 hz2 hz hk v m xs (hown.same (Ad.alloc [] W _) (by simp)) ⟨W.heap.size, 0, none⟩ 1 1 ys (by simpa using hl)
  (K2 W ys e) h1 (by simp only [maxLen]; omega) hn (Nat.zero_le _)
 have hw : Region.wanted o (yielded ops a.tmps) = true := by simp [Region.wanted, hgd]
 unfold wpListIn
 rw [if_pos hw]
 refine ⟨fun f _ => hF f, ?_⟩
 rw [Oper.semAt_plain F _ _ (by rw [ho]; intro c hc; cases hc)]
 unfold execOp
 simp only [ho, resolve, invoke, builtin, Sem.run_bind, Sem.run_pure, Result.andThen_ok, List.map_toArray, List.map_cons, List.map_nil, hs, hx, hr]
 refine h v' w' h2 ((Ad.alloc _ W _).trans (Ad.of_grown h3)) ?_
 rcases h5 with hat | hat
 ·exact .inl hat
 ·exact .inr ⟨_, hat, by simp⟩
end
end Go.Proofs.YtbfbgfpghkijdaaGreatDoor
