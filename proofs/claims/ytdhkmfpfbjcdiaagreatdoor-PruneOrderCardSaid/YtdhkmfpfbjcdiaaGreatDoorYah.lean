/- lemmalaw texts, part 8. -/
import Derived.Test.YtdhkmfpfbjcdiaaGreatDoorYag
set_option maxRecDepth 100000
set_option linter.unusedVariables false
set_option linter.unusedSimpArgs false
set_option maxHeartbeats 32000000
namespace Go.Proofs.YtdhkmfpfbjcdiaaGreatDoor
open Go.RowKit
theorem Same.drewN (S : List Nat) (w : World) (n : Nat) : Same S w (w.drewN n) := ⟨rfl, rfl, rfl, Nat.le_refl _, fun _ _ _ => rfl⟩
def All2 {α β : Type} (P : α → β → Prop) : List α → List β → Prop
 | [], [] => True
 | a :: l, b :: m => P a b ∧ All2 P l m
 | _, _ => False
theorem All2.imp {α β : Type} {P Q : α → β → Prop} (h : ∀ a b, P a b → Q a b) : ∀ {l : List α} {m : List β}, All2 P l m → All2 Q l m
 | [], [], _ => trivial
 | a :: l, b :: m, hp => ⟨h _ _ hp.1, All2.imp h hp.2⟩
 | [], _ :: _, hp => hp.elim
 | _ :: _, [], hp => hp.elim
theorem All2.len {α β : Type} {P : α → β → Prop} : ∀ {l : List α} {m : List β}, All2 P l m → m.length = l.length
 | [], [], _ => rfl
 | a :: l, b :: m, hp => by simp [All2.len hp.2]
 | [], _ :: _, hp => hp.elim
 | _ :: _, [], hp => hp.elim
theorem All2.append {α β : Type} {P : α → β → Prop} : ∀ {l l' : List α} {m m' : List β}, All2 P l m → All2 P l' m' → All2 P (l ++ l') (m ++ m')
 | [], l', [], m', _, h => h
 | a :: l, l', b :: m, m', hp, h => ⟨hp.1, All2.append hp.2 h⟩
 | [], _, _ :: _, _, hp, _ => hp.elim
 | _ :: _, _, [], _, hp, _ => hp.elim
theorem All2.snoc {α β : Type} {P : α → β → Prop} {l : List α} {m : List β} {a : α} {b : β} (h : All2 P l m) (h2 : P a b) : All2 P (l ++ [a]) (m ++ [b]) := h.append ⟨h2, trivial⟩
theorem All2.get {α β : Type} {P : α → β → Prop} : ∀ {l : List α} {m : List β} {i : Nat} {a : α}, All2 P l m → l[i]? = some a → ∃ b, m[i]? = some b ∧ P a b
 | [], _, i, a, _, h => by simp at h
 | _ :: _, [], _, _, hp, _ => hp.elim
 | x :: l, y :: m, 0, a, hp, h => by simp at h; subst h; exact ⟨y, rfl, hp.1⟩
 | x :: l, y :: m, i + 1, a, hp, h => by
  obtain ⟨b, h1, h2⟩ := All2.get (i := i) hp.2 (by simpa using h)
  exact ⟨b, by simpa using h1, h2⟩
structure Move (M M' : List Nat) (w w' : World) : Prop where
 blocks : ∀ b ∈ M', b ∈ M ∨ w.heap.size ≤ b
 same : Same M w w'
theorem Move.refl (M : List Nat) (w : World) : Move M M w w := ⟨fun _ h => .inl h, Same.refl _ _⟩
theorem Move.of_same {M : List Nat} {w w' : World} (h : Same [] w w') : Move M M w w' := ⟨fun _ h => .inl h, h.mono (by simp)⟩
theorem Move.trans {A B C : List Nat} {a b c : World} (h : Move A B a b) (k : Move B C b c) : Move A C a c :=
 ⟨fun x hx => by
  rcases k.blocks x hx with h1 | h1
  ·exact h.blocks x h1
  ·exact .inr (Nat.le_trans h.same.size h1), h.same.then k.same h.blocks⟩
def Still (w : World) (M : List Nat) (b : Nat) : Prop := b < w.heap.size ∧ b ∉ M
theorem Still.move {w w' : World} {M M' : List Nat} {b : Nat} (h : Still w M b) (m : Move M M' w w') : Still w' M' b :=
 ⟨Nat.lt_of_lt_of_le h.1 m.same.size, fun hm => by
  rcases m.blocks b hm with h1 | h1
  ·exact h.2 h1
  ·have := h.1; omega⟩
structure Fix (w : World) (M : List Nat) (e k : Nat) (v : Value) (n : Nat) (xs : List Value) : Prop where
 row : Row w e k v n xs
 not : ∀ b, v.ownBlock = some b → b ∉ M
theorem Fix.move {w w' : World} {M M' : List Nat} {e k n : Nat} {v : Value} {xs : List Value} (h : Fix w M e k v n xs) (m : Move M M' w w') : Fix w' M' e k v n xs :=
 ⟨h.row.same m.same (fun b hb => h.not b hb), fun b hb hm => by
  rcases m.blocks b hm with h1 | h1
  ·exact h.not b hb h1
  ·have := h.row.lt hb; omega⟩
theorem Fix.nil (w : World) (M : List Nat) (e k : Nat) : Fix w M e k (.slice none 0 0) 0 [] := ⟨World.ownsRow_nil _ _ _ _, by simp [Value.ownBlock]⟩
theorem Fix.fresh {w w' : World} {M : List Nat} {e k n : Nat} {v : Value} {xs : List Value} (h : Row w' e k v n xs) (hv : ∀ b, v.ownBlock = some b → w.heap.size ≤ b) (hM : ∀ b ∈ M, b < w.heap.size) : Fix w' M e k v n xs :=
 ⟨h, fun b hb hm => by have := hv b hb; have := hM b hm; omega⟩
def intCells (l : List Int) : List Value := l.map (Value.int .i64)
theorem intCells_len (l : List Int) : (intCells l).length = l.length := by simp [intCells]
theorem intCells_snoc (l : List Int) (n : Int) : intCells (l ++ [n]) = intCells l ++ [.int .i64 n] := by simp [intCells]
theorem intCells_at (l : List Int) (i : Nat) (h : i < l.length) : (intCells l).getD i undef = .int .i64 l[i] := by simp [intCells, List.getD_eq_getElem?_getD, h]
abbrev Ints (w : World) (M : List Nat) (v : Value) (l : List Int) : Prop := Fix w M 3 1 v l.length (intCells l)
theorem Row.elem {w : World} {e k n : Nat} {v : Value} {xs ys : List Value} (h : Row w e k v n xs) {i : Nat} (hi : i < n) (hy : ys.length = k) (hxs : (xs.drop (i * k)).take k = ys) (hk : 0 < k) :
  ∃ g c, v = .slice (some ⟨g, 0, none⟩) n c ∧ ∀ j, j < k → w.cell? ⟨g, i * k + j, none⟩ = some (ys.getD j undef) ∧ w.frozen? ⟨g, i * k + j, none⟩ = false := by
 have hb : ∀ j, j < k → i * k + j < n * k := fun j hj => by
  have : (i + 1) * k ≤ n * k := Nat.mul_le_mul_right _ hi
  rw [Nat.succ_mul] at this
  omega
 obtain ⟨g, c, hv, _⟩ := h.cell (j := i * k + 0) (hb 0 hk)
 refine ⟨g, c, hv, fun j hj => ?_⟩
 obtain ⟨g', c', hv', h1, h2⟩ := h.cell (j := i * k + j) (hb j hj)
 rw [hv] at hv'
 cases hv'
 refine ⟨?_, h2⟩
 rw [h1, ← hxs]
 simp [List.getD_eq_getElem?_getD, List.getElem?_take, hj]
end Go.Proofs.YtdhkmfpfbjcdiaaGreatDoor
