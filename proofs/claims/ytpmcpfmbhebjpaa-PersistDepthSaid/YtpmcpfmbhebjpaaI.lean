/- The last node of a tree, trees put together, trees split. -/
import Derived.Test.YtpmcpfmbhebjpaaH
namespace Go.Proofs.Ytpmcpfmbhebjpaa
open Go.RowKit

/-- What a call that makes two trees says. -/
def Makes2 (w : World) (t u : Tr) (e : Ending) (w' : World) : Prop := ∃ p q, e = .returned (.tuple #[.pointer p, .pointer q]) ∧ Rep w' p t ∧ Rep w' q u ∧ Below w.heap.size w w'

/-- What last says: a node with the last key, and the rest. -/
def MakesLast (w : World) (t : Tr) (e : Ending) (w' : World) : Prop := ∃ p q x y, e = .returned (.tuple #[.pointer p, .pointer q]) ∧ Rep w' p (.node t.last.1 t.last.2.1 x y) ∧ Rep w' q t.last.2.2 ∧ Below w.heap.size w w'

set_option maxHeartbeats 1600000 in
theorem last_any (n : Nat) : ∀ (k : ByteArray) (v : Int) (l r : Tr) (p : Option Addr) (w : World), r.size ≤ n → Rep w p (.node k v l r) → l.size + r.size + 1 ≤ 1000000000000 →
    Calls Try.prog 35 #[.pointer p] w (MakesLast w (.node k v l r)) := by
  induction n with
  | zero =>
    intro k v l r p w hn h hs
    cases r with
    | node => simp [Tr.size] at hn
    | nil =>
      obtain ⟨b, pl, pr, rfl, hl, rfl, c0, c1, c2, c3, c4, c5⟩ := h.cells
      clear c0 c1 c4 c5
      go_enter Try.func35, Try.ntmps35
      go_wp2_with fail
      go_region_held3 (fun u => u.cell? ⟨b, 2, none⟩ = some (.pointer pl)) (first | exact c2) (first | fail)
      go_wp2
      go_ret2
      exact ⟨_, _, l, .nil, rfl, h.drew, hl.drew, (Below.refl _ w).drew⟩
  | succ n ih =>
    intro k v l r p w hn h hs
    have IH := Lib.hid ih; clear ih
    cases r with
    | nil =>
      obtain ⟨b, pl, pr, rfl, hl, rfl, c0, c1, c2, c3, c4, c5⟩ := h.cells
      clear c0 c1 c4 c5
      go_enter Try.func35, Try.ntmps35
      go_wp2_with fail
      go_region_held3 (fun u => u.cell? ⟨b, 2, none⟩ = some (.pointer pl)) (first | exact c2) (first | fail)
      go_wp2
      go_ret2
      exact ⟨_, _, l, .nil, rfl, h.drew, hl.drew, (Below.refl _ w).drew⟩
    | node k2 v2 l2 r2 =>
      have hsz := Tr.size_last (.node k2 v2 l2 r2) (by simp)
      simp only [Tr.size] at hs hn hsz
      have hlast : Tr.last (.node k v l (.node k2 v2 l2 r2)) = ((Tr.last (.node k2 v2 l2 r2)).1, (Tr.last (.node k2 v2 l2 r2)).2.1, Tr.link k v l (Tr.last (.node k2 v2 l2 r2)).2.2) := by rw [Tr.last]
      have HL := Lib.hid hlast; clear hlast
      obtain ⟨b, pl, pr, rfl, hl, hr, c0, c1, c2, c3, c4, c5⟩ := h.cells
      have c3' := c3
      obtain ⟨b2, _, _, rfl, _⟩ := hr.cells
      clear c0 c1 c4 c5
      go_enter Try.func35, Try.ntmps35
      go_wp2_with (first | (go_at_call 35; refine (IH.out _ _ _ _ _ _ (by omega) hr (by omega)).mono ?_; rintro e w1 ⟨q1, q2, x, y, rfl, hq1, hq2, hb1⟩; have d2 := cell_keep hb1 c2) | (go_at_call 34; refine (link_any k v _ _ _ _ l _ _ _ _ (Nat.le_refl _) (by exact hl.mono hb1) (by exact h.mono hb1) hq2 (by omega)).mono ?_; rintro e w2 ⟨q3, rfl, hq3, hb2⟩))
      go_ret2
      unfold MakesLast
      rw [HL.out]
      exact ⟨_, _, x, y, rfl, hq1.mono hb2, hq3, Below.next hb1 hb2⟩

set_option maxHeartbeats 400000 in
theorem concat_any (t u : Tr) (p q : Option Addr) (w : World) (ht : Rep w p t) (hu : Rep w q u) (hs : t.size + u.size ≤ 1000000000000) :
    Calls Try.prog 30 #[.pointer p, .pointer q] w (Makes w (Tr.concat t u)) := by
  cases t with
  | nil =>
    cases ht
    go_enter Try.func30, Try.ntmps30
    go_wp2_with fail
    go_ret
    exact ⟨_, rfl, hu, Below.refl _ _⟩
  | node k v l r =>
    have hsz := Tr.size_last (.node k v l r) (by simp)
    simp only [Tr.size] at hs hsz
    rw [Tr.concat]
    obtain ⟨b, _, _, rfl, _⟩ := ht.cells
    go_enter Try.func30, Try.ntmps30
    go_wp2_with (first | (go_at_call 35; refine (last_any _ _ _ _ _ _ _ (Nat.le_refl _) ht (by omega)).mono ?_; rintro e w1 ⟨q1, q2, x, y, rfl, hq1, hq2, hb1⟩) | (go_at_call 34; refine (link_any _ _ _ _ _ _ _ _ _ _ _ (Nat.le_refl _) hq2 hq1 (by exact hu.mono hb1) (by omega)).mono ?_; rintro e w2 ⟨q3, rfl, hq3, hb2⟩))
    go_ret
    exact ⟨_, rfl, hq3, Below.next hb1 hb2⟩
end Go.Proofs.Ytpmcpfmbhebjpaa
