/- Making nodes. -/
import Derived.Test.YtpmcpfmbhebjpaaA
namespace Go.Proofs.Ytpmcpfmbhebjpaa
open Go.RowKit

theorem cell_keep {w w' : World} {a : Addr} {v : Value} (hb : Below w.heap.size w w') (h : w.cell? a = some v) : w'.cell? a = some v := by
  rw [hb.cell, h]
  rcases Nat.lt_or_ge a.block w.heap.size with h' | h'
  · exact h'
  · simp [World.cell?, Array.getElem?_eq_none h'] at h

theorem Below.next {w w1 w2 : World} (h : Below w.heap.size w w1) (k : Below w1.heap.size w1 w2) : Below w.heap.size w w2 := h.trans (k.mono h.size)

theorem Rep.of_heap {w w' : World} (hb : w'.heap = w.heap) : ∀ {t : Tr} {p : Option Addr}, Rep w p t → Rep w' p t
  | .nil, _, h => h
  | .node _ _ _ _, _, ⟨b, pl, pr, hp, hh, hl, hr⟩ => ⟨b, pl, pr, hp, by rw [hb]; exact hh, Rep.of_heap hb hl, Rep.of_heap hb hr⟩

theorem Rep.drew {w : World} {t : Tr} {p : Option Addr} (h : Rep w p t) : Rep w.drew p t := Rep.of_heap (show w.drew.heap = w.heap from rfl) h

theorem Rep.alloc {w : World} {t : Tr} {p : Option Addr} (h : Rep w p t) (o : Obj) : Rep (w.alloc o) p t := h.mono ((Below.refl _ _).alloc (Nat.le_refl _) _)

theorem cell_alloc {w : World} {a : Addr} {v : Value} {o : Obj} (h : w.cell? a = some v) : (w.alloc o).cell? a = some v := by
  rw [World.cell?_alloc_some _ _ _ (by rw [h]; rfl)]; exact h

theorem wrapsum (a b : Nat) (ha : a ≤ 1000000000000) (hb : b ≤ 1000000000000) : IntKind.i64.wrap ((a : Int) + (b : Int)) = ((a + b : Nat) : Int) := by
  rw [IntWalk.i64_in _ (by omega)]; omega
theorem wrapone (a : Nat) (ha : a ≤ 2000000000000) : IntKind.i64.wrap ((a : Int) + 1) = ((a + 1 : Nat) : Int) := by
  rw [IntWalk.i64_in _ (by omega)]; omega
theorem ifmax (a b : Nat) : (if a < b then (b : Int) else (a : Int)) = ((max a b : Nat) : Int) := by
  split <;> omega

set_option maxHeartbeats 400000 in
theorem with_any (p pl pr : Option Addr) (k : ByteArray) (v : Int) (x y l r : Tr) (w : World) (h : Rep w p (.node k v x y)) (hl : Rep w pl l) (hr : Rep w pr r)
    (hs : l.size + r.size + 1 ≤ 1000000000000) :
    Calls Try.prog 32 #[.pointer p, .pointer pl, .pointer pr] w fun e w' => ∃ q, e = .returned (.pointer q) ∧ Rep w' q (.node k v l r) ∧ Below w.heap.size w w' := by
  have dl := l.height_le_size
  have dr := r.height_le_size
  obtain ⟨b, px, py, rfl, hx, hy, c0, c1, c2, c3, c4, c5⟩ := h.cells
  by_cases hm : l.height < r.height
  all_goals
    go_enter Try.func32, Try.ntmps32
    go_wp2_with fail
    go_region_held3 (fun u => u.cell? ⟨b, 0, none⟩ = some (.string k) ∧ u.cell? ⟨b, 1, none⟩ = some (.int .i64 v)) (first | exact ⟨c0, c1⟩ | exact ⟨cell_alloc c0, cell_alloc c1⟩) (first | (go_at_call_of 22 pl; refine (count_any pl l _ (by exact hl.drew)).mono ?_; rintro e w' ⟨rfl, rfl⟩) | (go_at_call_of 22 pr; refine (count_any pr r _ (by exact hr.drew)).mono ?_; rintro e w' ⟨rfl, rfl⟩) | (go_at_call_of 21 pl; refine (height_any pl l _ (by exact hl.drew)).mono ?_; rintro e w' ⟨rfl, rfl⟩) | (go_at_call_of 21 pr; refine (height_any pr r _ (by exact hr.drew)).mono ?_; rintro e w' ⟨rfl, rfl⟩))
    go_wp2
    go_ret
    refine ⟨_, rfl, ⟨w.heap.size, pl, pr, rfl, ?_, Rep.drew (hl.alloc _), Rep.drew (hr.alloc _)⟩, ((Below.refl _ _).alloc (Nat.le_refl _) _).drew⟩
    show (w.heap.push _)[w.heap.size]? = _
    rw [Array.getElem?_push_size]
    rw [wrapsum _ _ (by omega) (by omega), wrapone _ (by omega), wrapone _ (by omega)]
    first | rw [Nat.max_eq_right (by omega)] | rw [Nat.max_eq_left (by omega)]
end Go.Proofs.Ytpmcpfmbhebjpaa
