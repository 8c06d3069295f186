/- A node made even: the other side, and all together. -/
import Derived.Test.YtpmcpfmbhebjpaaD
namespace Go.Proofs.Ytpmcpfmbhebjpaa
open Go.RowKit

set_option maxHeartbeats 800000 in
theorem bal_left1 (p : Option Addr) (k k2 : ByteArray) (v v2 : Int) (l rl rr : Tr) (w : World) (h : Rep w p (.node k v l (.node k2 v2 rl rr))) (hs : (Tr.node k v l (.node k2 v2 rl rr)).size ≤ 1000000000000)
    (h0 : ¬ (Tr.node k2 v2 rl rr).height + 1 < l.height) (h1 : l.height + 1 < (Tr.node k2 v2 rl rr).height) (h2 : ¬ rr.height < rl.height) : Calls Try.prog 33 #[.pointer p] w (Makes w (Tr.bal k v l (.node k2 v2 rl rr))) := by
  have hb : Tr.bal k v l (.node k2 v2 rl rr) = (Tr.node k v l (.node k2 v2 rl rr)).rotL := by unfold Tr.bal; rw [if_neg h0, if_pos h1, if_neg (by simpa [Tr.left, Tr.right] using h2)]
  rw [hb]; clear hb h0
  have hs' := hs
  simp only [Tr.size] at hs
  have dl := (Tr.node k2 v2 rl rr).height_le_size
  have dr := l.height_le_size
  have dll := rl.height_le_size
  have dlr := rr.height_le_size
  simp only [Tr.size] at dl
  obtain ⟨b, pl, pr, rfl, hl, hr, c0, c1, c2, c3, c4, c5⟩ := h.cells
  obtain ⟨b2, pl2, pr2, rfl, hl2, hr2, d0, d1, d2, d3, d4, d5⟩ := hr.cells
  clear c0 c1 c4 c5 d0 d1 d4 d5
  go_enter Try.func33, Try.ntmps33
  go_wp2_with fail
  go_region_held3 (fun u => u.cell? ⟨b, 2, none⟩ = some (.pointer pl) ∧ u.cell? ⟨b, 3, none⟩ = some (.pointer (some ⟨b2, 0, none⟩))) (first | exact ⟨c2, c3⟩) (first | (go_at_call_of 21 b2; refine (height_any _ (.node k2 v2 rl rr) _ (by exact hr.drew)).mono ?_; rintro e w' ⟨rfl, rfl⟩) | (go_at_call_of 21 pl; refine (height_any pl l _ (by exact hl.drew)).mono ?_; rintro e w' ⟨rfl, rfl⟩))
  generalize (Tr.node k2 v2 rl rr).height = H at *
  go_wp2_with fail
  go_region_held3 (fun u => u.cell? ⟨b, 3, none⟩ = some (.pointer (some ⟨b2, 0, none⟩)) ∧ u.cell? ⟨b2, 2, none⟩ = some (.pointer pl2) ∧ u.cell? ⟨b2, 3, none⟩ = some (.pointer pr2)) (first | exact ⟨c3, d2, d3⟩) (first | (go_at_call_of 21 pl2; refine (height_any _ rl _ (by exact Rep.of_heap (w := w) (by rfl) hl2)).mono ?_; rintro e w' ⟨rfl, rfl⟩) | (go_at_call_of 21 pr2; refine (height_any _ rr _ (by exact Rep.of_heap (w := w) (by rfl) hr2)).mono ?_; rintro e w' ⟨rfl, rfl⟩))
  go_wp2_with (go_at_call 37; refine (rotL_any _ _ _ _ _ _ _ _ _ (by exact Rep.of_heap (w := w) (by rfl) h) hs').mono ?_; rintro e w1 ⟨q1, rfl, hq1, hb1⟩)
  go_ret
  exact ⟨_, rfl, hq1, Below.ofDrew (Below.ofDrew hb1)⟩

set_option maxHeartbeats 800000 in
theorem bal_left2 (p : Option Addr) (k k2 k3 : ByteArray) (v v2 v3 : Int) (l l3 r3 rr : Tr) (w : World) (h : Rep w p (.node k v l (.node k2 v2 (.node k3 v3 l3 r3) rr))) (hs : (Tr.node k v l (.node k2 v2 (.node k3 v3 l3 r3) rr)).size ≤ 1000000000000)
    (h0 : ¬ (Tr.node k2 v2 (.node k3 v3 l3 r3) rr).height + 1 < l.height) (h1 : l.height + 1 < (Tr.node k2 v2 (.node k3 v3 l3 r3) rr).height) (h2 : rr.height < (Tr.node k3 v3 l3 r3).height) : Calls Try.prog 33 #[.pointer p] w (Makes w (Tr.bal k v l (.node k2 v2 (.node k3 v3 l3 r3) rr))) := by
  have hb : Tr.bal k v l (.node k2 v2 (.node k3 v3 l3 r3) rr) = (Tr.node k v l (Tr.node k2 v2 (.node k3 v3 l3 r3) rr).rotR).rotL := by unfold Tr.bal; rw [if_neg h0, if_pos h1, if_pos (by simpa [Tr.left, Tr.right] using h2)]
  rw [hb]; clear hb h0
  simp only [Tr.size] at hs
  have dl := (Tr.node k2 v2 (.node k3 v3 l3 r3) rr).height_le_size
  have dr := l.height_le_size
  have dll := rr.height_le_size
  have dlr := (Tr.node k3 v3 l3 r3).height_le_size
  simp only [Tr.size] at dl dlr
  obtain ⟨b, pl, pr, rfl, hl, hr, c0, c1, c2, c3, c4, c5⟩ := h.cells
  obtain ⟨b2, pl2, pr2, rfl, hl2, hr2, d0, d1, d2, d3, d4, d5⟩ := hr.cells
  clear c0 c1 c4 c5 d0 d1 d4 d5
  go_enter Try.func33, Try.ntmps33
  go_wp2_with fail
  go_region_held3 (fun u => u.cell? ⟨b, 2, none⟩ = some (.pointer pl) ∧ u.cell? ⟨b, 3, none⟩ = some (.pointer (some ⟨b2, 0, none⟩))) (first | exact ⟨c2, c3⟩) (first | (go_at_call_of 21 b2; refine (height_any _ (.node k2 v2 (.node k3 v3 l3 r3) rr) _ (by exact hr.drew)).mono ?_; rintro e w' ⟨rfl, rfl⟩) | (go_at_call_of 21 pl; refine (height_any pl l _ (by exact hl.drew)).mono ?_; rintro e w' ⟨rfl, rfl⟩))
  generalize (Tr.node k2 v2 (.node k3 v3 l3 r3) rr).height = H at *
  go_wp2_with fail
  go_region_held3 (fun u => u.cell? ⟨b, 3, none⟩ = some (.pointer (some ⟨b2, 0, none⟩)) ∧ u.cell? ⟨b2, 2, none⟩ = some (.pointer pl2) ∧ u.cell? ⟨b2, 3, none⟩ = some (.pointer pr2)) (first | exact ⟨c3, d2, d3⟩) (first | (go_at_call_of 21 pr2; refine (height_any _ rr _ (by exact Rep.of_heap (w := w) (by rfl) hr2)).mono ?_; rintro e w' ⟨rfl, rfl⟩) | (go_at_call_of 21 pl2; refine (height_any _ (.node k3 v3 l3 r3) _ (by exact Rep.of_heap (w := w) (by rfl) hl2)).mono ?_; rintro e w' ⟨rfl, rfl⟩))
  generalize (Tr.node k3 v3 l3 r3).height = H3 at *
  go_wp2_with fail
  go_region_held3 (fun u => u.cell? ⟨b, 2, none⟩ = some (.pointer pl) ∧ u.cell? ⟨b, 3, none⟩ = some (.pointer (some ⟨b2, 0, none⟩))) (first | exact ⟨c2, c3⟩ | exact ⟨cell_keep hb1 c2, cell_keep hb1 c3⟩ | exact ⟨cell_keep hb2 c2, cell_keep hb2 c3⟩) (first | (go_at_call 38; refine (rotR_any _ k2 k3 v2 v3 rr l3 r3 _ (by exact Rep.of_heap (w := w) (by rfl) hr) (by simp only [Tr.size]; omega)).mono ?_; rintro e w1 ⟨q1, rfl, hq1, hb1⟩; replace hb1 := Below.ofDrew (Below.ofDrew (Below.ofDrew hb1))) | (go_at_call 32; refine (with_any _ _ _ k v _ _ l _ _ (by exact h.mono hb1) (by exact hl.mono hb1) hq1 (by simp only [Tr.size, Tr.rotR]; omega)).mono ?_; rintro e w2 ⟨q2, rfl, hq2, hb2⟩; replace hb2 := Below.next hb1 hb2))
  go_wp2_with (go_at_call 37; refine (rotL_any _ k k3 v v3 l l3 (.node k2 v2 r3 rr) _ hq2 (by simp only [Tr.size]; omega)).mono ?_; rintro e w3 ⟨q3, rfl, hq3, hb3⟩)
  go_ret
  exact ⟨_, rfl, hq3, Below.next hb2 hb3⟩

/-- A node made even, whatever its subtrees. -/
theorem bal_any (p : Option Addr) (k : ByteArray) (v : Int) (l r : Tr) (w : World) (h : Rep w p (.node k v l r)) (hs : l.size + r.size + 1 ≤ 1000000000000) : Calls Try.prog 33 #[.pointer p] w (Makes w (Tr.bal k v l r)) := by
  by_cases h1 : r.height + 1 < l.height
  · cases l with
    | nil => simp [Tr.height] at h1
    | node k2 v2 ll lr =>
      by_cases h2 : ll.height < lr.height
      · cases lr with
        | nil => simp [Tr.height] at h2
        | node k3 v3 l3 r3 => exact bal_right2 p k k2 k3 v v2 v3 ll l3 r3 r w h hs h1 h2
      · exact bal_right1 p k k2 v v2 ll lr r w h hs h1 h2
  · by_cases h2 : l.height + 1 < r.height
    · cases r with
      | nil => simp [Tr.height] at h2
      | node k2 v2 rl rr =>
        by_cases h3 : rr.height < rl.height
        · cases rl with
          | nil => simp [Tr.height] at h3
          | node k3 v3 l3 r3 => exact bal_left2 p k k2 k3 v v2 v3 l l3 r3 rr w h hs h1 h2 h3
        · exact bal_left1 p k k2 v v2 l rl rr w h hs h1 h2 h3
    · exact bal_even p k v l r w h hs h1 h2
end Go.Proofs.Ytpmcpfmbhebjpaa
