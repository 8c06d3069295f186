/- A node made even. -/
import Derived.Test.YtpmcpfmbhebjpaaC
namespace Go.Proofs.Ytpmcpfmbhebjpaa
open Go.RowKit

set_option maxHeartbeats 400000 in
theorem bal_even (p : Option Addr) (k : ByteArray) (v : Int) (l r : Tr) (w : World) (h : Rep w p (.node k v l r)) (_hs : l.size + r.size + 1 ≤ 1000000000000)
    (h1 : ¬ r.height + 1 < l.height) (h2 : ¬ l.height + 1 < r.height) : Calls Try.prog 33 #[.pointer p] w (Makes w (Tr.bal k v l r)) := by
  have hb : Tr.bal k v l r = .node k v l r := by unfold Tr.bal; rw [if_neg h1, if_neg h2]
  rw [hb]; clear hb
  have dl := l.height_le_size
  have dr := r.height_le_size
  obtain ⟨b, pl, pr, rfl, hl, hr, c0, c1, c2, c3, c4, c5⟩ := h.cells
  clear c0 c1 c4 c5
  go_enter Try.func33, Try.ntmps33
  go_wp2_with fail
  go_region_held3 (fun u => u.cell? ⟨b, 2, none⟩ = some (.pointer pl) ∧ u.cell? ⟨b, 3, none⟩ = some (.pointer pr)) (first | exact ⟨c2, c3⟩) (first | (go_at_call_of 21 pl; refine (height_any pl l _ (by exact hl.drew)).mono ?_; rintro e w' ⟨rfl, rfl⟩) | (go_at_call_of 21 pr; refine (height_any pr r _ (by exact hr.drew)).mono ?_; rintro e w' ⟨rfl, rfl⟩))
  go_wp2
  go_ret
  exact ⟨_, rfl, h.drew, (Below.refl _ w).drew⟩

set_option maxHeartbeats 400000 in
theorem bal_right1 (p : Option Addr) (k k2 : ByteArray) (v v2 : Int) (ll lr r : Tr) (w : World) (h : Rep w p (.node k v (.node k2 v2 ll lr) r)) (hs : (Tr.node k v (.node k2 v2 ll lr) r).size ≤ 1000000000000)
    (h1 : r.height + 1 < (Tr.node k2 v2 ll lr).height) (h2 : ¬ ll.height < lr.height) : Calls Try.prog 33 #[.pointer p] w (Makes w (Tr.bal k v (.node k2 v2 ll lr) r)) := by
  have hb : Tr.bal k v (.node k2 v2 ll lr) r = (Tr.node k v (.node k2 v2 ll lr) r).rotR := by unfold Tr.bal; rw [if_pos h1, if_neg (by simpa [Tr.left, Tr.right] using h2)]
  rw [hb]; clear hb
  have hs' := hs
  simp only [Tr.size] at hs
  have dl := (Tr.node k2 v2 ll lr).height_le_size
  have dr := r.height_le_size
  have dll := ll.height_le_size
  have dlr := lr.height_le_size
  simp only [Tr.size] at dl
  obtain ⟨b, pl, pr, rfl, hl, hr, c0, c1, c2, c3, c4, c5⟩ := h.cells
  obtain ⟨b2, pl2, pr2, rfl, hl2, hr2, d0, d1, d2, d3, d4, d5⟩ := hl.cells
  clear c0 c1 c4 c5 d0 d1 d4 d5
  go_enter Try.func33, Try.ntmps33
  go_wp2_with fail
  go_region_held3 (fun u => u.cell? ⟨b, 2, none⟩ = some (.pointer (some ⟨b2, 0, none⟩)) ∧ u.cell? ⟨b, 3, none⟩ = some (.pointer pr)) (first | exact ⟨c2, c3⟩) (first | (go_at_call_of 21 b2; refine (height_any _ (.node k2 v2 ll lr) _ (by exact hl.drew)).mono ?_; rintro e w' ⟨rfl, rfl⟩) | (go_at_call_of 21 pr; refine (height_any pr r _ (by exact hr.drew)).mono ?_; rintro e w' ⟨rfl, rfl⟩))
  generalize (Tr.node k2 v2 ll lr).height = H at *
  go_wp2_with fail
  go_region_held3 (fun u => u.cell? ⟨b, 2, none⟩ = some (.pointer (some ⟨b2, 0, none⟩)) ∧ u.cell? ⟨b2, 2, none⟩ = some (.pointer pl2) ∧ u.cell? ⟨b2, 3, none⟩ = some (.pointer pr2)) (first | exact ⟨c2, d2, d3⟩) (first | (go_at_call_of 21 pl2; refine (height_any _ ll _ (by exact Rep.of_heap (w := w) (by rfl) hl2)).mono ?_; rintro e w' ⟨rfl, rfl⟩) | (go_at_call_of 21 pr2; refine (height_any _ lr _ (by exact Rep.of_heap (w := w) (by rfl) hr2)).mono ?_; rintro e w' ⟨rfl, rfl⟩))
  go_wp2_with (go_at_call 38; refine (rotR_any _ _ _ _ _ _ _ _ _ (by exact Rep.of_heap (w := w) (by rfl) h) hs').mono ?_; rintro e w1 ⟨q1, rfl, hq1, hb1⟩)
  go_ret
  exact ⟨_, rfl, hq1, Below.ofDrew (Below.ofDrew hb1)⟩

set_option maxHeartbeats 800000 in
theorem bal_right2 (p : Option Addr) (k k2 k3 : ByteArray) (v v2 v3 : Int) (ll l3 r3 r : Tr) (w : World) (h : Rep w p (.node k v (.node k2 v2 ll (.node k3 v3 l3 r3)) r)) (hs : (Tr.node k v (.node k2 v2 ll (.node k3 v3 l3 r3)) r).size ≤ 1000000000000)
    (h1 : r.height + 1 < (Tr.node k2 v2 ll (.node k3 v3 l3 r3)).height) (h2 : ll.height < (Tr.node k3 v3 l3 r3).height) : Calls Try.prog 33 #[.pointer p] w (Makes w (Tr.bal k v (.node k2 v2 ll (.node k3 v3 l3 r3)) r)) := by
  have hb : Tr.bal k v (.node k2 v2 ll (.node k3 v3 l3 r3)) r = (Tr.node k v (Tr.node k2 v2 ll (.node k3 v3 l3 r3)).rotL r).rotR := by unfold Tr.bal; rw [if_pos h1, if_pos (by simpa [Tr.left, Tr.right] using h2)]
  rw [hb]; clear hb
  simp only [Tr.size] at hs
  have dl := (Tr.node k2 v2 ll (.node k3 v3 l3 r3)).height_le_size
  have dr := r.height_le_size
  have dll := ll.height_le_size
  have dlr := (Tr.node k3 v3 l3 r3).height_le_size
  simp only [Tr.size] at dl dlr
  obtain ⟨b, pl, pr, rfl, hl, hr, c0, c1, c2, c3, c4, c5⟩ := h.cells
  obtain ⟨b2, pl2, pr2, rfl, hl2, hr2, d0, d1, d2, d3, d4, d5⟩ := hl.cells
  clear c0 c1 c4 c5 d0 d1 d4 d5
  go_enter Try.func33, Try.ntmps33
  go_wp2_with fail
  go_region_held3 (fun u => u.cell? ⟨b, 2, none⟩ = some (.pointer (some ⟨b2, 0, none⟩)) ∧ u.cell? ⟨b, 3, none⟩ = some (.pointer pr)) (first | exact ⟨c2, c3⟩) (first | (go_at_call_of 21 b2; refine (height_any _ (.node k2 v2 ll (.node k3 v3 l3 r3)) _ (by exact hl.drew)).mono ?_; rintro e w' ⟨rfl, rfl⟩) | (go_at_call_of 21 pr; refine (height_any pr r _ (by exact hr.drew)).mono ?_; rintro e w' ⟨rfl, rfl⟩))
  generalize (Tr.node k2 v2 ll (.node k3 v3 l3 r3)).height = H at *
  go_wp2_with fail
  go_region_held3 (fun u => u.cell? ⟨b, 2, none⟩ = some (.pointer (some ⟨b2, 0, none⟩)) ∧ u.cell? ⟨b2, 2, none⟩ = some (.pointer pl2) ∧ u.cell? ⟨b2, 3, none⟩ = some (.pointer pr2)) (first | exact ⟨c2, d2, d3⟩) (first | (go_at_call_of 21 pl2; refine (height_any _ ll _ (by exact Rep.of_heap (w := w) (by rfl) hl2)).mono ?_; rintro e w' ⟨rfl, rfl⟩) | (go_at_call_of 21 pr2; refine (height_any _ (.node k3 v3 l3 r3) _ (by exact Rep.of_heap (w := w) (by rfl) hr2)).mono ?_; rintro e w' ⟨rfl, rfl⟩))
  generalize (Tr.node k3 v3 l3 r3).height = H3 at *
  go_wp2_with fail
  go_region_held3 (fun u => u.cell? ⟨b, 2, none⟩ = some (.pointer (some ⟨b2, 0, none⟩)) ∧ u.cell? ⟨b, 3, none⟩ = some (.pointer pr)) (first | exact ⟨c2, c3⟩ | exact ⟨cell_keep hb1 c2, cell_keep hb1 c3⟩ | exact ⟨cell_keep hb2 c2, cell_keep hb2 c3⟩) (first | (go_at_call 37; refine (rotL_any _ k2 k3 v2 v3 ll l3 r3 _ (by exact Rep.of_heap (w := w) (by rfl) hl) (by simp only [Tr.size]; omega)).mono ?_; rintro e w1 ⟨q1, rfl, hq1, hb1⟩; replace hb1 := Below.ofDrew (Below.ofDrew (Below.ofDrew hb1))) | (go_at_call 32; refine (with_any _ _ _ k v _ _ _ r _ (by exact h.mono hb1) hq1 (by exact hr.mono hb1) (by simp only [Tr.size, Tr.rotL]; omega)).mono ?_; rintro e w2 ⟨q2, rfl, hq2, hb2⟩; replace hb2 := Below.next hb1 hb2))
  go_wp2_with (go_at_call 38; refine (rotR_any _ k k3 v v3 r (.node k2 v2 ll l3) r3 _ hq2 (by simp only [Tr.size]; omega)).mono ?_; rintro e w3 ⟨q3, rfl, hq3, hb3⟩)
  go_ret
  exact ⟨_, rfl, hq3, Below.next hb2 hb3⟩
end Go.Proofs.Ytpmcpfmbhebjpaa
