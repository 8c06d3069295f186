/- Turning nodes. -/
import Derived.Test.YtpmcpfmbhebjpaaB
namespace Go.Proofs.Ytpmcpfmbhebjpaa
open Go.RowKit

/-- What a call that makes a tree says: a tree of the given make, and nothing that was there has turned. -/
def Makes (w : World) (t : Tr) (e : Ending) (w' : World) : Prop := ∃ q, e = .returned (.pointer q) ∧ Rep w' q t ∧ Below w.heap.size w w'

theorem Below.ofDrew {w w' : World} (h : Below w.drew.heap.size w.drew w') : Below w.heap.size w w' := (Below.refl _ w).drew.trans h

set_option maxHeartbeats 400000 in
theorem rotL_any (p : Option Addr) (k k2 : ByteArray) (v v2 : Int) (l l2 r2 : Tr) (w : World) (h : Rep w p (.node k v l (.node k2 v2 l2 r2))) (hs : (Tr.node k v l (.node k2 v2 l2 r2)).size ≤ 1000000000000) :
    Calls Try.prog 37 #[.pointer p] w (Makes w (Tr.node k v l (.node k2 v2 l2 r2)).rotL) := by
  simp only [Tr.size] at hs
  obtain ⟨b, pl, pr, rfl, hl, hr, c0, c1, c2, c3, c4, c5⟩ := h.cells
  obtain ⟨b2, pl2, pr2, rfl, hl2, hr2, d0, d1, d2, d3, d4, d5⟩ := hr.cells
  clear c0 c1 c4 c5 d0 d1 d4 d5
  go_enter Try.func37, Try.ntmps37
  go_wp2_with fail
  go_region_held3 (fun u => u.cell? ⟨b, 2, none⟩ = some (.pointer pl) ∧ u.cell? ⟨b2, 2, none⟩ = some (.pointer pl2) ∧ u.cell? ⟨b2, 3, none⟩ = some (.pointer pr2)) (first | exact ⟨c2, d2, d3⟩ | exact ⟨cell_keep hb1 c2, cell_keep hb1 d2, cell_keep hb1 d3⟩ | exact ⟨cell_keep hb2 c2, cell_keep hb2 d2, cell_keep hb2 d3⟩) (first | (go_at_call_of 32 pr2; refine (with_any _ _ _ k2 v2 l2 r2 (.node k v l l2) r2 _ (by exact hr.mono hb1) (by assumption) (by exact hr2.mono hb1) (by simp only [Tr.size]; omega)).mono ?_; rintro e w2 ⟨q2, rfl, hq2, hb2⟩; replace hb2 := Below.next hb1 hb2) | (go_at_call 32; refine (with_any _ _ _ k v _ _ l l2 _ (by exact h.drew) (by exact hl.drew) (by exact hl2.drew) (by omega)).mono ?_; rintro e w1 ⟨q1, rfl, hq1, hb1⟩; replace hb1 := Below.ofDrew hb1))
  go_wp2
  go_ret
  exact ⟨_, rfl, hq2, hb2⟩

set_option maxHeartbeats 400000 in
theorem rotR_any (p : Option Addr) (k k2 : ByteArray) (v v2 : Int) (r l2 r2 : Tr) (w : World) (h : Rep w p (.node k v (.node k2 v2 l2 r2) r)) (hs : (Tr.node k v (.node k2 v2 l2 r2) r).size ≤ 1000000000000) :
    Calls Try.prog 38 #[.pointer p] w (Makes w (Tr.node k v (.node k2 v2 l2 r2) r).rotR) := by
  simp only [Tr.size] at hs
  obtain ⟨b, pl, pr, rfl, hl, hr, c0, c1, c2, c3, c4, c5⟩ := h.cells
  obtain ⟨b2, pl2, pr2, rfl, hl2, hr2, d0, d1, d2, d3, d4, d5⟩ := hl.cells
  clear c0 c1 c4 c5 d0 d1 d4 d5
  go_enter Try.func38, Try.ntmps38
  go_wp2_with fail
  go_region_held3 (fun u => u.cell? ⟨b, 3, none⟩ = some (.pointer pr) ∧ u.cell? ⟨b2, 2, none⟩ = some (.pointer pl2) ∧ u.cell? ⟨b2, 3, none⟩ = some (.pointer pr2)) (first | exact ⟨c3, d2, d3⟩ | exact ⟨cell_keep hb1 c3, cell_keep hb1 d2, cell_keep hb1 d3⟩ | exact ⟨cell_keep hb2 c3, cell_keep hb2 d2, cell_keep hb2 d3⟩) (first | (go_at_call_of 32 pl2; refine (with_any _ _ _ k2 v2 l2 r2 l2 (.node k v r2 r) _ (by exact hl.mono hb1) (by exact hl2.mono hb1) (by assumption) (by simp only [Tr.size]; omega)).mono ?_; rintro e w2 ⟨q2, rfl, hq2, hb2⟩; replace hb2 := Below.next hb1 hb2) | (go_at_call 32; refine (with_any _ _ _ k v _ _ r2 r _ (by exact h.drew) (by exact hr2.drew) (by exact hr.drew) (by omega)).mono ?_; rintro e w1 ⟨q1, rfl, hq1, hb1⟩; replace hb1 := Below.ofDrew hb1))
  go_wp2
  go_ret
  exact ⟨_, rfl, hq2, hb2⟩
end Go.Proofs.Ytpmcpfmbhebjpaa
