/- Keys put into trees. -/
import Derived.Test.YtpmcpfmbhebjpaaF
namespace Go.Proofs.Ytpmcpfmbhebjpaa
open Go.RowKit

set_option maxHeartbeats 800000 in
theorem put_any (k : ByteArray) (v : Int) (t : Tr) : ∀ (p : Option Addr) (w : World), Rep w p t → t.size + 1 ≤ 1000000000000 → Calls Try.prog 24 #[.pointer p, .string k, .int .i64 v] w (Makes w (Tr.put k v t)) := by
  induction t with
  | nil =>
    intro p w h _
    cases h
    go_enter Try.func24, Try.ntmps24
    go_wp2_with fail
    go_ret
    refine ⟨_, rfl, ⟨w.heap.size, none, none, rfl, ?_, rfl, rfl⟩, (Below.refl _ _).alloc (Nat.le_refl _) _⟩
    show (w.heap.push _)[w.heap.size]? = _
    rw [Array.getElem?_push_size]
    rfl
  | node k' v' l r ihl ihr =>
    intro p w h hs
    simp only [Tr.size] at hs
    have IHL := Lib.hid ihl; clear ihl
    have IHR := Lib.hid ihr; clear ihr
    have hsl := Tr.size_put k v l
    have hsr := Tr.size_put k v r
    by_cases h1 : Tr.lt k k' = true
    · rw [Tr.put, if_pos h1]
      have H1 := Lib.hid h1; clear h1
      obtain ⟨b, pl, pr, rfl, hl, hr, c0, c1, c2, c3, c4, c5⟩ := h.cells
      clear c1 c4 c5
      go_enter Try.func24, Try.ntmps24
      go_wp2_with (go_at_call 31; refine (cmp_lt _ _ _ H1.out).mono ?_; rintro e w' ⟨rfl, rfl⟩)
      go_region_held3 (fun u => u.cell? ⟨b, 2, none⟩ = some (.pointer pl) ∧ u.cell? ⟨b, 3, none⟩ = some (.pointer pr)) (first | exact ⟨c2, c3⟩ | exact ⟨cell_keep hb1 c2, cell_keep hb1 c3⟩ | exact ⟨cell_keep hb2 c2, cell_keep hb2 c3⟩ | exact ⟨cell_keep hb3 c2, cell_keep hb3 c3⟩) (first | (go_at_call 24; refine (IHL.out _ _ (by exact hl.drew) (by omega)).mono ?_; rintro e w1 ⟨q1, rfl, hq1, hb1⟩; replace hb1 := Below.ofDrew hb1) | (go_at_call 32; refine (with_any _ _ _ k' v' l r (Tr.put k v l) r _ (by exact h.mono hb1) hq1 (by exact hr.mono hb1) (by omega)).mono ?_; rintro e w2 ⟨q2, rfl, hq2, hb2⟩; replace hb2 := Below.next hb1 hb2) | (go_at_call 33; refine (bal_any _ _ _ _ _ _ hq2 (by omega)).mono ?_; rintro e w3 ⟨q3, rfl, hq3, hb3⟩; replace hb3 := Below.next hb2 hb3))
      go_wp2
      go_ret
      exact ⟨_, rfl, hq3, hb3⟩
    · by_cases h2 : Tr.lt k' k = true
      · rw [Tr.put, if_neg h1, if_pos h2]
        have H1 := Lib.hid (show Tr.lt k k' = false by simpa using h1); clear h1
        have H2 := Lib.hid h2; clear h2
        obtain ⟨b, pl, pr, rfl, hl, hr, c0, c1, c2, c3, c4, c5⟩ := h.cells
        clear c1 c4 c5
        go_enter Try.func24, Try.ntmps24
        go_wp2_with (go_at_call 31; refine (cmp_gt _ _ _ H1.out H2.out).mono ?_; rintro e w' ⟨rfl, rfl⟩)
        go_region_held3 (fun u => u.cell? ⟨b, 2, none⟩ = some (.pointer pl) ∧ u.cell? ⟨b, 3, none⟩ = some (.pointer pr)) (first | exact ⟨c2, c3⟩ | exact ⟨cell_keep hb1 c2, cell_keep hb1 c3⟩ | exact ⟨cell_keep hb2 c2, cell_keep hb2 c3⟩ | exact ⟨cell_keep hb3 c2, cell_keep hb3 c3⟩) (first | (go_at_call 24; refine (IHR.out _ _ (by exact hr.drew) (by omega)).mono ?_; rintro e w1 ⟨q1, rfl, hq1, hb1⟩; replace hb1 := Below.ofDrew hb1) | (go_at_call 32; refine (with_any _ _ _ k' v' l r l (Tr.put k v r) _ (by exact h.mono hb1) (by exact hl.mono hb1) hq1 (by omega)).mono ?_; rintro e w2 ⟨q2, rfl, hq2, hb2⟩; replace hb2 := Below.next hb1 hb2) | (go_at_call 33; refine (bal_any _ _ _ _ _ _ hq2 (by omega)).mono ?_; rintro e w3 ⟨q3, rfl, hq3, hb3⟩; replace hb3 := Below.next hb2 hb3))
        go_wp2
        go_ret
        exact ⟨_, rfl, hq3, hb3⟩
      · rw [Tr.put, if_neg h1, if_neg h2]
        have H1 := Lib.hid (show Tr.lt k k' = false by simpa using h1); clear h1
        have H2 := Lib.hid (show Tr.lt k' k = false by simpa using h2); clear h2
        obtain ⟨b, pl, pr, rfl, hl, hr, c0, c1, c2, c3, c4, c5⟩ := h.cells
        go_enter Try.func24, Try.ntmps24
        go_wp2_with (go_at_call 31; refine (cmp_eq _ _ _ H1.out H2.out).mono ?_; rintro e w' ⟨rfl, rfl⟩)
        go_ret
        refine ⟨_, rfl, ⟨w.heap.size, pl, pr, rfl, ?_, ?_, ?_⟩, ?_⟩
        · show (w.heap.push _)[w.heap.size]? = _
          rw [Array.getElem?_push_size, show ((l.size + r.size + 1 : Nat) : Int) = (l.size : Int) + (r.size : Int) + 1 by omega, show ((max l.height r.height + 1 : Nat) : Int) = ((max l.height r.height : Nat) : Int) + 1 by omega]
        · exact hl.alloc _
        · exact hr.alloc _
        · exact (Below.refl _ _).alloc (Nat.le_refl _) _
end Go.Proofs.Ytpmcpfmbhebjpaa
