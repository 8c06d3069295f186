/- Trees split. -/
import Derived.Test.YtpmcpfmbhebjpaaI
namespace Go.Proofs.Ytpmcpfmbhebjpaa
open Go.RowKit

set_option maxHeartbeats 1600000 in
theorem split_any (k : ByteArray) (t : Tr) : ∀ (p : Option Addr) (w : World), Rep w p t → t.size ≤ 1000000000000 →
    Calls Try.prog 28 #[.pointer p, .string k] w (Makes2 w (Tr.split k t).1 (Tr.split k t).2) := by
  induction t with
  | nil =>
    intro p w h _
    cases h
    go_enter Try.func28, Try.ntmps28
    go_wp2_with fail
    go_ret2
    exact ⟨_, _, rfl, rfl, rfl, Below.refl _ _⟩
  | node k' v' l r ihl ihr =>
    intro p w h hs
    simp only [Tr.size] at hs
    have IHL := Lib.hid ihl; clear ihl
    have IHR := Lib.hid ihr; clear ihr
    have hsl := Tr.size_split k l
    have hsr := Tr.size_split k r
    by_cases h1 : Tr.lt k k' = true
    · rw [Tr.split, if_pos h1]
      have H1 := Lib.hid h1; clear h1
      obtain ⟨b, pl, pr, rfl, hl, hr, c0, c1, c2, c3, c4, c5⟩ := h.cells
      clear c1 c4 c5
      go_enter Try.func28, Try.ntmps28
      go_wp2_with (first | (go_at_call 31; refine (cmp_lt _ _ _ H1.out).mono ?_; rintro e w' ⟨rfl, rfl⟩) | (go_at_call 28; refine (IHL.out _ _ hl (by omega)).mono ?_; rintro e w1 ⟨q1, q2, rfl, hq1, hq2, hb1⟩; have d3 := cell_keep hb1 c3) | (go_at_call 34; refine (link_any k' v' _ _ _ _ _ r _ _ _ (Nat.le_refl _) hq2 (by exact h.mono hb1) (by exact hr.mono hb1) (by omega)).mono ?_; rintro e w2 ⟨q3, rfl, hq3, hb2⟩))
      go_ret2
      exact ⟨_, _, rfl, hq1.mono hb2, hq3, Below.next hb1 hb2⟩
    · by_cases h2 : Tr.lt k' k = true
      · rw [Tr.split, if_neg h1, if_pos h2]
        have H1 := Lib.hid (show Tr.lt k k' = false by simpa using h1); clear h1
        have H2 := Lib.hid h2; clear h2
        obtain ⟨b, pl, pr, rfl, hl, hr, c0, c1, c2, c3, c4, c5⟩ := h.cells
        clear c1 c4 c5
        go_enter Try.func28, Try.ntmps28
        go_wp2_with (first | (go_at_call 31; refine (cmp_gt _ _ _ H1.out H2.out).mono ?_; rintro e w' ⟨rfl, rfl⟩) | (go_at_call 28; refine (IHR.out _ _ hr (by omega)).mono ?_; rintro e w1 ⟨q1, q2, rfl, hq1, hq2, hb1⟩; have d2 := cell_keep hb1 c2) | (go_at_call 34; refine (link_any k' v' _ _ _ _ l _ _ _ _ (Nat.le_refl _) (by exact hl.mono hb1) (by exact h.mono hb1) hq1 (by omega)).mono ?_; rintro e w2 ⟨q3, rfl, hq3, hb2⟩))
        go_ret2
        exact ⟨_, _, rfl, hq3, hq2.mono hb2, Below.next hb1 hb2⟩
      · rw [Tr.split, if_neg h1, if_neg h2]
        have H1 := Lib.hid (show Tr.lt k k' = false by simpa using h1); clear h1
        have H2 := Lib.hid (show Tr.lt k' k = false by simpa using h2); clear h2
        obtain ⟨b, pl, pr, rfl, hl, hr, c0, c1, c2, c3, c4, c5⟩ := h.cells
        clear c1 c4 c5
        go_enter Try.func28, Try.ntmps28
        go_wp2_with (go_at_call 31; refine (cmp_eq _ _ _ H1.out H2.out).mono ?_; rintro e w' ⟨rfl, rfl⟩)
        go_region_held3 (fun u => u.cell? ⟨b, 2, none⟩ = some (.pointer pl) ∧ u.cell? ⟨b, 3, none⟩ = some (.pointer pr)) (first | exact ⟨c2, c3⟩) (first | fail)
        go_wp2
        go_ret2
        exact ⟨_, _, rfl, hl.drew, hr.drew, (Below.refl _ w).drew⟩
end Go.Proofs.Ytpmcpfmbhebjpaa
