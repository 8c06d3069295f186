/- The chapter's examples, and the bounds of the law's input. -/
import Derived.Test.YtpmcpfmbhebjpaaNc
namespace Go.Proofs.Ytpmcpfmbhebjpaa
open Go.RowKit

def kA : ByteArray := ⟨#[97]⟩
def kB : ByteArray := ⟨#[98]⟩
theorem lt_ab : Tr.lt kA kB = true := by unfold Tr.lt kA kB; rw [Lib.toList_data, Lib.toList_data]; decide
theorem lt_ba : Tr.lt kB kA = false := Tr.lt_asymm lt_ab

def T1 : Tr := .node kB 2 .nil .nil
def T2 : Tr := .node kB 2 (.node kA 1 .nil .nil) .nil
theorem put1 : Tr.put kB 2 .nil = T1 := rfl
theorem put2 : Tr.put kA 1 T1 = T2 := by unfold T1; rw [Tr.put, if_pos lt_ab]; rfl
theorem at2 : Tr.at? T2 0 = (kA, 1) := rfl
theorem rank2 : Tr.rank kB T2 = 1 := by unfold T2; rw [Tr.rank, if_neg (by rw [Tr.lt_irrefl]; simp), if_neg (by rw [Tr.lt_irrefl]; simp)]; rfl

set_option maxHeartbeats 1600000 in
theorem awake_any (w : World) : Calls Try.prog 5 #[] w fun e w' => e = .returned (.bool true) ∧ Below w.heap.size w w' := by
  have p1 : ∀ w' : World, Calls Try.prog 11 #[.agg #[.pointer none], .string ⟨#[98]⟩, .int .i64 2] w' (MakesT w' T1) := fun w' => Put_any kB 2 .nil none w' rfl (by decide)
  have p2 : ∀ (w' : World) (q : Option Addr), Rep w' q T1 → Calls Try.prog 11 #[.agg #[.pointer q], .string ⟨#[97]⟩, .int .i64 1] w' (MakesT w' T2) := fun w' q h => by
    have := Put_any kA 1 T1 q w' h (by decide); rwa [put2] at this
  have p3 : ∀ (w' : World) (q : Option Addr), Rep w' q T2 → Calls Try.prog 12 #[.agg #[.pointer q], .int .i64 0] w' (Gives w' (⟨#[97]⟩, 1)) := fun w' q h => at_any T2 0 q w' h (by decide) (by decide)
  have p4 : ∀ w' : World, Calls Try.prog 13 #[.int .i64 4] w' fun e w'' => ∃ s V, w'.heap.size ≤ s ∧ e = .returned (.tuple #[.pointer (some ⟨s, 0, none⟩), .int .i64 0]) ∧ Fresh w'.heap.size s 4 V w'' ∧ Below w'.heap.size w' w'' := fun w' => newSets_any 4 w' (by omega)
  have p5 : ∀ (w' : World) (q : Option Addr), Rep w' q T2 → Calls Try.prog 16 #[.agg #[.pointer q], .string ⟨#[98]⟩] w' fun e w'' => e = .returned (.int .i64 1) ∧ Below w'.heap.size w' w'' := fun w' q h => by
    have := rank_any kB T2 q w' h (by decide); rw [rank2] at this; exact this
  have P1 := Lib.hid p1; have P2 := Lib.hid p2; have P3 := Lib.hid p3; have P4 := Lib.hid p4; have P5 := Lib.hid p5; clear p1 p2 p3 p4 p5
  go_enter Try.func5, Try.ntmps5
  go_wp2_with fail
  ((with_reducible refine (P1.out _).mono ?_); rintro e w1 ⟨q1, rfl, hq1, hb1⟩)
  go_wp2_with fail
  ((with_reducible refine (P2.out _ _ hq1).mono ?_); rintro e w2 ⟨q2, rfl, hq2, hb2⟩)
  have hN := Lib.hid (block_keep hb2 (block_keep hb1 (new_block w (.cells #[.pointer none] 27))))
  have c1 := cell_of hN.out
  have f1 := frozen_of hN.out
  go_wp2_with fail
  have hr2 := Rep.setCell (v := .pointer q2) (a := ⟨w.heap.size, 0, none⟩) hN.out hq2
  have c2 := cell_set (u := .pointer q2) c1
  have hBel := (Below.next (Below.next ((Below.refl _ w).alloc (Nat.le_refl _) (.cells #[.pointer none] 27)) hb1) hb2).setCell (p := ⟨w.heap.size, 0, none⟩) (Nat.le_refl _) (.pointer q2)
  have hB := Lib.hid hBel; clear hBel c1 f1 hq1 hq2 hb1 hb2 hN
  generalize hw3 : w2.setCell ⟨w.heap.size, 0, none⟩ (.pointer q2) = w3 at *
  clear hw3
  ((with_reducible refine (P3.out _ _ hr2).mono ?_); rintro e w4 ⟨rfl, hb4⟩)
  have hr4 := hr2.mono hb4
  have c4 := cell_keep hb4 c2
  clear c2
  go_wp2_with fail
  ((with_reducible refine (P4.out _).mono ?_); rintro e w5 ⟨s, V, hs, rfl, hfr, hb5⟩)
  have c5 := cell_keep hb5 c4
  have hr5 := hr4.mono hb5
  have C4 := Lib.hid c4; clear c4
  obtain ⟨g0, g1, g2, c0, c1, c2, b0, b1, b2, hS⟩ := setsAt_of_fresh hfr
  go_wp2_with fail
  ((with_reducible refine (union31 hS).mono ?_); rintro e w6 ⟨ao, cm, rfl, hS6, hbel6⟩)
  have hb6 : Below w4.heap.size w5 w6 := hbel6 _ hb5.size hs b0 b1 b2
  clear hbel6
  have hb46 := hb5.trans hb6
  have c6 := cell_keep hb46 C4.out
  have hr6 := hr4.mono hb46
  clear c5 hr5 hS
  go_wp2_with fail
  ((with_reducible refine (find_any3 hS6 rfl rfl).mono ?_); rintro e w7 ⟨rfl, hb7⟩)
  have c7 := cell_keep hb7 c6
  have hr7 := hr6.mono hb7
  have hS7 := hS6.mono hb7
  clear c6
  go_wp2_with fail
  ((with_reducible refine (P5.out _ _ hr7).mono ?_); rintro e w8 ⟨rfl, hb8⟩)
  have hS8 := hS7.mono hb8
  clear c7
  go_wp2_with fail
  ((with_reducible refine (count_sets 1 cm ao hS8 (by omega)).mono ?_); rintro e w9 ⟨rfl, hb9⟩)
  go_wp2_with fail
  go_ret
  exact ⟨rfl, Below.next (Below.next (Below.next (Below.next (Below.next hB.out hb4) hb46) hb7) hb8) hb9⟩
end Go.Proofs.Ytpmcpfmbhebjpaa
