/- The entry with an index; trees made by the methods. -/
import Derived.Test.YtpmcpfmbhebjpaaJ
import Derived.Test.YtpmcpfmbhebjpaaK
namespace Go.Proofs.Ytpmcpfmbhebjpaa
open Go.RowKit

/-- What At says. -/
def Gives (w : World) (x : ByteArray × Int) (e : Ending) (w' : World) : Prop := e = .returned (.tuple #[.string x.1, .int .i64 x.2, .bool true]) ∧ Below w.heap.size w w'

set_option maxHeartbeats 1600000 in
theorem at_any (t : Tr) (j : Nat) (p : Option Addr) (w : World) (h : Rep w p t) (hj : j < t.size) (hs : t.size ≤ 1000000000000) :
    Calls Try.prog 12 #[.agg #[.pointer p], .int .i64 (j : Int)] w (Gives w (Tr.at? t j)) := by
  have hd1 : decide ((j : Int) < 0) = false := by simp
  have hd2 : decide (t.size ≤ j) = false := by simpa using hj
  go_enter Try.func12, Try.ntmps12
  go_wp2_with (go_at_call 8; refine (size_any t p _ (by exact h.alloc _)).mono ?_; rintro e w1 ⟨rfl, hb1⟩; have hc := cell_keep hb1 (World.cell?_alloc_new w #[.pointer p] 27 0))
  have hbel := Below.next ((Below.refl _ w).alloc (Nat.le_refl _) (.cells #[.pointer p] 27)) hb1
  have hrep := (h.alloc (.cells #[.pointer p] 27)).mono hb1
  clear hc hb1
  go_loopg [1, 7] (t.size) (fun g i n wr => ∃ (u : Tr) (q : Option Addr) (a : Nat), g = u.size ∧ u.size ≤ t.size ∧ i = .int .i64 (a : Int) ∧ n = .pointer q ∧ a < u.size ∧ Rep wr q u ∧ Tr.at? t j = Tr.at? u a ∧ Below w.heap.size w wr)
  case atStart => exact ⟨t, p, j, rfl, Nat.le_refl _, rfl, rfl, hj, hrep, rfl, hbel⟩
  case round =>
    obtain ⟨u, q, a, rfl, hut, rfl, rfl, ha, hq, hat, hbel'⟩ := hrel
    have HA := Lib.hid hat; clear hat
    cases u with
    | nil => simp [Tr.size] at ha
    | node k v l r =>
      simp only [Tr.size] at ha hut
      obtain ⟨b, pl, pr, rfl, hl, hr, c0, c1, c2, c3, c4, c5⟩ := hq.cells
      clear c4 c5
      by_cases h1 : a = l.size
      · subst h1
        go_wp2_with (go_at_call 22; refine (count_any _ _ _ hl).mono ?_; rintro e w' ⟨rfl, rfl⟩)
        go_region_held3 (fun u => u.cell? ⟨b, 0, none⟩ = some (.string k) ∧ u.cell? ⟨b, 1, none⟩ = some (.int .i64 v)) (first | exact ⟨c0, c1⟩) (first | fail)
        go_wp2
        go_ret3
        refine ⟨?_, hbel'.drew⟩
        rw [HA.out, Tr.at?, if_pos rfl]
        rfl
      · by_cases h2 : a < l.size
        · have e1 : ((a : Int) == (l.size : Int)) = false := by rw [beq_eq_false_iff_ne]; omega
          go_wp2_with (go_at_call 22; refine (count_any _ _ _ hl).mono ?_; rintro e w' ⟨rfl, rfl⟩)
          go_roundg l.size
          case measure => simp only [Tr.size]; omega
          case rel => exact ⟨l, pl, a, rfl, by omega, rfl, rfl, h2, hl, by rw [HA.out, Tr.at?, if_neg h1, if_pos h2], hbel'⟩
        · go_wp2_with (go_at_call 22; refine (count_any _ _ _ hl).mono ?_; rintro e w' ⟨rfl, rfl⟩)
          go_roundg r.size
          case measure => simp only [Tr.size]; omega
          case rel => exact ⟨r, pr, a - (l.size + 1), rfl, by omega, by rw [show ((a - (l.size + 1) : Nat) : Int) = (a : Int) - ((l.size : Int) + 1) by omega], rfl, by omega, hr, by rw [HA.out, Tr.at?, if_neg h1, if_neg h2], hbel'⟩

end Go.Proofs.Ytpmcpfmbhebjpaa
