/- The methods of a tree: sizes, depths, keys found. -/
import Derived.Test.YtpmcpfmbhebjpaaI
import Derived.Deep.LoopGhost
namespace Go.Proofs.Ytpmcpfmbhebjpaa
open Go.RowKit

set_option maxHeartbeats 400000 in
theorem size_any (t : Tr) (p : Option Addr) (w : World) (h : Rep w p t) : Calls Try.prog 8 #[.agg #[.pointer p]] w fun e w' => e = .returned (.int .i64 (t.size : Int)) ∧ Below w.heap.size w w' := by
  go_enter Try.func8, Try.ntmps8
  go_wp2_with (go_at_call 22; refine (count_any p t _ (by exact h.alloc _)).mono ?_; rintro e w' ⟨rfl, rfl⟩)
  go_ret
  exact ⟨rfl, (Below.refl _ _).alloc (Nat.le_refl _) _⟩

set_option maxHeartbeats 400000 in
theorem depth_any (t : Tr) (p : Option Addr) (w : World) (h : Rep w p t) : Calls Try.prog 7 #[.agg #[.pointer p]] w fun e w' => e = .returned (.int .i64 (t.height : Int)) ∧ Below w.heap.size w w' := by
  go_enter Try.func7, Try.ntmps7
  go_wp2_with (go_at_call 21; refine (height_any p t _ (by exact h.alloc _)).mono ?_; rintro e w' ⟨rfl, rfl⟩)
  go_ret
  exact ⟨rfl, (Below.refl _ _).alloc (Nat.le_refl _) _⟩

/-- What find says. -/
def Finds (w : World) (k : ByteArray) (t : Tr) (e : Ending) (w' : World) : Prop := ∃ q : Option Addr, e = .returned (.tuple #[.pointer q, .int .i64 (Tr.rank k t : Int)]) ∧
  (Tr.has k t = true → ∃ a l r v, Rep w' q (.node a v l r)) ∧ (Tr.has k t = false → q = none) ∧ Below w.heap.size w w'

set_option maxHeartbeats 800000 in
theorem find_any (k : ByteArray) (t : Tr) (p : Option Addr) (w : World) (h : Rep w p t) (hs : t.size ≤ 1000000000000) : Calls Try.prog 27 #[.agg #[.pointer p], .string k] w (Finds w k t) := by
  have hrk := Tr.rank_le k t
  go_enter Try.func27, Try.ntmps27
  go_wp2
  go_loopg [6, 7] (t.size) (fun g r n wr => ∃ (u : Tr) (q : Option Addr) (a : Nat), g = u.size ∧ r = .int .i64 (a : Int) ∧ n = .pointer q ∧ Rep wr q u ∧ Tr.has k t = Tr.has k u ∧ Tr.rank k t = a + Tr.rank k u ∧ Below w.heap.size w wr)
  case atStart => exact ⟨t, p, 0, rfl, rfl, rfl, h.alloc _, rfl, by omega, (Below.refl _ _).alloc (Nat.le_refl _) _⟩
  case round =>
    obtain ⟨u, q, a, rfl, rfl, rfl, hq, hhas, hrank, hbel⟩ := hrel
    have HH := Lib.hid hhas; clear hhas
    have HR := Lib.hid hrank; clear hrank
    cases u with
    | nil =>
      cases hq
      go_wp2
      go_ret2
      refine ⟨none, by rw [HR.out]; rfl, ?_, fun _ => rfl, hbel⟩
      rw [HH.out]; intro h'; cases h'
    | node k' v' l r =>
      have hcq := hq
      obtain ⟨b, pl, pr, rfl, hl, hr, c0, c1, c2, c3, c4, c5⟩ := hq.cells
      clear c1 c4 c5
      by_cases h1 : Tr.lt k k' = true
      · have H1 := Lib.hid h1; clear h1
        go_wp2_with (go_at_call 31; refine (cmp_lt _ _ _ H1.out).mono ?_; rintro e w' ⟨rfl, rfl⟩)
        go_roundg l.size
        case measure => simp only [Tr.size]; omega
        case rel => exact ⟨l, pl, a, rfl, rfl, rfl, hl, by rw [HH.out, Tr.has, if_pos H1.out], by rw [HR.out, Tr.rank, if_pos H1.out], hbel⟩
      · have H1 := Lib.hid (show Tr.lt k k' = false by simpa using h1); clear h1
        by_cases h2 : Tr.lt k' k = true
        · have H2 := Lib.hid h2; clear h2
          have hb : a + (Tr.rank k r + (l.size + 1)) ≤ t.size := by have := HR.out; rw [Tr.rank, if_neg (by rw [H1.out]; simp), if_pos H2.out] at this; omega
          go_wp2_with (first | (go_at_call 31; refine (cmp_gt _ _ _ H1.out H2.out).mono ?_; rintro e w' ⟨rfl, rfl⟩) | (go_at_call 22; refine (count_any _ _ _ hl).mono ?_; rintro e w' ⟨rfl, rfl⟩))
          go_roundg r.size
          case measure => simp only [Tr.size]; omega
          case rel => exact ⟨r, pr, a + (l.size + 1), rfl, by go_num, rfl, hr, by rw [HH.out, Tr.has, if_neg (by rw [H1.out]; simp), if_pos H2.out], by rw [HR.out, Tr.rank, if_neg (by rw [H1.out]; simp), if_pos H2.out]; omega, hbel⟩
        · have H2 := Lib.hid (show Tr.lt k' k = false by simpa using h2); clear h2
          have hb : a + l.size ≤ t.size := by have := HR.out; rw [Tr.rank, if_neg (by rw [H1.out]; simp), if_neg (by rw [H2.out]; simp)] at this; omega
          go_wp2_with (first | (go_at_call 31; refine (cmp_eq _ _ _ H1.out H2.out).mono ?_; rintro e w' ⟨rfl, rfl⟩) | (go_at_call 22; refine (count_any _ _ _ hl).mono ?_; rintro e w' ⟨rfl, rfl⟩))
          go_ret2
          refine ⟨_, ?_, fun _ => ⟨_, _, _, _, hcq⟩, ?_, hbel⟩
          · rw [HR.out, Tr.rank, if_neg (by rw [H1.out]; simp), if_neg (by rw [H2.out]; simp)]; simp
          · rw [HH.out, Tr.has, if_neg (by rw [H1.out]; simp), if_neg (by rw [H2.out]; simp)]; intro h'; cases h'

set_option maxHeartbeats 800000 in
theorem get_any (k : ByteArray) (t : Tr) (p : Option Addr) (w : World) (h : Rep w p t) (hs : t.size ≤ 1000000000000) :
    Calls Try.prog 29 #[.agg #[.pointer p], .string k] w fun e w' => (∃ v : Int, e = .returned (.tuple #[.int .i64 v, .bool (Tr.has k t)])) ∧ Below w.heap.size w w' := by
  cases hh : Tr.has k t with
  | false =>
    have HH := Lib.hid hh; clear hh
    go_enter Try.func29, Try.ntmps29
    go_wp2_with (go_at_call 27; refine (find_any k t p _ (by exact h.alloc _) hs).mono ?_; rintro e w1 ⟨q, rfl, ht, hf, hb⟩; cases hf HH.out; clear ht hf)
    go_ret2
    exact ⟨⟨_, rfl⟩, Below.next ((Below.refl _ _).alloc (Nat.le_refl _) _) hb⟩
  | true =>
    have HH := Lib.hid hh; clear hh
    go_enter Try.func29, Try.ntmps29
    go_wp2_with (go_at_call 27; refine (find_any k t p _ (by exact h.alloc _) hs).mono ?_; rintro e w1 ⟨q, rfl, ht, hf, hb⟩; obtain ⟨a, l, r, v, hq⟩ := ht HH.out; clear ht hf; obtain ⟨b, _, _, rfl, _, _, _, c1, _⟩ := hq.cells)
    go_ret2
    exact ⟨⟨_, rfl⟩, Below.next ((Below.refl _ _).alloc (Nat.le_refl _) _) hb⟩

set_option maxHeartbeats 800000 in
theorem rank_any (k : ByteArray) (t : Tr) (p : Option Addr) (w : World) (h : Rep w p t) (hs : t.size ≤ 1000000000000) :
    Calls Try.prog 16 #[.agg #[.pointer p], .string k] w fun e w' => e = .returned (.int .i64 (Tr.rank k t : Int)) ∧ Below w.heap.size w w' := by
  go_enter Try.func16, Try.ntmps16
  go_wp2_with (go_at_call 27; refine (find_any k t p _ (by exact h.alloc _) hs).mono ?_; rintro e w1 ⟨q, rfl, ht, hf, hb⟩; clear ht hf)
  go_ret
  exact ⟨rfl, Below.next ((Below.refl _ _).alloc (Nat.le_refl _) _) hb⟩
end Go.Proofs.Ytpmcpfmbhebjpaa
