/- Sets of four elements in memory. -/
import Derived.Test.YtpmcpfmbhebjpaaRg
namespace Go.Proofs.Ytpmcpfmbhebjpaa
open Go.RowKit

/-- Sets of four elements: the parents, the sizes, the least ones, the unions made. -/
structure SetsAt (w : World) (s g0 g1 g2 c0 c1 c2 : Nat) (p z l : Nat → Int) (vm : Value) : Prop where
  block : w.heap[s]? = some (.cells #[.slice (some ⟨g0, 0, none⟩) 4 c0, .slice (some ⟨g1, 0, none⟩) 4 c1, .slice (some ⟨g2, 0, none⟩) 4 c2, vm] 59 (0, 0))
  cp : ∀ j, j < 4 → w.cell? ⟨g0, j, none⟩ = some (.int .i64 (p j))
  cz : ∀ j, j < 4 → w.cell? ⟨g1, j, none⟩ = some (.int .i64 (z j))
  cl : ∀ j, j < 4 → w.cell? ⟨g2, j, none⟩ = some (.int .i64 (l j))
  fp : ∀ j, w.frozen? ⟨g0, j, none⟩ = false
  fz : ∀ j, w.frozen? ⟨g1, j, none⟩ = false
  fl : ∀ j, w.frozen? ⟨g2, j, none⟩ = false
  ne : g0 ≠ g1 ∧ g0 ≠ g2 ∧ g1 ≠ g2 ∧ g0 ≠ s ∧ g1 ≠ s ∧ g2 ≠ s

theorem row4 {w : World} {B : Nat} {v : Value} {xs : List Value} (h : w.ownsRow B 3 1 v 4 xs) : ∃ g c, v = .slice (some ⟨g, 0, none⟩) 4 c ∧ B ≤ g ∧ (∀ j u, xs[j]? = some u → w.cell? ⟨g, j, none⟩ = some u) ∧ ∀ j, w.frozen? ⟨g, j, none⟩ = false := by
  rcases h.2 with ⟨_, h'⟩ | ⟨g, cap, cur, rfl, hb, hg, _, _, _, _⟩
  · cases h'
  · refine ⟨g, cap, rfl, hb, fun j u hu => ?_, fun j => by simp [World.frozen?, hg]⟩
    have := h.cells (g := g) rfl j u hu
    unfold Addr.add at this
    split at this
    · rename_i e; subst e; exact this
    · simpa using this

theorem setsAt_of_fresh {w : World} {B s : Nat} {V : Nat → Value} (h : Fresh B s 4 V w) : ∃ g0 g1 g2 c0 c1 c2, B ≤ g0 ∧ B ≤ g1 ∧ B ≤ g2 ∧ SetsAt w s g0 g1 g2 c0 c1 c2 (fun j => (j : Int)) (fun _ => 1) (fun j => (j : Int)) (.slice none 0 0) := by
  obtain ⟨h1, h2, h3, h4, h5⟩ := h
  obtain ⟨g0, c0, e0, b0, k0, f0⟩ := row4 h2
  obtain ⟨g1, c1, e1, b1, k1, f1⟩ := row4 h3
  obtain ⟨g2, c2, e2, b2, k2, f2⟩ := row4 h4
  rw [e0, e1, e2] at h1 h5
  have hnum : ∀ j, j < 4 → (nums 4)[j]? = some (.int .i64 (j : Int)) := fun j hj => by simp [nums, hj]
  have hone : ∀ j, j < 4 → (ones 4)[j]? = some (.int .i64 1) := fun j hj => by unfold ones; rw [List.getElem?_replicate, if_pos hj]
  refine ⟨g0, g1, g2, c0, c1, c2, b0, b1, b2, h1, fun j hj => k0 j _ (hnum j hj), fun j hj => k1 j _ (hone j hj), fun j hj => k2 j _ (hnum j hj), f0, f1, f2, ?_⟩
  have hn : ∀ i j : Nat, ∀ g : Nat, [some g0, some g1, some g2, some s][i]? = some (some g) → [some g0, some g1, some g2, some s][j]? = some (some g) → i = j := fun i j g a b => h5.2 i j g a b
  refine ⟨?_, ?_, ?_, ?_, ?_, ?_⟩ <;> intro e
  · exact absurd (hn 0 1 g0 rfl (by rw [e]; rfl)) (by decide)
  · exact absurd (hn 0 2 g0 rfl (by rw [e]; rfl)) (by decide)
  · exact absurd (hn 1 2 g1 rfl (by rw [e]; rfl)) (by decide)
  · exact absurd (hn 0 3 g0 rfl (by rw [e]; rfl)) (by decide)
  · exact absurd (hn 1 3 g1 rfl (by rw [e]; rfl)) (by decide)
  · exact absurd (hn 2 3 g2 rfl (by rw [e]; rfl)) (by decide)

section
variable {w : World} {s g0 g1 g2 c0 c1 c2 : Nat} {p z l : Nat → Int} {vm : Value}

theorem SetsAt.scell (h : SetsAt w s g0 g1 g2 c0 c1 c2 p z l vm) : w.cell? ⟨s, 0, none⟩ = some (.slice (some ⟨g0, 0, none⟩) 4 c0) ∧ w.cell? ⟨s, 1, none⟩ = some (.slice (some ⟨g1, 0, none⟩) 4 c1) ∧ w.cell? ⟨s, 2, none⟩ = some (.slice (some ⟨g2, 0, none⟩) 4 c2) ∧ w.cell? ⟨s, 3, none⟩ = some vm := by
  have := h.block
  simp [World.cell?, this]

theorem SetsAt.mono {w' : World} (h : SetsAt w s g0 g1 g2 c0 c1 c2 p z l vm) (hb : Below w.heap.size w w') : SetsAt w' s g0 g1 g2 c0 c1 c2 p z l vm := by
  have lt0 := cell_lt (h.cp 0 (by omega))
  have lt1 := cell_lt (h.cz 0 (by omega))
  have lt2 := cell_lt (h.cl 0 (by omega))
  exact ⟨block_keep hb h.block, fun j hj => cell_keep hb (h.cp j hj), fun j hj => cell_keep hb (h.cz j hj), fun j hj => cell_keep hb (h.cl j hj),
    fun j => by rw [hb.frozen (p := ⟨g0, j, none⟩) lt0]; exact h.fp j, fun j => by rw [hb.frozen (p := ⟨g1, j, none⟩) lt1]; exact h.fz j, fun j => by rw [hb.frozen (p := ⟨g2, j, none⟩) lt2]; exact h.fl j, h.ne⟩

theorem SetsAt.drew (h : SetsAt w s g0 g1 g2 c0 c1 c2 p z l vm) : SetsAt w.drew s g0 g1 g2 c0 c1 c2 p z l vm := ⟨h.block, h.cp, h.cz, h.cl, h.fp, h.fz, h.fl, h.ne⟩

set_option maxHeartbeats 400000 in
theorem has_any (a : Nat) (ha : a < 4) (h : SetsAt w s g0 g1 g2 c0 c1 c2 p z l vm) :
    Calls Try.prog 25 #[.pointer (some ⟨s, 0, none⟩), .int .i64 (a : Int)] w fun e w' => e = .returned (.bool true) ∧ w = w' := by
  obtain ⟨h0, h1, h2, h3⟩ := h.scell
  clear h1 h2 h3
  have d1 : decide ((0 : Int) ≤ (a : Int)) = true := by simp
  have d2 : decide ((a : Int) < 4) = true := by simp; omega
  go_enter Try.func25, Try.ntmps25
  go_wp2
  go_ret
  exact ⟨rfl, rfl⟩

set_option maxHeartbeats 400000 in
theorem root_any (a : Nat) (ha : a < 4) (hr : p a = (a : Int)) (h : SetsAt w s g0 g1 g2 c0 c1 c2 p z l vm) :
    Calls Try.prog 26 #[.pointer (some ⟨s, 0, none⟩), .int .i64 (a : Int)] w fun e w' => e = .returned (.int .i64 (a : Int)) ∧ w = w' := by
  obtain ⟨h0, h1, h2, h3⟩ := h.scell
  clear h1 h2 h3
  have hc := h.cp a ha
  rw [hr] at hc
  go_enter Try.func26, Try.ntmps26
  go_wp2
  refine wp_loop_rounds 1 ?_
  rw [rounds_succ]
  go_wp2
  go_ret
  exact ⟨rfl, rfl⟩

set_option maxHeartbeats 400000 in
theorem find_any3 (h : SetsAt w s g0 g1 g2 c0 c1 c2 p z l vm) (hp : p 3 = 3) (hl : l 3 = 1) :
    Calls Try.prog 15 #[.pointer (some ⟨s, 0, none⟩), .int .i64 3] w fun e w' => e = .returned (.tuple #[.int .i64 1, .int .i64 0]) ∧ Below w.heap.size w w' := by
  obtain ⟨h0, h1, h2, h3⟩ := h.scell
  clear h0 h1 h3
  have hc := h.cl 3 (by omega)
  rw [hl] at hc
  have H1 := Lib.hid (has_any 3 (by omega) h)
  have H2 := fun w' (h' : SetsAt w' s g0 g1 g2 c0 c1 c2 p z l vm) => root_any 3 (by omega) hp h'
  have H2 := Lib.hid H2
  clear hp hl
  go_enter Try.func15, Try.ntmps15
  go_wp2_with (go_at_call 25; refine (H1.out).mono ?_; rintro e w' ⟨rfl, rfl⟩)
  go_region_held3 (fun u => u.cell? ⟨s, 2, none⟩ = some (.slice (some ⟨g2, 0, none⟩) 4 c2) ∧ u.cell? ⟨g2, 3, none⟩ = some (.int .i64 1)) (first | exact ⟨h2, hc⟩) (first | (go_at_call 26; refine (H2.out _ (by exact h.drew)).mono ?_; rintro e w' ⟨rfl, rfl⟩))
  go_wp2
  go_ret2
  exact ⟨rfl, (Below.refl _ w).drew⟩

set_option maxHeartbeats 400000 in
theorem count_sets (k c : Nat) (ao : Option Addr) (h : SetsAt w s g0 g1 g2 c0 c1 c2 p z l (.slice ao k c)) (hk : k ≤ 4) :
    Calls Try.prog 17 #[.pointer (some ⟨s, 0, none⟩)] w fun e w' => e = .returned (.int .i64 (4 - (k : Int))) ∧ Below w.heap.size w w' := by
  obtain ⟨h0, h1, h2, h3⟩ := h.scell
  clear h1 h2
  have hw : IntKind.i64.wrap (4 - (k : Int)) = 4 - (k : Int) := IntWalk.i64_in _ (by omega)
  go_enter Try.func17, Try.ntmps17
  go_wp2_with fail
  go_region_held3 (fun u => u.cell? ⟨s, 0, none⟩ = some (.slice (some ⟨g0, 0, none⟩) 4 c0) ∧ u.cell? ⟨s, 3, none⟩ = some (.slice ao k c)) (first | exact ⟨h0, h3⟩) (first | fail)
  go_wp2
  go_ret
  exact ⟨rfl, (Below.refl _ w).drew⟩
end
end Go.Proofs.Ytpmcpfmbhebjpaa
