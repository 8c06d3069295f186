/- Persistent trees in memory: what a node's cells hold. -/
import Derived.Test.YtpmcpfmbhebjpaaRows
import Derived.Test.YtpmcpfmbhebjpaaT
import Derived.WalkKit
import Derived.WalkSpells
import Derived.WalkLawsBesides
import Derived.Lib.Hide
import Derived.Deep.RegionHeld3
namespace Go.Proofs.Ytpmcpfmbhebjpaa
open Go.RowKit

/-- A pointer leads to a tree in a world. -/
def Rep (w : World) : Option Addr → Tr → Prop
  | p, .nil => p = none
  | p, .node k v l r => ∃ b pl pr, p = some ⟨b, 0, none⟩ ∧
      w.heap[b]? = some (.cells #[.string k, .int .i64 v, .pointer pl, .pointer pr, .int .i64 ((l.size + r.size + 1 : Nat) : Int), .int .i64 ((max l.height r.height + 1 : Nat) : Int)] 55 (0, 0)) ∧
      Rep w pl l ∧ Rep w pr r

theorem Rep.mono {w w' : World} (hb : Below w.heap.size w w') : ∀ {t : Tr} {p : Option Addr}, Rep w p t → Rep w' p t
  | .nil, _, h => h
  | .node k v l r, p, ⟨b, pl, pr, hp, hh, hl, hr⟩ => by
    refine ⟨b, pl, pr, hp, ?_, hl.mono hb, hr.mono hb⟩
    rw [hb.block b ?_]; exact hh
    rcases Nat.lt_or_ge b w.heap.size with h | h
    · exact h
    · rw [Array.getElem?_eq_none h] at hh; cases hh

/-- The cells of a node. -/
theorem Rep.cells {w : World} {p : Option Addr} {k : ByteArray} {v : Int} {l r : Tr} (h : Rep w p (.node k v l r)) :
    ∃ b pl pr, p = some ⟨b, 0, none⟩ ∧ Rep w pl l ∧ Rep w pr r ∧
      w.cell? ⟨b, 0, none⟩ = some (.string k) ∧ w.cell? ⟨b, 1, none⟩ = some (.int .i64 v) ∧ w.cell? ⟨b, 2, none⟩ = some (.pointer pl) ∧ w.cell? ⟨b, 3, none⟩ = some (.pointer pr) ∧
      w.cell? ⟨b, 4, none⟩ = some (.int .i64 ((l.size + r.size + 1 : Nat) : Int)) ∧ w.cell? ⟨b, 5, none⟩ = some (.int .i64 ((max l.height r.height + 1 : Nat) : Int)) := by
  obtain ⟨b, pl, pr, hp, hh, hl, hr⟩ := h
  exact ⟨b, pl, pr, hp, hl, hr, by simp [World.cell?, hh], by simp [World.cell?, hh], by simp [World.cell?, hh], by simp [World.cell?, hh], by simp [World.cell?, hh], by simp [World.cell?, hh]⟩

set_option maxHeartbeats 400000 in
theorem count_any (p : Option Addr) (t : Tr) (w : World) (h : Rep w p t) :
    Calls Try.prog 22 #[.pointer p] w fun e w' => e = .returned (.int .i64 (t.size : Int)) ∧ w = w' := by
  cases t with
  | nil =>
    cases h
    go_enter Try.func22, Try.ntmps22
    go_wp2
    go_ret
    exact ⟨rfl, rfl⟩
  | node k v l r =>
    obtain ⟨b, pl, pr, rfl, hl, hr, c0, c1, c2, c3, c4, c5⟩ := h.cells
    go_enter Try.func22, Try.ntmps22
    go_wp2
    go_ret
    exact ⟨rfl, rfl⟩

set_option maxHeartbeats 400000 in
theorem height_any (p : Option Addr) (t : Tr) (w : World) (h : Rep w p t) :
    Calls Try.prog 21 #[.pointer p] w fun e w' => e = .returned (.int .i64 (t.height : Int)) ∧ w = w' := by
  cases t with
  | nil =>
    cases h
    go_enter Try.func21, Try.ntmps21
    go_wp2
    go_ret
    exact ⟨rfl, rfl⟩
  | node k v l r =>
    obtain ⟨b, pl, pr, rfl, hl, hr, c0, c1, c2, c3, c4, c5⟩ := h.cells
    go_enter Try.func21, Try.ntmps21
    go_wp2
    go_ret
    exact ⟨rfl, rfl⟩
end Go.Proofs.Ytpmcpfmbhebjpaa
