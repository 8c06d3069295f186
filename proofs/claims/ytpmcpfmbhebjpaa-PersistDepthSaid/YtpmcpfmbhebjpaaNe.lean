/- The law's own bound on its input. -/
import Derived.Test.YtpmcpfmbhebjpaaNd
namespace Go.Proofs.Ytpmcpfmbhebjpaa
open Go.RowKit

/-- An operation as it came in. -/
structure OpD where
  kind : Nat
  tree : Nat
  other : Nat
  key : ByteArray
  value : Int

/-- Operation d lies in the five cells from an address on. -/
def OpAt (w : World) (b o : Nat) (d : OpD) : Prop :=
  d.kind ≤ 255 ∧ d.tree ≤ 255 ∧ d.other ≤ 255 ∧ w.cell? ⟨b, o, none⟩ = some (.int .u8 (d.kind : Int)) ∧ w.cell? ⟨b, o + 1, none⟩ = some (.int .u8 (d.tree : Int)) ∧
  w.cell? ⟨b, o + 2, none⟩ = some (.int .u8 (d.other : Int)) ∧ w.cell? ⟨b, o + 3, none⟩ = some (.string d.key) ∧ w.cell? ⟨b, o + 4, none⟩ = some (.int .i64 d.value)

theorem OpAt.keep {w w' : World} {b o : Nat} {d : OpD} (h : OpAt w b o d) (hb : Below w.heap.size w w') : OpAt w' b o d :=
  ⟨h.1, h.2.1, h.2.2.1, cell_keep hb h.2.2.2.1, cell_keep hb h.2.2.2.2.1, cell_keep hb h.2.2.2.2.2.1, cell_keep hb h.2.2.2.2.2.2.1, cell_keep hb h.2.2.2.2.2.2.2⟩

/-- The operations as they came in. -/
def IsOps (w : World) (a : Option Addr) (len : Nat) (D : Nat → OpD) : Prop :=
  len = 0 ∨ ∃ b o, a = some ⟨b, o, none⟩ ∧ ∀ i, i < len → OpAt w b (o + i * 5) (D i)

theorem IsOps.keep {w w' : World} {a : Option Addr} {len : Nat} {D : Nat → OpD} (h : IsOps w a len D) (hb : Below w.heap.size w w') : IsOps w' a len D :=
  h.imp id fun ⟨b, o, ha, h⟩ => ⟨b, o, ha, fun i hi => (h i hi).keep hb⟩

/-- Some bool, and nothing that was there has turned. -/
def SomeBool (w : World) (e : Ending) (w' : World) : Prop := ∃ b, e = .returned (.bool b) ∧ Below w.heap.size w w'
def SomeInt (w : World) (e : Ending) (w' : World) : Prop := ∃ n : Int, e = .returned (.int .i64 n) ∧ Below w.heap.size w w'

set_option maxHeartbeats 400000 in
theorem few1_any (d : OpD) (w : World) : Calls Try.prog 10 #[.agg #[.int .u8 (d.kind : Int), .int .u8 (d.tree : Int), .int .u8 (d.other : Int), .string d.key, .int .i64 d.value]] w (SomeBool w) := by
  go_enter Try.func10, Try.ntmps10
  go_wp2
  go_ret
  exact ⟨_, rfl, (Below.refl _ _).alloc (Nat.le_refl _) _⟩

set_option maxHeartbeats 800000 in
theorem index_any (a : Option Addr) (len cap : Nat) (D : Nat → OpD) (w : World) (h : IsOps w a len D) (hl : len ≤ 120) : Calls Try.prog 23 #[.slice a len cap, .func (.func 10) #[] #[]] w (SomeInt w) := by
  go_enter Try.func23, Try.ntmps23
  go_wp2
  go_loopg [5, 8] len (fun g i j wr => ∃ k : Nat, k + g = len ∧ j = .int .i64 (k : Int) ∧ Below w.heap.size w wr)
  case atStart => exact ⟨0, by omega, rfl, Below.refl _ _⟩
  case round =>
    obtain ⟨k, hk, rfl, hbel⟩ := hrel
    have HK := Lib.hid hk; clear hk
    by_cases hlt : k < len
    · rcases h with h | ⟨b, o, rfl, h⟩
      · omega
      · obtain ⟨_, _, _, e0, e1, e2, e3, e4⟩ := (h k hlt).keep hbel
        clear h
        go_wp2_with (refine (few1_any (D k) _).mono ?_; rintro e w1 ⟨bb, rfl, hb1⟩)
        · go_ret
          exact ⟨_, rfl, Below.next hbel hb1⟩
        · go_roundg (len - (k + 1))
          case measure => have := HK.out; omega
          case rel => exact ⟨k + 1, by have := HK.out; omega, by go_num, Below.next hbel hb1⟩
    · go_wp2
      go_ret
      exact ⟨_, rfl, hbel⟩

set_option maxHeartbeats 400000 in
theorem contains_any (a : Option Addr) (len cap : Nat) (D : Nat → OpD) (w : World) (h : IsOps w a len D) (hl : len ≤ 120) : Calls Try.prog 9 #[.slice a len cap, .func (.func 10) #[] #[]] w (SomeBool w) := by
  go_enter Try.func9, Try.ntmps9
  go_wp2_with (go_at_call 23; refine (index_any a len cap D _ h hl).mono ?_; rintro e w1 ⟨n, rfl, hb1⟩)
  go_ret
  exact ⟨_, rfl, hb1⟩

/-- What few says: where it is true, there are few. -/
def Few (w : World) (len : Nat) (e : Ending) (w' : World) : Prop := ∃ b : Bool, e = .returned (.bool b) ∧ (b = true → len ≤ 120) ∧ Below w.heap.size w w'

set_option maxHeartbeats 400000 in
theorem few_any (a : Option Addr) (len cap : Nat) (D : Nat → OpD) (w : World) (h : IsOps w a len D) : Calls Try.prog 4 #[.slice a len cap] w (Few w len) := by
  by_cases hl : len ≤ 120
  · go_enter Try.func4, Try.ntmps4
    go_wp2_with (go_at_call 9; refine (contains_any a len cap D _ h hl).mono ?_; rintro e w1 ⟨n, rfl, hb1⟩)
    go_ret
    exact ⟨_, rfl, fun _ => hl, hb1⟩
  · have hd : decide ((len : Int) ≤ 120) = false := by simp; omega
    go_enter Try.func4, Try.ntmps4
    go_wp2_with fail
    go_ret
    exact ⟨false, rfl, (fun h => absurd h (by simp)), Below.refl _ _⟩
end Go.Proofs.Ytpmcpfmbhebjpaa
