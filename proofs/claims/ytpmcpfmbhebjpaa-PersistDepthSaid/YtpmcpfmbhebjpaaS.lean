/- One operation, of whatever kind. -/
import Derived.Test.YtpmcpfmbhebjpaaQ
import Derived.Test.YtpmcpfmbhebjpaaR
namespace Go.Proofs.Ytpmcpfmbhebjpaa
open Go.RowKit

theorem step_any (kind tr other n cap B o : Nat) (key : ByteArray) (value : Int) (q1 q2 : Option Addr) (t u : Tr) (w : World) (hk : kind ≤ 255) (ht : tr ≤ 255) (ho : other ≤ 255)
    (hn : 0 < n) (hn2 : n ≤ 1000) (hc1 : w.cell? ⟨B, o + tr % n, none⟩ = some (.pointer q1)) (hc2 : w.cell? ⟨B, o + other % n, none⟩ = some (.pointer q2)) (hr1 : Rep w q1 t) (hr2 : Rep w q2 u) (hs : t.size + u.size + 1 ≤ 1000000000000) :
    Calls Try.prog 6 #[.slice (some ⟨B, o, none⟩) n cap, .agg #[.int .u8 (kind : Int), .int .u8 (tr : Int), .int .u8 (other : Int), .string key, .int .i64 value]] w (MakesT w (stepT kind key value t u)) := by
  have h8 : kind % 8 < 8 := Nat.mod_lt _ (by omega)
  rcases Nat.lt_or_ge (kind % 8) 1 with h | h
  · exact step0 kind tr other n cap B o key value q1 q2 t u w hk ht ho hn hn2 hc1 hc2 hr1 hr2 hs (by omega)
  rcases Nat.lt_or_ge (kind % 8) 2 with h | h
  · exact step1 kind tr other n cap B o key value q1 q2 t u w hk ht ho hn hn2 hc1 hc2 hr1 hr2 hs (by omega)
  rcases Nat.lt_or_ge (kind % 8) 3 with h | h
  · exact step2 kind tr other n cap B o key value q1 q2 t u w hk ht ho hn hn2 hc1 hc2 hr1 hr2 hs (by omega)
  rcases Nat.lt_or_ge (kind % 8) 4 with h | h
  · exact step3 kind tr other n cap B o key value q1 q2 t u w hk ht ho hn hn2 hc1 hc2 hr1 hr2 hs (by omega)
  rcases Nat.lt_or_ge (kind % 8) 5 with h | h
  · exact step4 kind tr other n cap B o key value q1 q2 t u w hk ht ho hn hn2 hc1 hc2 hr1 hr2 hs (by omega)
  rcases Nat.lt_or_ge (kind % 8) 6 with h | h
  · exact step5 kind tr other n cap B o key value q1 q2 t u w hk ht ho hn hn2 hc1 hc2 hr1 hr2 hs (by omega)
  rcases Nat.lt_or_ge (kind % 8) 7 with h | h
  · exact step6 kind tr other n cap B o key value q1 q2 t u w hk ht ho hn hn2 hc1 hc2 hr1 hr2 hs (by omega)
  · exact step7 kind tr other n cap B o key value q1 q2 t u w hk ht ho hn hn2 hc1 hc2 hr1 hr2 hs (by omega)

/-! ### What an operation keeps -/

/-- A good tree over a list of keys: balanced, in order, its keys out of the list. -/
def Good (ks : List ByteArray) (t : Tr) : Prop := t.even ∧ Tr.Inc t.keys ∧ ∀ x ∈ t.keys, x ∈ ks

theorem Good.nil (ks : List ByteArray) : Good ks .nil := ⟨trivial, by simp [Tr.keys, Tr.Inc], by simp [Tr.keys]⟩
theorem Good.more {ks ks' : List ByteArray} {t : Tr} (h : Good ks t) (hk : ∀ x ∈ ks, x ∈ ks') : Good ks' t := ⟨h.1, h.2.1, fun x hx => hk x (h.2.2 x hx)⟩
theorem Good.size {ks : List ByteArray} {t : Tr} (h : Good ks t) : t.size ≤ ks.length := by
  rw [← Tr.length_keys]; exact Tr.inc_few _ _ h.2.1 h.2.2

theorem good_step {ks : List ByteArray} {t u : Tr} (kind : Nat) (key : ByteArray) (value : Int) (ht : Good ks t) (hu : Good ks u) : Good (ks ++ [key]) (stepT kind key value t u) := by
  have m : ∀ x ∈ ks, x ∈ ks ++ [key] := fun x hx => by simp [hx]
  obtain ⟨t1, t2, t3⟩ := ht
  obtain ⟨s1, s2, s3, s4, s5, s6⟩ := Tr.split_keys key t t2
  unfold stepT
  split
  · refine ⟨(Tr.even_put key value t t1).1, Tr.inc_put key value t t2, fun x hx => ?_⟩
    rcases Tr.mem_put key value x t hx with rfl | h
    · simp
    · exact m x (t3 x h)
  · split
    · exact ⟨Tr.even_delete key t t1, Tr.inc_delete key t t2, fun x hx => m x (t3 x (Tr.mem_delete key t t2 x hx))⟩
    · split
      · exact ⟨(Tr.even_split key t t1).1, s1, fun x hx => m x (t3 x (s5 x hx))⟩
      · split
        · exact ⟨(Tr.even_split key t t1).2, s2, fun x hx => m x (t3 x (s6 x hx))⟩
        · split
          · exact ⟨Tr.even_join t u t1 hu.1, Tr.inc_join t u t2 hu.2.1, fun x hx => m x ((Tr.mem_join t u x hx).elim (t3 x) (hu.2.2 x))⟩
          · exact ⟨t1, t2, fun x hx => m x (t3 x hx)⟩

/-- What the law asks of the numbers. -/
theorem good_depth {ks : List ByteArray} {t : Tr} (h : Good ks t) (hk : ks.length ≤ 120) :
    t.height ≤ 13 ∧ t.size ≤ 120 ∧ t.size < 2 ^ t.height ∧ 2 ^ t.height ≤ (t.size + 1) * (t.size + 1) ∧ (t.height = 0 ↔ t.size = 0) := by
  have h1 := h.size
  have h2 := Tr.even_full t h.1
  have h3 := Tr.size_lt t
  refine ⟨?_, by omega, h3, h2, ?_⟩
  · rcases Nat.lt_or_ge 13 t.height with h4 | h4
    · have h5 : 2 ^ 14 ≤ 2 ^ t.height := Nat.pow_le_pow_right (by omega) h4
      have h6 : (t.size + 1) * (t.size + 1) ≤ 121 * 121 := Nat.mul_le_mul (by omega) (by omega)
      omega
    · exact h4
  · cases t <;> simp [Tr.height, Tr.size]
end Go.Proofs.Ytpmcpfmbhebjpaa
