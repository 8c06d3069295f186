/- Rows that a call makes for itself: which blocks they lie in, and what an append does to them. -/
import Derived.Test.YtpmcpfmbhebjpaaX
import Derived.ArgAppend
namespace Go.Proofs.Ytpmcpfmbhebjpaa
open Go.RowKit

/-- Blocks that are there, no two the same. -/
def Live (w : World) (l : List (Option Nat)) : Prop :=
  (∀ i g : Nat, l[i]? = some (some g) → g < w.heap.size) ∧ ∀ i j g : Nat, l[i]? = some (some g) → l[j]? = some (some g) → i = j

theorem Live.put {w w' : World} {l : List (Option Nat)} (h : Live w l) (hs : w.heap.size ≤ w'.heap.size) {p : Nat} {r : Option Nat}
    (hr : ∀ g, r = some g → l[p]? = some (some g) ∨ w.heap.size ≤ g ∧ g < w'.heap.size) : Live w' (l.set p r) := by
  have key : ∀ i g : Nat, (l.set p r)[i]? = some (some g) → (i = p ∧ r = some g) ∨ (i ≠ p ∧ l[i]? = some (some g)) := by
    intro i g hi
    rw [List.getElem?_set] at hi
    by_cases e : p = i
    · subst e
      rw [if_pos rfl] at hi
      split at hi
      · exact .inl ⟨rfl, by simpa using hi⟩
      · cases hi
    · rw [if_neg e] at hi
      exact .inr ⟨fun h => e h.symm, hi⟩
  refine ⟨fun i g hi => ?_, fun i j g hi hj => ?_⟩
  · rcases key i g hi with ⟨_, h2⟩ | ⟨_, h2⟩
    · rcases hr g h2 with h3 | h3
      · exact Nat.lt_of_lt_of_le (h.1 p g h3) hs
      · exact h3.2
    · exact Nat.lt_of_lt_of_le (h.1 i g h2) hs
  · rcases key i g hi with ⟨h1, h2⟩ | ⟨h1, h2⟩ <;> rcases key j g hj with ⟨k1, k2⟩ | ⟨k1, k2⟩
    · rw [h1, k1]
    · rcases hr g h2 with h3 | h3
      · exact absurd (h.2 j p g k2 h3) k1
      · have := h.1 j g k2; omega
    · rcases hr g k2 with h3 | h3
      · exact absurd (h.2 i p g h2 h3) h1
      · have := h.1 i g h2; omega
    · exact h.2 i j g h2 k2

theorem Live.ne {w : World} {l : List (Option Nat)} (h : Live w l) {i j g : Nat} (hi : l[i]? = some (some g)) (hij : i ≠ j) {r : Option Nat} (hj : l[j]? = some r) : some g ≠ r := by
  rintro rfl; exact hij (h.2 i j g hi hj)

/-- An append of one element to a row of one's own: the same block, or a new one. -/
theorem append_one {P : Program} (w : World) (B : Nat) (t ty e : TypeId) (i : TypeInfo) (z : Value) (bytes : Nat) (ht : P.underlying t = some (.slice e)) (hi : P.info? e = some i) (hz : i.zero = some z)
    (hsize : i.size = 1) (hby : i.bytes = bytes) (hzs : z.cells.size = 1) (v : Value) (n : Nat) (xs : List Value) (hown : w.ownsRow B e 1 v n xs)
    (r : Nat) (u : Value) (hu : w.cell? ⟨r, 0, none⟩ = some u) (h1 : u.oneCell' = true) (h63 : n + 1 ≤ 1000000) (hbytes : bytes ≤ 1000000) (hbase : B ≤ w.heap.size) :
    ∃ v' w', (Builtin.append_ #[t, t] ty #[v, .slice (some ⟨r, 0, none⟩) 1 1]).run P w = .ok v' w' ∧ w'.ownsRow B e 1 v' (n + 1) (xs ++ [u]) ∧ w.grownBy w' v.ownBlock ∧
      (v'.ownBlock = v.ownBlock ∨ ∃ g, v'.ownBlock = some g ∧ w.heap.size ≤ g) := by
  have hb : (n + 1) * bytes ≤ 140737488355328 := by
    have := Nat.mul_le_mul h63 hbytes; omega
  have hnews : ∀ j u', [u][j]? = some u' → w.cell? ((⟨r, 0, none⟩ : Addr).add j) = some u' := by
    intro j u' hj
    cases j with
    | zero => simp at hj; subst hj; simpa [Addr.add] using hu
    | succ j => simp at hj
  rcases hown.2 with ⟨rfl, rfl⟩ | ⟨g, cap, cur, rfl, hbg, hg, hnc, hcm, hcs, htake⟩
  · obtain ⟨v', w', hrun, r1, r2, r3⟩ := run_append_own (P := P) w w.heap.size t ty e i z 1 bytes ht hi hz hsize hby hzs (by omega) (.slice none 0 0) 0 [] (World.ownsRow_nil w _ e 1) ⟨r, 0, none⟩ 1 1 [u] rfl hnews (by simpa using h1) (by unfold maxLen; omega) hb (Nat.le_refl _)
    have hx : xs = [] := List.eq_nil_of_length_eq_zero (by simpa using hown.1)
    subst hx
    refine ⟨v', w', hrun, ?_, r2, ?_⟩
    · obtain ⟨q1, q2⟩ := r1
      refine ⟨q1, q2.imp id ?_⟩
      rintro ⟨g, cap, cur, a1, a2, a3⟩
      exact ⟨g, cap, cur, a1, by omega, a3⟩
    · right
      rcases r1.2 with ⟨h, h'⟩ | ⟨g, cap, cur, rfl, a2, _⟩
      · cases h'
      · exact ⟨g, rfl, a2⟩
  · by_cases hroom : n + 1 ≤ cap
    · have := run_append_room (P := P) w t ty e i ht hi g n cap cur hg ⟨r, 0, none⟩ 1 1 [u] (by rw [hsize]; rfl) hnews (by simpa using h1) hroom (by rw [hsize, hcs]; simp; omega)
      refine ⟨_, _, this, ?_, ?_, .inl rfl⟩
      · have hs : (cur.toList.take (n * i.size) ++ [u] ++ cur.toList.drop (n * i.size + [u].length)).toArray.size = cap := by
          simp [hsize]; omega
        refine ⟨by simp [hown.1], .inr ⟨g, cap, _, rfl, hbg, setRow_heap w g cur _ e _ hg, hroom, hcm, by rw [hs]; simp, ?_⟩⟩
        rw [← htake, hsize]
        simp only [Nat.mul_one]
        rw [List.take_append_of_le_length (by simp; omega)]
        exact List.take_of_length_le (by simp; omega)
      · exact ⟨rfl, rfl, rfl, by simp, fun k _ hk => setRow_other w g k _ (fun e => hk (by simp [Value.ownBlock, e]))⟩
    · obtain ⟨v', w', hrun, r1, r2⟩ := run_append_arg_grows (P := P) w t ty e i z 1 bytes ht hi hz hsize hby hzs (by omega) ⟨g, 0, none⟩ n cap xs (by simpa using hown.1) (hown.cells rfl) ⟨r, 0, none⟩ 1 1 [u] rfl hnews (by omega) (by unfold maxLen; omega) hb
      refine ⟨v', w', hrun, ?_, ?_, ?_⟩
      · obtain ⟨q1, q2⟩ := r1
        refine ⟨q1, q2.imp id ?_⟩
        rintro ⟨g, cap, cur, a1, a2, a3⟩
        exact ⟨g, cap, cur, a1, by omega, a3⟩
      · exact ⟨r2.os, r2.tape, r2.output, r2.size, fun k hk _ => r2.block k hk (by simp)⟩
      · right
        rcases r1.2 with ⟨h, h'⟩ | ⟨g, cap, cur, rfl, a2, _⟩
        · cases h'
        · exact ⟨g, rfl, a2⟩
end Go.Proofs.Ytpmcpfmbhebjpaa
