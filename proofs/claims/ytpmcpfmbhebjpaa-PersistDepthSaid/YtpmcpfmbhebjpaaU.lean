/- More on trees as plain data: joining, rank, the place of a key. -/
import Derived.Test.YtpmcpfmbhebjpaaT
namespace Go.Proofs.Ytpmcpfmbhebjpaa
namespace Tr

theorem link_left (mk : ByteArray) (mv : Int) (k : ByteArray) (v : Int) (ll lr r : Tr) (h : r.height + 1 < (Tr.node k v ll lr).height) : link mk mv (.node k v ll lr) r = bal k v ll (link mk mv lr r) := by
  cases r with
  | nil => rw [link, if_pos (by simpa [height] using h)]
  | node k2 v2 rl rr => rw [link, if_pos h]

theorem link_right (mk : ByteArray) (mv : Int) (k : ByteArray) (v : Int) (l rl rr : Tr) (h : l.height + 1 < (Tr.node k v rl rr).height) : link mk mv l (.node k v rl rr) = bal k v (link mk mv l rl) rr := by
  cases l with
  | nil => rw [link, if_pos (by simpa [height] using h)]
  | node k2 v2 ll lr => rw [link, if_neg (by omega), if_pos h]

theorem link_here (mk : ByteArray) (mv : Int) (l r : Tr) (h : ¬ r.height + 1 < l.height) (h' : ¬ l.height + 1 < r.height) : link mk mv l r = .node mk mv l r := by
  cases l with
  | nil =>
    cases r with
    | nil => rw [link]
    | node k2 v2 rl rr => rw [link, if_neg (by simpa [height] using h')]
  | node k v ll lr =>
    cases r with
    | nil => rw [link, if_neg (by simpa [height] using h)]
    | node k2 v2 rl rr => rw [link, if_neg h, if_neg h']

/-- How many keys are less. -/
def rank (k : ByteArray) : Tr → Nat
  | .nil => 0
  | .node k' _ l r => if lt k k' = true then rank k l else if lt k' k = true then rank k r + (l.size + 1) else l.size

theorem rank_le (k : ByteArray) : ∀ t : Tr, rank k t ≤ t.size
  | .nil => by simp [rank, size]
  | .node k' v' l r => by
    have := rank_le k l
    have := rank_le k r
    rw [rank, size]
    split
    · omega
    · split <;> omega

/-- The entry with an index. -/
def at? : Tr → Nat → ByteArray × Int
  | .nil, _ => (ByteArray.empty, 0)
  | .node k v l r, i => if i = l.size then (k, v) else if i < l.size then at? l i else at? r (i - (l.size + 1))

theorem at_keys : ∀ (t : Tr) (i : Nat), i < t.size → (at? t i).1 = t.keys.getD i ByteArray.empty
  | .nil, i, h => by simp [size] at h
  | .node k v l r, i, h => by
    have h1 := at_keys l i
    have h2 := at_keys r (i - (l.size + 1))
    simp only [size] at h
    rw [at?, keys]
    split
    · rename_i e
      rw [List.getD_eq_getElem?_getD, List.getElem?_append_right (by rw [length_keys]; omega), length_keys, show i - l.size = 0 by omega]; rfl
    · split
      · rename_i e e'
        rw [h1 e', List.getD_eq_getElem?_getD, List.getD_eq_getElem?_getD, List.getElem?_append_left (by rw [length_keys]; omega)]
      · rename_i e e'
        rw [h2 (by omega), List.getD_eq_getElem?_getD, List.getD_eq_getElem?_getD, List.getElem?_append_right (by rw [length_keys]; omega), length_keys, show i - l.size = (i - (l.size + 1)) + 1 by omega, List.getElem?_cons_succ]

end Tr
end Go.Proofs.Ytpmcpfmbhebjpaa
