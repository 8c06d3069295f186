/- Balanced trees as plain data: what the operations make of them, that they stay balanced and in order, and how deep they are. -/
import GoSem.Op.String
import Derived.Lib.Strings
namespace Go.Proofs.Ytpmcpfmbhebjpaa

/-- A tree of keys and values. -/
inductive Tr where
  | nil
  | node (k : ByteArray) (v : Int) (l r : Tr)

namespace Tr

def size : Tr → Nat
  | .nil => 0
  | .node _ _ l r => l.size + r.size + 1

def height : Tr → Nat
  | .nil => 0
  | .node _ _ l r => max l.height r.height + 1

def keys : Tr → List ByteArray
  | .nil => []
  | .node k _ l r => l.keys ++ k :: r.keys

def rotL : Tr → Tr
  | .node k v l (.node k2 v2 l2 r2) => .node k2 v2 (.node k v l l2) r2
  | t => t

def rotR : Tr → Tr
  | .node k v (.node k2 v2 l2 r2) r => .node k2 v2 l2 (.node k v r2 r)
  | t => t

def left : Tr → Tr | .nil => .nil | .node _ _ l _ => l
def right : Tr → Tr | .nil => .nil | .node _ _ _ r => r

/-- The node made even: its subtrees differ by two at most. -/
def bal (k : ByteArray) (v : Int) (l r : Tr) : Tr :=
  if r.height + 1 < l.height then
    if l.left.height < l.right.height then (Tr.node k v l.rotL r).rotR else (Tr.node k v l r).rotR
  else if l.height + 1 < r.height then
    if r.right.height < r.left.height then (Tr.node k v l r.rotR).rotL else (Tr.node k v l r).rotL
  else .node k v l r

def lt (a b : ByteArray) : Bool := Op.bytesLess a.toList b.toList

def put (k : ByteArray) (v : Int) : Tr → Tr
  | .nil => .node k v .nil .nil
  | .node k' v' l r => if lt k k' = true then bal k' v' (put k v l) r else if lt k' k = true then bal k' v' l (put k v r) else .node k v l r

def link (mk : ByteArray) (mv : Int) : Tr → Tr → Tr
  | .nil, .nil => .node mk mv .nil .nil
  | .nil, .node k v rl rr => if 1 < (Tr.node k v rl rr).height then bal k v (link mk mv .nil rl) rr else .node mk mv .nil (.node k v rl rr)
  | .node k v ll lr, .nil => if 1 < (Tr.node k v ll lr).height then bal k v ll (link mk mv lr .nil) else .node mk mv (.node k v ll lr) .nil
  | .node k v ll lr, .node k2 v2 rl rr =>
    if (Tr.node k2 v2 rl rr).height + 1 < (Tr.node k v ll lr).height then bal k v ll (link mk mv lr (.node k2 v2 rl rr))
    else if (Tr.node k v ll lr).height + 1 < (Tr.node k2 v2 rl rr).height then bal k2 v2 (link mk mv (.node k v ll lr) rl) rr
    else .node mk mv (.node k v ll lr) (.node k2 v2 rl rr)
termination_by l r => l.size + r.size
decreasing_by all_goals simp only [size]; omega

/-- The last key, its value, and the rest. -/
def last : Tr → ByteArray × Int × Tr
  | .nil => (ByteArray.empty, 0, .nil)
  | .node k v l .nil => (k, v, l)
  | .node k v l (.node k2 v2 l2 r2) =>
    let q := last (.node k2 v2 l2 r2)
    (q.1, q.2.1, link k v l q.2.2)

def concat : Tr → Tr → Tr
  | .nil, r => r
  | .node k v l r, u => let q := last (.node k v l r); link q.1 q.2.1 q.2.2 u

def split (k : ByteArray) : Tr → Tr × Tr
  | .nil => (.nil, .nil)
  | .node k' v' l r =>
    if lt k k' = true then ((split k l).1, link k' v' (split k l).2 r)
    else if lt k' k = true then (link k' v' l (split k r).1, (split k r).2)
    else (l, r)

/-- Is the key there? -/
def has (k : ByteArray) : Tr → Bool
  | .nil => false
  | .node k' _ l r => if lt k k' = true then has k l else if lt k' k = true then has k r else true

def delete (k : ByteArray) (t : Tr) : Tr := if has k t = true then concat (split k t).1 (split k t).2 else t

def join (t u : Tr) : Tr :=
  match t, u with
  | .nil, u => u
  | t, .nil => concat t .nil
  | t, u => if lt (t.keys.getD (t.size - 1) ByteArray.empty) (u.keys.getD 0 ByteArray.empty) = true then concat t u else .nil

/-! ### Sizes and keys -/

theorem length_keys : ∀ t : Tr, t.keys.length = t.size
  | .nil => rfl
  | .node k v l r => by simp [keys, size, length_keys l, length_keys r]; omega

theorem height_nil_iff (t : Tr) : t.height = 0 ↔ t = .nil := by cases t <;> simp [height]

theorem keys_rotL : ∀ t : Tr, t.rotL.keys = t.keys
  | .nil => rfl
  | .node _ _ _ .nil => rfl
  | .node _ _ _ (.node _ _ _ _) => by simp [rotL, keys]

theorem keys_rotR : ∀ t : Tr, t.rotR.keys = t.keys
  | .nil => rfl
  | .node _ _ .nil _ => rfl
  | .node _ _ (.node _ _ _ _) _ => by simp [rotR, keys]

theorem keys_bal (k : ByteArray) (v : Int) (l r : Tr) : (bal k v l r).keys = l.keys ++ k :: r.keys := by
  unfold bal
  split
  · split <;> simp [keys_rotR, keys_rotL, keys]
  · split
    · split <;> simp [keys_rotR, keys_rotL, keys]
    · rfl

theorem keys_link (mk : ByteArray) (mv : Int) (l r : Tr) : (link mk mv l r).keys = l.keys ++ mk :: r.keys := by
  induction l, r using link.induct with
  | case1 => simp [link, keys]
  | case2 k v rl rr h ih => rw [link, if_pos h, keys_bal, ih]; simp [keys]
  | case3 k v rl rr h => rw [link, if_neg h]; simp [keys]
  | case4 k v ll lr h ih => rw [link, if_pos h, keys_bal, ih]; simp [keys]
  | case5 k v ll lr h => rw [link, if_neg h]; simp [keys]
  | case6 k v ll lr k2 v2 rl rr h ih => rw [link, if_pos h, keys_bal, ih]; simp [keys]
  | case7 k v ll lr k2 v2 rl rr h h' ih => rw [link, if_neg h, if_pos h', keys_bal, ih]; simp [keys]
  | case8 k v ll lr k2 v2 rl rr h h' => rw [link, if_neg h, if_neg h']; simp [keys]

theorem keys_last : ∀ (t : Tr), t ≠ .nil → t.last.2.2.keys ++ [t.last.1] = t.keys
  | .nil, h => absurd rfl h
  | .node k v l .nil, _ => by simp [last, keys]
  | .node k v l (.node k2 v2 l2 r2), _ => by
    have h := keys_last (.node k2 v2 l2 r2) (by simp)
    rw [last]
    simp only [keys_link]
    rw [List.append_assoc, List.cons_append, h]
    simp [keys]

theorem keys_concat (t u : Tr) : (concat t u).keys = t.keys ++ u.keys := by
  cases t with
  | nil => rfl
  | node k v l r =>
    have h := keys_last (.node k v l r) (by simp)
    rw [concat, keys_link, ← h]
    simp

theorem size_link (mk : ByteArray) (mv : Int) (l r : Tr) : (link mk mv l r).size = l.size + r.size + 1 := by
  rw [← length_keys, keys_link, ← length_keys, ← length_keys]; simp; omega

theorem size_bal (k : ByteArray) (v : Int) (l r : Tr) : (bal k v l r).size = l.size + r.size + 1 := by
  rw [← length_keys, keys_bal, ← length_keys, ← length_keys]; simp; omega

theorem size_put (k : ByteArray) (v : Int) : ∀ t : Tr, (put k v t).size ≤ t.size + 1
  | .nil => by simp [put, size]
  | .node k' v' l r => by
    have h1 := size_put k v l
    have h2 := size_put k v r
    rw [put]
    split
    · rw [size_bal]; simp only [size]; omega
    · split
      · rw [size_bal]; simp only [size]; omega
      · simp only [size]; omega

theorem size_last (t : Tr) (h : t ≠ .nil) : t.last.2.2.size + 1 = t.size := by
  have := congrArg List.length (keys_last t h)
  simp only [List.length_append, length_keys, List.length_cons, List.length_nil] at this
  omega

theorem size_concat (t u : Tr) : (concat t u).size = t.size + u.size := by
  rw [← length_keys, keys_concat, List.length_append, length_keys, length_keys]

theorem size_split (k : ByteArray) : ∀ t : Tr, (split k t).1.size + (split k t).2.size ≤ t.size
  | .nil => by simp [split, size]
  | .node k' v' l r => by
    have h1 := size_split k l
    have h2 := size_split k r
    rw [split]
    split
    · simp only [size_link, size]; omega
    · split
      · simp only [size_link, size]; omega
      · simp only [size]; omega

theorem height_le_size : ∀ t : Tr, t.height ≤ t.size
  | .nil => Nat.le_refl _
  | .node _ _ l r => by have := height_le_size l; have := height_le_size r; simp only [height, size]; omega

/-! ### Balance -/

def even : Tr → Prop
  | .nil => True
  | .node _ _ l r => l.height ≤ r.height + 1 ∧ r.height ≤ l.height + 1 ∧ l.even ∧ r.even

theorem even_bal (k : ByteArray) (v : Int) (l r : Tr) (hl : l.even) (hr : r.even) (h1 : l.height ≤ r.height + 2) (h2 : r.height ≤ l.height + 2) :
    (bal k v l r).even ∧ max l.height r.height ≤ (bal k v l r).height ∧ (bal k v l r).height ≤ max l.height r.height + 1 ∧
    (l.height ≤ r.height + 1 → r.height ≤ l.height + 1 → (bal k v l r).height = max l.height r.height + 1) := by
  unfold bal
  by_cases c1 : r.height + 1 < l.height
  · rw [if_pos c1]
    cases l with
    | nil => simp [height] at c1
    | node lk lv ll lr =>
      obtain ⟨e1, e2, e3, e4⟩ := hl
      by_cases c2 : ll.height < lr.height
      · rw [if_pos (by simpa [left, right] using c2)]
        cases lr with
        | nil => simp [height] at c2
        | node rk rv rl rr =>
          obtain ⟨f1, f2, f3, f4⟩ := e4
          simp only [rotL, rotR, even, height] at *
          refine ⟨⟨by omega, by omega, ⟨by omega, by omega, e3, f3⟩, ⟨by omega, by omega, f4, hr⟩⟩, by omega, by omega, by omega⟩
      · rw [if_neg (by simpa [left, right] using c2)]
        simp only [rotR, even, height] at *
        refine ⟨⟨by omega, by omega, e3, ⟨by omega, by omega, e4, hr⟩⟩, by omega, by omega, by omega⟩
  · rw [if_neg c1]
    by_cases d1 : l.height + 1 < r.height
    · rw [if_pos d1]
      cases r with
      | nil => simp [height] at d1
      | node rk rv rl rr =>
        obtain ⟨e1, e2, e3, e4⟩ := hr
        by_cases c2 : rr.height < rl.height
        · rw [if_pos (by simpa [left, right] using c2)]
          cases rl with
          | nil => simp [height] at c2
          | node lk lv ll lr =>
            obtain ⟨f1, f2, f3, f4⟩ := e3
            simp only [rotL, rotR, even, height] at *
            refine ⟨⟨by omega, by omega, ⟨by omega, by omega, hl, f3⟩, ⟨by omega, by omega, f4, e4⟩⟩, by omega, by omega, by omega⟩
        · rw [if_neg (by simpa [left, right] using c2)]
          simp only [rotL, even, height] at *
          refine ⟨⟨by omega, by omega, ⟨by omega, by omega, hl, e3⟩, e4⟩, by omega, by omega, by omega⟩
    · rw [if_neg d1]
      simp only [even, height]
      exact ⟨⟨by omega, by omega, hl, hr⟩, by omega, by omega, by intros; first | rfl | trivial⟩

theorem even_put (k : ByteArray) (v : Int) : ∀ t : Tr, t.even → (put k v t).even ∧ t.height ≤ (put k v t).height ∧ (put k v t).height ≤ t.height + 1
  | .nil, _ => by simp [put, even, height]
  | .node k' v' l r, ⟨e1, e2, e3, e4⟩ => by
    obtain ⟨a1, a2, a3⟩ := even_put k v l e3
    obtain ⟨b1, b2, b3⟩ := even_put k v r e4
    rw [put]
    split
    · obtain ⟨c1, c2, c3, c4⟩ := even_bal k' v' (put k v l) r a1 e4 (by omega) (by omega)
      simp only [height]
      exact ⟨c1, by omega, by omega⟩
    · split
      · obtain ⟨c1, c2, c3, c4⟩ := even_bal k' v' l (put k v r) e3 b1 (by omega) (by omega)
        simp only [height]
        exact ⟨c1, by omega, by omega⟩
      · exact ⟨⟨e1, e2, e3, e4⟩, Nat.le_refl _, Nat.le_succ _⟩

theorem even_link (mk : ByteArray) (mv : Int) (l r : Tr) : l.even → r.even → (link mk mv l r).even ∧ max l.height r.height ≤ (link mk mv l r).height ∧ (link mk mv l r).height ≤ max l.height r.height + 1 := by
  induction l, r using link.induct with
  | case1 => intro _ _; simp [link, even, height]
  | case2 k v rl rr h ih =>
    rintro hl ⟨e1, e2, e3, e4⟩
    obtain ⟨i1, i2, i3⟩ := ih hl e3
    rw [link, if_pos h]
    simp only [height] at *
    obtain ⟨c1, c2, c3, c4⟩ := even_bal k v (link mk mv .nil rl) rr i1 e4 (by omega) (by omega)
    exact ⟨c1, by omega, by omega⟩
  | case3 k v rl rr h =>
    rintro hl hr
    rw [link, if_neg h]
    simp only [height] at *
    exact ⟨⟨by simp only [height]; omega, by simp only [height]; omega, hl, hr⟩, by omega, by omega⟩
  | case4 k v ll lr h ih =>
    rintro ⟨e1, e2, e3, e4⟩ hr
    obtain ⟨i1, i2, i3⟩ := ih e4 hr
    rw [link, if_pos h]
    simp only [height] at *
    obtain ⟨c1, c2, c3, c4⟩ := even_bal k v ll (link mk mv lr .nil) e3 i1 (by omega) (by omega)
    exact ⟨c1, by omega, by omega⟩
  | case5 k v ll lr h =>
    rintro hl hr
    rw [link, if_neg h]
    simp only [height] at *
    exact ⟨⟨by simp only [height]; omega, by simp only [height]; omega, hl, hr⟩, by omega, by omega⟩
  | case6 k v ll lr k2 v2 rl rr h ih =>
    rintro ⟨e1, e2, e3, e4⟩ hr
    obtain ⟨i1, i2, i3⟩ := ih e4 hr
    rw [link, if_pos h]
    simp only [height] at *
    obtain ⟨c1, c2, c3, c4⟩ := even_bal k v ll (link mk mv lr (.node k2 v2 rl rr)) e3 i1 (by omega) (by omega)
    exact ⟨c1, by omega, by omega⟩
  | case7 k v ll lr k2 v2 rl rr h h' ih =>
    rintro hl ⟨e1, e2, e3, e4⟩
    obtain ⟨i1, i2, i3⟩ := ih hl e3
    rw [link, if_neg h, if_pos h']
    simp only [height] at *
    obtain ⟨c1, c2, c3, c4⟩ := even_bal k2 v2 (link mk mv (.node k v ll lr) rl) rr i1 e4 (by omega) (by omega)
    exact ⟨c1, by omega, by omega⟩
  | case8 k v ll lr k2 v2 rl rr h h' =>
    rintro hl hr
    rw [link, if_neg h, if_neg h']
    simp only [height] at *
    exact ⟨⟨by simp only [height]; omega, by simp only [height]; omega, hl, hr⟩, by omega, by omega⟩

theorem even_last : ∀ t : Tr, t.even → t.last.2.2.even
  | .nil, _ => by simp [last, even]
  | .node k v l .nil, ⟨e1, e2, e3, e4⟩ => by simp only [last]; exact e3
  | .node k v l (.node k2 v2 l2 r2), ⟨e1, e2, e3, e4⟩ => by
    have a1 := even_last (.node k2 v2 l2 r2) e4
    rw [last]
    exact (even_link k v l (last (.node k2 v2 l2 r2)).2.2 e3 a1).1

theorem even_concat (t u : Tr) (ht : t.even) (hu : u.even) : (concat t u).even := by
  cases t with
  | nil => exact hu
  | node k v l r =>
    rw [concat]
    exact (even_link _ _ _ _ (even_last _ ht) hu).1

theorem even_split (k : ByteArray) : ∀ t : Tr, t.even → (split k t).1.even ∧ (split k t).2.even
  | .nil, _ => by simp [split, even]
  | .node k' v' l r, ⟨e1, e2, e3, e4⟩ => by
    obtain ⟨a1, a2⟩ := even_split k l e3
    obtain ⟨b1, b2⟩ := even_split k r e4
    rw [split]
    split
    · exact ⟨a1, (even_link _ _ _ _ a2 e4).1⟩
    · split
      · exact ⟨(even_link _ _ _ _ e3 b1).1, b2⟩
      · exact ⟨e3, e4⟩

theorem even_delete (k : ByteArray) (t : Tr) (ht : t.even) : (delete k t).even := by
  unfold delete
  split
  · exact even_concat _ _ (even_split k t ht).1 (even_split k t ht).2
  · exact ht

theorem even_join (t u : Tr) (ht : t.even) (hu : u.even) : (join t u).even := by
  unfold join
  split
  · exact hu
  · exact even_concat _ _ ht hu
  · split
    · exact even_concat _ _ ht hu
    · trivial

/-- A balanced tree is full enough. -/
theorem even_full : ∀ t : Tr, t.even → 2 ^ t.height ≤ (t.size + 1) * (t.size + 1)
  | .nil, _ => by simp [height, size]
  | .node k v l r, ⟨e1, e2, e3, e4⟩ => by
    have a := even_full l e3
    have b := even_full r e4
    simp only [height, size]
    have key : ∀ (x y p q m : Nat), p ≤ x * x → q ≤ y * y → m ≤ p → m ≤ q → 2 * m ≤ p + q ∧ (3 * m ≤ p + q ∨ True) → p + q + 2 * m ≤ (x + y) * (x + y) := by
      intro x y p q m h1 h2 h3 h4 _
      have h5 : m ≤ x * y := by
        rcases Nat.le_total x y with h | h
        · exact Nat.le_trans (Nat.le_trans h3 h1) (Nat.mul_le_mul_left _ h)
        · exact Nat.le_trans (Nat.le_trans h4 h2) (Nat.mul_le_mul_right _ h)
      have h6 : (x + y) * (x + y) = x * x + y * y + 2 * (x * y) := by
        rw [Nat.add_mul, Nat.mul_add, Nat.mul_add, Nat.mul_comm y x]; omega
      omega
    have e : l.size + r.size + 1 + 1 = (l.size + 1) + (r.size + 1) := by omega
    rw [e]
    have pos : ∀ n : Nat, 1 ≤ 2 ^ n := fun n => Nat.one_le_two_pow
    rcases Nat.lt_trichotomy l.height r.height with h | h | h
    · have h' : r.height = l.height + 1 := by omega
      rw [show max l.height r.height + 1 = l.height + 2 by omega]
      rw [h'] at b
      have h2 : 2 ^ (l.height + 2) = 4 * 2 ^ l.height := by rw [Nat.pow_add]; omega
      have h3 : 2 ^ (l.height + 1) = 2 * 2 ^ l.height := by rw [Nat.pow_add]; omega
      rw [h3] at b
      have := key _ _ _ _ (2 ^ l.height) a b (Nat.le_refl _) (by omega) ⟨by omega, .inr trivial⟩
      omega
    · rw [show max l.height r.height + 1 = l.height + 1 by omega]
      rw [← h] at b
      have h3 : 2 ^ (l.height + 1) = 2 * 2 ^ l.height := by rw [Nat.pow_add]; omega
      have := key _ _ _ _ (2 ^ l.height) a b (Nat.le_refl _) (by omega) ⟨by omega, .inr trivial⟩
      omega
    · have h' : l.height = r.height + 1 := by omega
      rw [show max l.height r.height + 1 = r.height + 2 by omega]
      rw [h'] at a
      have h2 : 2 ^ (r.height + 2) = 4 * 2 ^ r.height := by rw [Nat.pow_add]; omega
      have h3 : 2 ^ (r.height + 1) = 2 * 2 ^ r.height := by rw [Nat.pow_add]; omega
      rw [h3] at a
      have := key _ _ _ _ (2 ^ r.height) a b (by omega) (Nat.le_refl _) ⟨by omega, .inr trivial⟩
      omega

theorem size_lt : ∀ t : Tr, t.size < 2 ^ t.height
  | .nil => by simp [height, size]
  | .node k v l r => by
    have a := size_lt l
    have b := size_lt r
    simp only [height, size]
    have h3 : 2 ^ (max l.height r.height + 1) = 2 * 2 ^ (max l.height r.height) := by rw [Nat.pow_add]; omega
    have h4 : 2 ^ l.height ≤ 2 ^ (max l.height r.height) := Nat.pow_le_pow_right (by omega) (by omega)
    have h5 : 2 ^ r.height ≤ 2 ^ (max l.height r.height) := Nat.pow_le_pow_right (by omega) (by omega)
    omega

/-! ### Order -/

theorem lt_eq (x y : List UInt8) : Op.bytesLess x y = decide (x < y) := by
  induction x generalizing y with
  | nil => cases y <;> simp [Op.bytesLess]
  | cons a x ih =>
    cases y with
    | nil => simp [Op.bytesLess]
    | cons b y =>
      rw [Op.bytesLess, ih, Bool.eq_iff_iff]
      simp [List.cons_lt_cons_iff]

theorem lt_irrefl (a : ByteArray) : lt a a = false := by
  unfold lt; rw [lt_eq]; simp [List.lt_irrefl]
theorem lt_trans {a b c : ByteArray} (h : lt a b = true) (k : lt b c = true) : lt a c = true := by
  unfold lt at *; rw [lt_eq] at *; simp only [decide_eq_true_eq] at *; exact List.lt_trans h k
theorem lt_asymm {a b : ByteArray} (h : lt a b = true) : lt b a = false := by
  cases k : lt b a with
  | false => rfl
  | true => have := lt_trans h k; rw [lt_irrefl] at this; cases this

/-- In order, no key twice. -/
def Inc (l : List ByteArray) : Prop := l.Pairwise fun a b => lt a b = true

theorem inc_append {a b : List ByteArray} : Inc (a ++ b) ↔ Inc a ∧ Inc b ∧ ∀ x ∈ a, ∀ y ∈ b, lt x y = true := List.pairwise_append
theorem inc_cons {a : ByteArray} {b : List ByteArray} : Inc (a :: b) ↔ (∀ y ∈ b, lt a y = true) ∧ Inc b := List.pairwise_cons

theorem inc_mid {a b : List ByteArray} {k : ByteArray} : Inc (a ++ k :: b) ↔ Inc a ∧ Inc b ∧ (∀ x ∈ a, lt x k = true) ∧ (∀ y ∈ b, lt k y = true) := by
  rw [inc_append, inc_cons]
  constructor
  · rintro ⟨h1, ⟨h2, h3⟩, h4⟩
    exact ⟨h1, h3, fun x hx => h4 x hx k (by simp), h2⟩
  · rintro ⟨h1, h2, h3, h4⟩
    refine ⟨h1, ⟨h4, h2⟩, fun x hx y hy => ?_⟩
    rcases List.mem_cons.1 hy with rfl | hy
    · exact h3 x hx
    · exact lt_trans (h3 x hx) (h4 y hy)

theorem mem_put (k : ByteArray) (v : Int) (x : ByteArray) : ∀ t : Tr, x ∈ (put k v t).keys → x = k ∨ x ∈ t.keys
  | .nil, h => by simpa [put, keys] using h
  | .node k' v' l r, h => by
    have h1 := mem_put k v x l
    have h2 := mem_put k v x r
    rw [put] at h
    split at h
    · rw [keys_bal] at h; simp only [keys, List.mem_append, List.mem_cons] at *; rcases h with h | h | h
      · rcases h1 h with h | h <;> simp [h]
      · simp [h]
      · simp [h]
    · split at h
      · rw [keys_bal] at h; simp only [keys, List.mem_append, List.mem_cons] at *; rcases h with h | h | h
        · simp [h]
        · simp [h]
        · rcases h2 h with h | h <;> simp [h]
      · simp only [keys, List.mem_append, List.mem_cons] at *; rcases h with h | h | h <;> simp [h]

/-- Two keys of which neither is less are one. -/
theorem lt_total {a b : ByteArray} (h : lt a b = false) (k : lt b a = false) : a = b := by
  unfold lt at *; rw [lt_eq] at *; simp only [decide_eq_false_iff_not] at *
  have e : a.toList = b.toList := List.le_antisymm (List.not_lt.1 k) (List.not_lt.1 h)
  rw [Lib.toList_data, Lib.toList_data] at e
  exact ByteArray.ext (Array.ext' e)

theorem inc_put (k : ByteArray) (v : Int) : ∀ t : Tr, Inc t.keys → Inc (put k v t).keys
  | .nil, _ => by simp [put, keys, Inc]
  | .node k' v' l r, h => by
    simp only [keys] at h
    obtain ⟨h1, h2, h3, h4⟩ := inc_mid.1 h
    have i1 := inc_put k v l h1
    have i2 := inc_put k v r h2
    rw [put]
    split
    · rename_i c
      rw [keys_bal]
      refine inc_mid.2 ⟨i1, h2, fun x hx => ?_, h4⟩
      rcases mem_put k v x l hx with rfl | hx
      · exact c
      · exact h3 x hx
    · split
      · rename_i c' c
        rw [keys_bal]
        refine inc_mid.2 ⟨h1, i2, h3, fun x hx => ?_⟩
        rcases mem_put k v x r hx with rfl | hx
        · exact c
        · exact h4 x hx
      · rename_i c c'
        have e : k = k' := lt_total (by simpa using c) (by simpa using c')
        subst e
        exact h

theorem inc_concat (t u : Tr) (h : Inc (t.keys ++ u.keys)) : Inc (concat t u).keys := by rw [keys_concat]; exact h

theorem split_keys (k : ByteArray) : ∀ t : Tr, Inc t.keys →
    Inc (split k t).1.keys ∧ Inc (split k t).2.keys ∧ (∀ x ∈ (split k t).1.keys, lt x k = true) ∧ (∀ x ∈ (split k t).2.keys, lt k x = true) ∧
    (∀ x ∈ (split k t).1.keys, x ∈ t.keys) ∧ (∀ x ∈ (split k t).2.keys, x ∈ t.keys)
  | .nil, _ => by simp [split, keys, Inc]
  | .node k' v' l r, h => by
    simp only [keys] at h
    obtain ⟨h1, h2, h3, h4⟩ := inc_mid.1 h
    obtain ⟨a1, a2, a3, a4, a5, a6⟩ := split_keys k l h1
    obtain ⟨b1, b2, b3, b4, b5, b6⟩ := split_keys k r h2
    rw [split]
    split
    · rename_i c
      refine ⟨a1, ?_, a3, ?_, ?_, ?_⟩
      · simp only [keys_link]; exact inc_mid.2 ⟨a2, h2, fun x hx => h3 x (a6 x hx), h4⟩
      · intro x hx
        simp only [keys_link, List.mem_append, List.mem_cons] at hx
        rcases hx with hx | rfl | hx
        · exact a4 x hx
        · exact c
        · exact lt_trans c (h4 x hx)
      · intro x hx; simp only [keys, List.mem_append]; exact .inl (a5 x hx)
      · intro x hx
        simp only [keys_link, List.mem_append, List.mem_cons] at hx
        simp only [keys, List.mem_append, List.mem_cons]
        rcases hx with hx | rfl | hx
        · exact .inl (a6 x hx)
        · exact .inr (.inl rfl)
        · exact .inr (.inr hx)
    · split
      · rename_i c' c
        refine ⟨?_, b2, ?_, b4, ?_, ?_⟩
        · simp only [keys_link]; exact inc_mid.2 ⟨h1, b1, h3, fun x hx => h4 x (b5 x hx)⟩
        · intro x hx
          simp only [keys_link, List.mem_append, List.mem_cons] at hx
          rcases hx with hx | rfl | hx
          · exact lt_trans (h3 x hx) c
          · exact c
          · exact b3 x hx
        · intro x hx
          simp only [keys_link, List.mem_append, List.mem_cons] at hx
          simp only [keys, List.mem_append, List.mem_cons]
          rcases hx with hx | rfl | hx
          · exact .inl hx
          · exact .inr (.inl rfl)
          · exact .inr (.inr (b5 x hx))
        · intro x hx; simp only [keys, List.mem_append, List.mem_cons]; exact .inr (.inr (b6 x hx))
      · rename_i c c'
        have e : k = k' := lt_total (by simpa using c) (by simpa using c')
        subst e
        refine ⟨h1, h2, h3, h4, ?_, ?_⟩
        · intro x hx; simp only [keys, List.mem_append]; exact .inl hx
        · intro x hx; simp only [keys, List.mem_append, List.mem_cons]; exact .inr (.inr hx)

theorem inc_delete (k : ByteArray) (t : Tr) (h : Inc t.keys) : Inc (delete k t).keys := by
  unfold delete
  split
  · obtain ⟨a1, a2, a3, a4, _, _⟩ := split_keys k t h
    rw [keys_concat]
    exact inc_append.2 ⟨a1, a2, fun x hx y hy => lt_trans (a3 x hx) (a4 y hy)⟩
  · exact h

theorem mem_delete (k : ByteArray) (t : Tr) (h : Inc t.keys) (x : ByteArray) (hx : x ∈ (delete k t).keys) : x ∈ t.keys := by
  unfold delete at hx
  split at hx
  · obtain ⟨_, _, _, _, a5, a6⟩ := split_keys k t h
    rw [keys_concat, List.mem_append] at hx
    exact hx.elim (a5 x) (a6 x)
  · exact hx

theorem inc_last_le {l : List ByteArray} {d : ByteArray} (h : Inc l) : ∀ x ∈ l, x = l.getD (l.length - 1) d ∨ lt x (l.getD (l.length - 1) d) = true := by
  intro x hx
  obtain ⟨i, hi, rfl⟩ := List.getElem_of_mem hx
  rw [List.getD_eq_getElem?_getD, List.getElem?_eq_getElem (by omega), Option.getD_some]
  by_cases e : i = l.length - 1
  · left; subst e; rfl
  · right; exact List.pairwise_iff_getElem.1 h i (l.length - 1) hi (by omega) (by omega)

theorem inc_head_le {l : List ByteArray} {d : ByteArray} (h : Inc l) : ∀ x ∈ l, x = l.getD 0 d ∨ lt (l.getD 0 d) x = true := by
  intro x hx
  obtain ⟨i, hi, rfl⟩ := List.getElem_of_mem hx
  rw [List.getD_eq_getElem?_getD, List.getElem?_eq_getElem (by omega), Option.getD_some]
  by_cases e : i = 0
  · left; subst e; rfl
  · right; exact List.pairwise_iff_getElem.1 h 0 i (by omega) hi (by omega)

theorem inc_join (t u : Tr) (ht : Inc t.keys) (hu : Inc u.keys) : Inc (join t u).keys := by
  unfold join
  split
  · exact hu
  · rw [keys_concat]; simpa [keys] using ht
  · split
    · rename_i c
      rw [keys_concat]
      refine inc_append.2 ⟨ht, hu, fun x hx y hy => ?_⟩
      rw [← length_keys] at c
      rcases inc_last_le (d := ByteArray.empty) ht x hx with e | e <;> rcases inc_head_le (d := ByteArray.empty) hu y hy with e' | e'
      · rw [e, e']; exact c
      · rw [e]; exact lt_trans c e'
      · rw [e']; exact lt_trans e c
      · exact lt_trans e (lt_trans c e')
    · simp [keys, Inc]

theorem mem_join (t u : Tr) (x : ByteArray) (hx : x ∈ (join t u).keys) : x ∈ t.keys ∨ x ∈ u.keys := by
  unfold join at hx
  split at hx
  · exact .inr hx
  · rw [keys_concat] at hx; simpa [keys] using hx
  · split at hx
    · rw [keys_concat, List.mem_append] at hx; exact hx
    · simp [keys] at hx

/-- Keys that do not come twice, all out of a list, are no more than the list is long. -/
theorem inc_few : ∀ (l m : List ByteArray), Inc l → (∀ x ∈ l, x ∈ m) → l.length ≤ m.length
  | [], _, _, _ => by simp
  | a :: l, m, h, hm => by
    obtain ⟨h1, h2⟩ := inc_cons.1 h
    have ha : a ∈ m := hm a (by simp)
    obtain ⟨m1, m2, rfl⟩ := List.append_of_mem ha
    have := inc_few l (m1 ++ m2) h2 (fun x hx => by
      have hne : x ≠ a := by rintro rfl; have := h1 x hx; rw [lt_irrefl] at this; cases this
      have := hm x (by simp [hx])
      simp only [List.mem_append, List.mem_cons] at this ⊢
      rcases this with h | h | h
      · exact .inl h
      · exact absurd h hne
      · exact .inr h)
    simp only [List.length_append, List.length_cons] at *; omega

end Tr
end Go.Proofs.Ytpmcpfmbhebjpaa
