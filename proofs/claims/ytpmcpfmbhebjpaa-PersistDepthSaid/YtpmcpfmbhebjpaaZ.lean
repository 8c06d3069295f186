/- Three appends to three fields in one statement, in whatever order the model draws: what holds between the operations. -/
import Derived.Test.YtpmcpfmbhebjpaaY
namespace Go.Proofs.Ytpmcpfmbhebjpaa
open Go.RowKit

def upd (x : Nat → Value) (d : Nat) (v : Value) : Nat → Value := fun j => if j = d then v else x j
/-- A frame by its slots. -/
def fr (n : Nat) (x : Nat → Value) : Array Value := ((List.range n).map x).toArray

theorem fr_get (n : Nat) (x : Nat → Value) (j : Nat) (h : j < n) : (fr n x).getD j undef = x j := by simp [fr, h]
theorem fr_put (n : Nat) (x : Nat → Value) (d : Nat) (v : Value) : (fr n x).setIfInBounds d v = fr n (upd x d v) := by
  apply Array.ext
  · simp [fr]
  · intro j h1 h2
    have hj : j < n := by simpa [fr] using h2
    have e1 : (fr n (upd x d v))[j]'h2 = upd x d v j := by simp [fr]
    rw [e1, Array.getElem_setIfInBounds (by simpa [fr] using hj)]
    unfold upd
    by_cases e : d = j
    · subst e; simp
    · have e' : ¬ j = d := fun h => e h.symm
      rw [if_neg e, if_neg e']
      simp [fr]

/-! The three lanes: the operation that makes the appended element's row, the append, the store; and their slots. -/
def bsI (l : Nat) : Nat := if l = 0 then 8 else if l = 1 then 14 else 21
def apI (l : Nat) : Nat := if l = 0 then 9 else if l = 1 then 15 else 22
def stI (l : Nat) : Nat := if l = 0 then 25 else if l = 1 then 28 else 31
def bsS (l : Nat) : Nat := if l = 0 then 26 else if l = 1 then 32 else 39
def apS (l : Nat) : Nat := if l = 0 then 27 else if l = 1 then 33 else 40

def cur (V : Nat → Value) (b : Nat → Bool) (x : Nat → Value) (l : Nat) : Value := if b (apI l) = true then x (apS l) else V l
def fld (V : Nat → Value) (b : Nat → Bool) (x : Nat → Value) (l : Nat) : Value := if b (stI l) = true then x (apS l) else V l

structure Lanes (w0 : World) (s k : Nat) (V E : Nat → Value) (XS : Nat → List Value) (b : Nat → Bool) (x : Nat → Value) (w : World) : Prop where
  below : Below w0.heap.size w0 w
  cells : w.heap[s]? = some (.cells #[fld V b x 0, fld V b x 1, fld V b x 2, .slice none 0 0] 59 (0, 0))
  row : ∀ l, l < 3 → w.ownsRow w0.heap.size 3 1 (cur V b x l) (if b (apI l) = true then k + 1 else k) (if b (apI l) = true then XS l ++ [E l] else XS l)
  live : ∃ r : Nat → Option Nat, Live w [(cur V b x 0).ownBlock, (cur V b x 1).ownBlock, (cur V b x 2).ownBlock, some s, r 0, r 1, r 2] ∧
    ∀ l, l < 3 → b (bsI l) = true → ∃ g, r l = some g ∧ x (bsS l) = .slice (some ⟨g, 0, none⟩) 1 1 ∧ w.heap[g]? = some (.cells #[E l] 3 (0, 0))

section
variable {w0 w : World} {s k : Nat} {V E : Nat → Value} {XS : Nat → List Value} {b : Nat → Bool} {x : Nat → Value}

theorem three (l : Nat) (h : l < 3) : l = 0 ∨ l = 1 ∨ l = 2 := by omega

/-- A slot that no lane knows, an operation that no lane knows. -/
theorem Lanes.other (h : Lanes w0 s k V E XS b x w) {i d : Nat} {v : Value} (hi : ∀ l, l < 3 → i ≠ bsI l ∧ i ≠ apI l ∧ i ≠ stI l) (hd : ∀ l, l < 3 → d ≠ bsS l ∧ d ≠ apS l) : Lanes w0 s k V E XS (up b i) (upd x d v) w := by
  have ub : ∀ l, l < 3 → up b i (bsI l) = b (bsI l) ∧ up b i (apI l) = b (apI l) ∧ up b i (stI l) = b (stI l) := fun l hl => by
    obtain ⟨h1, h2, h3⟩ := hi l hl
    exact ⟨by unfold up; rw [if_neg (Ne.symm h1)], by unfold up; rw [if_neg (Ne.symm h2)], by unfold up; rw [if_neg (Ne.symm h3)]⟩
  have ux : ∀ l, l < 3 → upd x d v (bsS l) = x (bsS l) ∧ upd x d v (apS l) = x (apS l) := fun l hl => by
    obtain ⟨h1, h2⟩ := hd l hl
    exact ⟨by unfold upd; rw [if_neg (Ne.symm h1)], by unfold upd; rw [if_neg (Ne.symm h2)]⟩
  have hc : ∀ l, l < 3 → cur V (up b i) (upd x d v) l = cur V b x l := fun l hl => by unfold cur; rw [(ub l hl).2.1, (ux l hl).2]
  have hf : ∀ l, l < 3 → fld V (up b i) (upd x d v) l = fld V b x l := fun l hl => by unfold fld; rw [(ub l hl).2.2, (ux l hl).2]
  refine ⟨h.below, ?_, fun l hl => ?_, ?_⟩
  · rw [hf 0 (by omega), hf 1 (by omega), hf 2 (by omega)]; exact h.cells
  · rw [hc l hl, (ub l hl).2.1]; exact h.row l hl
  · obtain ⟨r, h1, h2⟩ := h.live
    refine ⟨r, ?_, fun l hl hb => ?_⟩
    · rw [hc 0 (by omega), hc 1 (by omega), hc 2 (by omega)]; exact h1
    · rw [(ux l hl).1]; exact h2 l hl (by rw [(ub l hl).1] at hb; exact hb)

theorem Live.congr {w : World} {l l' : List (Option Nat)} (h : Live w l) (e : l = l') : Live w l' := e ▸ h

/-- The appended element's row is made. -/
theorem Lanes.made (h : Lanes w0 s k V E XS b x w) {l : Nat} (hl : l < 3) (hap : b (apI l) = false) : Lanes w0 s k V E XS (up b (bsI l)) (upd x (bsS l) (.slice (some ⟨w.heap.size, 0, none⟩) 1 1)) (w.alloc (.cells #[E l] 3)) := by
  obtain ⟨h1, h2, h3, r, h4, h5⟩ := h
  have hw : Below w.heap.size w (w.alloc (.cells #[E l] 3)) := (Below.refl _ _).alloc (Nat.le_refl _) _
  have hnew := new_block w (.cells #[E l] 3)
  refine ⟨h1.alloc h1.size _, ?_, fun m hm => ?_, fun m => if m = l then some w.heap.size else r m, ?_, fun m hm hb => ?_⟩
  · rw [block_keep hw h2]
    rcases three l hl with rfl | rfl | rfl <;> simp [fld, up, upd, bsI, stI, bsS, apS]
  · have := (h3 m hm).alloc (.cells #[E l] 3)
    rcases three l hl with rfl | rfl | rfl <;> rcases three m hm with rfl | rfl | rfl <;> simpa [cur, up, upd, bsI, apI, bsS, apS] using this
  · have := h4.put (w' := w.alloc (.cells #[E l] 3)) (by simp) (p := 4 + l) (r := some w.heap.size) (fun g hg => .inr (by cases hg; simp))
    rcases three l hl with rfl | rfl | rfl <;> refine this.congr ?_ <;> simp [cur, up, upd, bsI, apI, bsS, apS]
  · by_cases e : m = l
    · subst e
      exact ⟨w.heap.size, by simp, by simp [upd], hnew⟩
    · have hb' : b (bsI m) = true := by
        rcases three l hl with rfl | rfl | rfl <;> rcases three m hm with rfl | rfl | rfl <;> first | exact absurd rfl e | simpa [up, bsI] using hb
      obtain ⟨g, g1, g2, g3⟩ := h5 m hm hb'
      refine ⟨g, by simp [e, g1], ?_, block_keep hw g3⟩
      rw [← g2]
      rcases three l hl with rfl | rfl | rfl <;> rcases three m hm with rfl | rfl | rfl <;> first | exact absurd rfl e | simp [upd, bsS]

/-- An element is appended. -/
theorem Lanes.appended (h : Lanes w0 s k V E XS b x w) {l : Nat} (hl : l < 3) (hap : b (apI l) = false) (hst : b (stI l) = false) {v' : Value} {w' : World}
    (h1' : w'.ownsRow w0.heap.size 3 1 v' (k + 1) (XS l ++ [E l])) (h2' : w.grownBy w' (V l).ownBlock) (h3' : v'.ownBlock = (V l).ownBlock ∨ ∃ g, v'.ownBlock = some g ∧ w.heap.size ≤ g) :
    Lanes w0 s k V E XS (up b (apI l)) (upd x (apS l) v') w' := by
  obtain ⟨h1, h2, h3, r, h4, h5⟩ := h
  have hcl : cur V b x l = V l := by unfold cur; rw [if_neg (by rw [hap]; simp)]
  have hrow := h3 l hl
  rw [hcl] at hrow
  have hlow := hrow.lt
  have hB : Below w0.heap.size w0 w' := h1.grown h2' h1.size (fun g hg => (hlow g hg).1)
  have at_ : ∀ m, m < 3 → [(cur V b x 0).ownBlock, (cur V b x 1).ownBlock, (cur V b x 2).ownBlock, some s, r 0, r 1, r 2][m]? = some (cur V b x m).ownBlock := fun m hm => by
    rcases three m hm with rfl | rfl | rfl <;> rfl
  have atr : ∀ m, m < 3 → [(cur V b x 0).ownBlock, (cur V b x 1).ownBlock, (cur V b x 2).ownBlock, some s, r 0, r 1, r 2][4 + m]? = some (r m) := fun m hm => by
    rcases three m hm with rfl | rfl | rfl <;> rfl
  have kept : ∀ g o, w.heap[g]? = some o → some g ≠ (V l).ownBlock → w'.heap[g]? = some o := fun g o hg hne => by
    rw [h2'.block g (block_lt hg) hne]; exact hg
  refine ⟨hB, ?_, fun m hm => ?_, r, ?_, fun m hm hb => ?_⟩
  · have hne : some s ≠ (V l).ownBlock := by rw [← hcl]; exact h4.ne (i := 3) (j := l) rfl (by omega) (at_ l hl)
    rw [kept s _ h2 hne]
    rcases three l hl with rfl | rfl | rfl <;> simp_all [fld, up, upd, apI, stI, apS]
  · by_cases e : m = l
    · subst e
      have e1 : up b (apI m) (apI m) = true := by simp [up]
      have e2 : cur V (up b (apI m)) (upd x (apS m) v') m = v' := by simp [cur, up, upd]
      rw [e1, e2]; exact h1'
    · have hm1 : up b (apI l) (apI m) = b (apI m) := by rcases three l hl with rfl | rfl | rfl <;> rcases three m hm with rfl | rfl | rfl <;> first | exact absurd rfl e | simp [up, apI]
      have hm2 : upd x (apS l) v' (apS m) = x (apS m) := by rcases three l hl with rfl | rfl | rfl <;> rcases three m hm with rfl | rfl | rfl <;> first | exact absurd rfl e | simp [upd, apS]
      have hm3 : cur V (up b (apI l)) (upd x (apS l) v') m = cur V b x m := by unfold cur; rw [hm1, hm2]
      rw [hm1, hm3]
      refine (h3 m hm).kept h2' ?_
      rw [← hcl]
      cases hv : (cur V b x m).ownBlock with
      | none => exact .inl rfl
      | some g => exact .inr (h4.ne (i := m) (j := l) (by rw [at_ m hm, hv]) e (at_ l hl))
  · have hput := h4.put (w' := w') h2'.size (p := l) (r := v'.ownBlock) (fun g hg => by
      rcases h3' with h | ⟨g', hg', hge⟩
      · left; rw [at_ l hl, hcl, ← h, hg]
      · right; rw [hg'] at hg; cases hg; exact ⟨hge, (h1'.lt _ hg').2⟩)
    have hcm : ∀ m, m < 3 → (cur V (up b (apI l)) (upd x (apS l) v') m).ownBlock = if m = l then v'.ownBlock else (cur V b x m).ownBlock := fun m hm => by
      rcases three l hl with rfl | rfl | rfl <;> rcases three m hm with rfl | rfl | rfl <;> simp [cur, up, upd, apI, apS]
    rw [hcm 0 (by omega), hcm 1 (by omega), hcm 2 (by omega)]
    refine hput.congr ?_
    rcases three l hl with rfl | rfl | rfl <;> simp
  · have hb' : b (bsI m) = true := by rcases three l hl with rfl | rfl | rfl <;> rcases three m hm with rfl | rfl | rfl <;> simpa [up, bsI, apI] using hb
    obtain ⟨g, g1, g2, g3⟩ := h5 m hm hb'
    refine ⟨g, g1, ?_, kept g _ g3 ?_⟩
    · rw [← g2]; rcases three l hl with rfl | rfl | rfl <;> rcases three m hm with rfl | rfl | rfl <;> simp [upd, bsS, apS]
    · rw [← hcl]; exact h4.ne (i := 4 + m) (j := l) (by rw [atr m hm, g1]) (by omega) (at_ l hl)

/-- An appended row is stored into its field. -/
theorem Lanes.stored (h : Lanes w0 s k V E XS b x w) {l : Nat} (hl : l < 3) (hap : b (apI l) = true) (hs0 : w0.heap.size ≤ s) :
    Lanes w0 s k V E XS (up b (stI l)) x (w.setCell ⟨s, l, none⟩ (x (apS l))) := by
  obtain ⟨h1, h2, h3, r, h4, h5⟩ := h
  have hne : ∀ g, g ≠ s → (w.setCell ⟨s, l, none⟩ (x (apS l))).heap[g]? = w.heap[g]? := fun g hg => Below.heap_setCell _ _ _ _ hg
  have hcm : ∀ m, m < 3 → cur V (up b (stI l)) x m = cur V b x m := fun m hm => by
    rcases three l hl with rfl | rfl | rfl <;> rcases three m hm with rfl | rfl | rfl <;> simp [cur, up, stI, apI]
  have hbm : ∀ m, m < 3 → up b (stI l) (apI m) = b (apI m) ∧ up b (stI l) (bsI m) = b (bsI m) := fun m hm => by
    rcases three l hl with rfl | rfl | rfl <;> rcases three m hm with rfl | rfl | rfl <;> simp [up, stI, apI, bsI]
  have at_ : ∀ m, m < 3 → [(cur V b x 0).ownBlock, (cur V b x 1).ownBlock, (cur V b x 2).ownBlock, some s, r 0, r 1, r 2][m]? = some (cur V b x m).ownBlock := fun m hm => by
    rcases three m hm with rfl | rfl | rfl <;> rfl
  have atr : ∀ m, m < 3 → [(cur V b x 0).ownBlock, (cur V b x 1).ownBlock, (cur V b x 2).ownBlock, some s, r 0, r 1, r 2][4 + m]? = some (r m) := fun m hm => by
    rcases three m hm with rfl | rfl | rfl <;> rfl
  refine ⟨h1.setCell hs0 _, ?_, fun m hm => ?_, r, ?_, fun m hm hb => ?_⟩
  · unfold World.setCell
    simp only [Array.getElem?_modify, if_true, h2, Option.map_some]
    rcases three l hl with rfl | rfl | rfl <;> simp [fld, up, stI]
  · rw [hcm m hm, (hbm m hm).1]
    exact ownsRow_setCell_other (h3 m hm) (fun e => by
      have := h4.ne (i := 3) (j := m) rfl (by omega) (at_ m hm)
      exact this e.symm) _
  · rw [hcm 0 (by omega), hcm 1 (by omega), hcm 2 (by omega)]
    exact ⟨fun i g hi => by have := h4.1 i g hi; simpa [World.setCell] using this, h4.2⟩
  · obtain ⟨g, g1, g2, g3⟩ := h5 m hm (by rw [(hbm m hm).2] at hb; exact hb)
    refine ⟨g, g1, g2, ?_⟩
    rw [hne g ?_]; exact g3
    intro e
    subst e
    have := h4.2 (4 + m) 3 g (by rw [atr m hm, g1]) rfl
    omega
end
end Go.Proofs.Ytpmcpfmbhebjpaa
