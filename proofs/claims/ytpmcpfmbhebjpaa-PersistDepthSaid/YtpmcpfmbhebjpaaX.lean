/- Regions that draw their order: an invariant over which operations have come up serves every order. -/
import Derived.Test.YtpmcpfmbhebjpaaS
namespace Go.Proofs.Ytpmcpfmbhebjpaa
open Go.RowKit

/-- Which operations have come up, as the model lists them. -/
def bits (n : Nat) (b : Nat → Bool) : Array Bool := ((List.range n).map b).toArray
/-- One more has come up. -/
def up (b : Nat → Bool) (i : Nat) : Nat → Bool := fun j => if j = i then true else b j

theorem bits_size (n : Nat) (b : Nat → Bool) : (bits n b).size = n := by simp [bits]
theorem bits_get (n : Nat) (b : Nat → Bool) (j : Nat) (d : Bool) (h : j < n) : (bits n b).getD j d = b j := by
  simp [bits, h]
theorem bits_up (n : Nat) (b : Nat → Bool) (i : Nat) : (bits n b).setIfInBounds i true = bits n (up b i) := by
  apply Array.ext
  · simp [bits]
  · intro j h1 h2
    have hj : j < n := by simpa [bits] using h2
    have e1 : (bits n (up b i))[j]'h2 = up b i j := by simp [bits]
    rw [e1, Array.getElem_setIfInBounds (by simpa [bits] using hj)]
    unfold up
    by_cases e : i = j
    · subst e; simp
    · have e' : ¬ j = i := fun h => e h.symm
      rw [if_neg e, if_neg e']
      simp [bits]

/-- Each edge that binds leads back. -/
def back (md : Region.Mode) (ops : Array Oper) : Bool := (List.range ops.size).all fun i => match ops[i]? with | some o => o.after.all (fun e => !Region.binds md e || decide (e.on < i)) | none => true

/-- How many have not come up. -/
def left (n : Nat) (b : Nat → Bool) : Nat := ((List.range n).filter fun j => !b j).length

theorem left_up {n : Nat} {b : Nat → Bool} {i : Nat} (hi : i < n) (hb : b i = false) : left n (up b i) + 1 = left n b := by
  unfold left
  have key : ∀ l : List Nat, l.Nodup → i ∈ l → (l.filter fun j => !up b i j).length + 1 = (l.filter fun j => !b j).length := by
    intro l
    induction l with
    | nil => intro _ h; cases h
    | cons a l ih =>
      intro hnd hm
      obtain ⟨hna, hnd'⟩ := List.nodup_cons.1 hnd
      by_cases e : a = i
      · subst e
        have h1 : (l.filter fun j => !up b a j) = l.filter fun j => !b j := by
          apply List.filter_congr
          intro x hx
          have : x ≠ a := fun h => hna (h ▸ hx)
          simp [up, this]
        rw [List.filter_cons_of_neg (by simp [up]), List.filter_cons_of_pos (by simp [hb]), h1]
        rfl
      · have hm' : i ∈ l := by rcases List.mem_cons.1 hm with h | h; exact absurd h.symm e; exact h
        have h1 := ih hnd' hm'
        have h2 : up b i a = b a := by unfold up; rw [if_neg e]
        cases hba : b a with
        | true => rw [List.filter_cons_of_neg (by rw [h2, hba]; simp), List.filter_cons_of_neg (by rw [hba]; simp)]; exact h1
        | false => rw [List.filter_cons_of_pos (by rw [h2, hba]; simp), List.filter_cons_of_pos (by rw [hba]; simp), List.length_cons, List.length_cons, h1]
  exact key _ List.nodup_range (List.mem_range.2 hi)

/-- Operation i waits for operation j. -/
def edge (md : Region.Mode) (ops : Array Oper) (i j : Nat) : Bool :=
  match ops[i]? with
  | some o => o.after.any fun e => Region.binds md e && e.on == j
  | none => false

section
variable {P : Program} {ops : Array Oper} {Q : Exit → Act → World → Prop} {md : Region.Mode}

theorem edge_mem {i j : Nat} {o : Oper} (ho : ops[i]? = some o) : edge md ops i j = true ↔ ∃ e ∈ o.after, Region.binds md e = true ∧ e.on = j := by
  unfold edge
  simp only [ho, Array.any_eq_true', Bool.and_eq_true, beq_iff_eq]

/-- Whatever has come up, what it waits for has. -/
def Down (md : Region.Mode) (ops : Array Oper) (b : Nat → Bool) : Prop := ∀ i j, edge md ops i j = true → b i = true → b j = true

theorem wpAny_by (I : (Nat → Bool) → Act → World → Prop) (hback : back md ops = true)
    (step : ∀ b a w i o, I b a w → ops[i]? = some o → b i = false → (∀ j, edge md ops i j = true → b j = true) → Down md ops b → wpOp P ops Q i (I (up b i)) a w)
    (fin : ∀ b a w, I b a w → (∀ j, j < ops.size → b j = true) → Q .normal a w) :
    ∀ (fuel : Nat) (b : Nat → Bool) (a : Act) (w : World), left ops.size b ≤ fuel → Down md ops b → I b a w → wpAny P md ops Q fuel (bits ops.size b) a w := by
  have hlow : ∀ (i : Nat) (o : Oper), ops[i]? = some o → ∀ e ∈ o.after, Region.binds md e = true → e.on < i := by
    intro i o ho e he hbe
    have hi : i < ops.size := (Array.getElem?_eq_some_iff.1 ho).1
    have h := List.all_eq_true.1 hback i (List.mem_range.2 hi)
    simp only [ho] at h
    have h2 := Array.all_eq_true_iff_forall_mem.1 h e he
    simp only [hbe, Bool.not_true, Bool.false_or] at h2
    exact of_decide_eq_true h2
  -- if none may come up, all have
  have hall : ∀ b : Nat → Bool, Region.ready md ops (bits ops.size b) = [] → ∀ j, j < ops.size → b j = true := by
    intro b h0 j
    induction j using Nat.strongRecOn with
    | _ j ih =>
      intro hj
      cases hbj : b j with
      | true => rfl
      | false =>
        exfalso
        have hm : j ∈ Region.ready md ops (bits ops.size b) := by
          refine mem_ready.2 ⟨by rw [bits_get _ _ _ _ hj, hbj], ops[j], by simp [hj], fun e he hb => ?_⟩
          have hlt := hlow j ops[j] (by simp [hj]) e he hb
          rw [bits_get _ _ _ _ (by omega)]
          exact ih e.on hlt (by omega)
        rw [h0] at hm; cases hm
  have hready : ∀ (b : Nat → Bool) (i : Nat), i ∈ Region.ready md ops (bits ops.size b) → ∃ o, ops[i]? = some o ∧ b i = false ∧ ∀ j, edge md ops i j = true → b j = true := by
    intro b i hi
    obtain ⟨h1, o, ho, h2⟩ := mem_ready.1 hi
    have hlt : i < ops.size := (Array.getElem?_eq_some_iff.1 ho).1
    refine ⟨o, ho, by rw [bits_get _ _ _ _ hlt] at h1; exact h1, fun j hj => ?_⟩
    obtain ⟨e, he, hb, rfl⟩ := (edge_mem ho).1 hj
    have := h2 e he hb
    rw [bits_get _ _ _ _ (by have := hlow i o ho e he hb; omega)] at this
    exact this
  intro fuel
  induction fuel with
  | zero =>
    intro b a w hl _ hI
    have h0 : ∀ j, j < ops.size → b j = true := by
      intro j hj
      cases hbj : b j with
      | true => rfl
      | false =>
        exfalso
        have : j ∈ (List.range ops.size).filter fun j => !b j := by simp [hj, hbj]
        have := List.length_pos_of_mem this
        unfold left at hl; omega
    refine ⟨?_, fin b a w hI h0⟩
    cases hr : Region.ready md ops (bits ops.size b) with
    | nil => rfl
    | cons i rs =>
      obtain ⟨o, ho, hbi, _⟩ := hready b i (by rw [hr]; simp)
      rw [h0 i (Array.getElem?_eq_some_iff.1 ho).1] at hbi; cases hbi
  | succ fuel ih =>
    intro b a w hl hd hI
    refine ⟨fun h0 => fin b a w hI (hall b h0), fun i hi => ?_⟩
    obtain ⟨o, ho, hbi, hpre⟩ := hready b i hi
    rw [bits_up]
    refine wpOp_mono (fun a' w' h => ih (up b i) a' w' ?_ ?_ h) (step b a w i o hI ho hbi hpre hd)
    · have := left_up (Array.getElem?_eq_some_iff.1 ho).1 hbi
      omega
    · intro p q hpq hp
      unfold up at *
      by_cases e : q = i
      · rw [if_pos e]
      · rw [if_neg e]
        by_cases e' : p = i
        · subst e'; exact hpre q hpq
        · rw [if_neg e'] at hp; exact hd p q hpq hp

/-- The region itself. -/
theorem wp_region_by {id : Nat} {a : Act} {w : World} (I : (Nat → Bool) → Act → World → Prop) (hm : P.follows .mixedOrders = true) (hback : back .any ops = true)
    (h0 : I (fun _ => false) a w.drew)
    (step : ∀ b a w i o, I b a w → ops[i]? = some o → b i = false → (∀ j, edge .any ops i j = true → b j = true) → Down .any ops b → wpOp P ops Q i (I (up b i)) a w)
    (fin : ∀ b a w, I b a w → (∀ j, j < ops.size → b j = true) → Q .normal a w) : (Code.region id ops true).wp P Q a w := by
  refine wp_region_any hm ?_
  have e : Array.replicate ops.size false = bits ops.size (fun _ => false) := by
    apply Array.ext
    · simp [bits]
    · intro j h1 h2; simp [bits]
  rw [e]
  refine wpAny_by (md := .any) I hback step fin ops.size _ _ _ ?_ (fun _ _ _ h => by cases h) h0
  unfold left
  exact Nat.le_trans (List.length_filter_le _ _) (by simp)

end
end Go.Proofs.Ytpmcpfmbhebjpaa
