/- Regions that draw their order and mostly read: what holds between the operations. -/
import Derived.Test.YtpmcpfmbhebjpaaNa
namespace Go.Proofs.Ytpmcpfmbhebjpaa
open Go.RowKit

/-- n: the frame's slots; m: the operations; ds: each one's slot; isP: those that read alone, pv: what they read; x0: the frame at the beginning; W: what holds of the world. -/
def Rg (n m : Nat) (ds : Nat → Nat) (isP : Nat → Bool) (pv x0 : Nat → Value) (W : (Nat → Bool) → (Nat → Value) → World → Prop) (b : Nat → Bool) (a : Act) (w : World) : Prop :=
  ∃ x, a = ⟨fr n x, []⟩ ∧ (∀ j, (∀ i, i < m → ds i ≠ j) → x j = x0 j) ∧ (∀ i, i < m → b i = false → x (ds i) = x0 (ds i)) ∧
    (∀ i, i < m → isP i = true → b i = true → x (ds i) = pv i) ∧ W b x w

section
variable {n m : Nat} {ds : Nat → Nat} {isP : Nat → Bool} {pv x0 x : Nat → Value} {W : (Nat → Bool) → (Nat → Value) → World → Prop} {b : Nat → Bool} {w w' : World} {i : Nat}
  {P : Program} {ops : Array Oper} {Q : Exit → Act → World → Prop} {o : Oper}

/-- What an operation with a slot leaves of the frame. -/
theorem rg_slot (hinj : ∀ i, i < m → ∀ j, j < m → i ≠ j → ds i ≠ ds j) (v : Value)
    (h1 : ∀ j, (∀ i, i < m → ds i ≠ j) → x j = x0 j) (h2 : ∀ i, i < m → b i = false → x (ds i) = x0 (ds i)) (h3 : ∀ i, i < m → isP i = true → b i = true → x (ds i) = pv i)
    (hi : i < m) (hv : isP i = true → v = pv i) :
    (∀ j, (∀ i, i < m → ds i ≠ j) → upd x (ds i) v j = x0 j) ∧ (∀ j, j < m → up b i j = false → upd x (ds i) v (ds j) = x0 (ds j)) ∧
    (∀ j, j < m → isP j = true → up b i j = true → upd x (ds i) v (ds j) = pv j) := by
  refine ⟨fun j hj => ?_, fun j hj hb => ?_, fun j hj hp hb => ?_⟩
  · unfold upd; rw [if_neg (fun e => hj i hi e.symm)]; exact h1 j hj
  · have e : j ≠ i := by rintro rfl; simp [up] at hb
    unfold upd; rw [if_neg (hinj j hj i hi e)]
    exact h2 j hj (by unfold up at hb; rw [if_neg e] at hb; exact hb)
  · by_cases e : j = i
    · subst e; unfold upd; rw [if_pos rfl]; exact hv hp
    · unfold upd; rw [if_neg (hinj j hj i hi e)]
      exact h3 j hj hp (by unfold up at hb; rw [if_neg e] at hb; exact hb)

/-- An operation that reads alone. -/
theorem rg_pure (hinj : ∀ i, i < m → ∀ j, j < m → i ≠ j → ds i ≠ ds j)
    (h1 : ∀ j, (∀ i, i < m → ds i ≠ j) → x j = x0 j) (h2 : ∀ i, i < m → b i = false → x (ds i) = x0 (ds i)) (h3 : ∀ i, i < m → isP i = true → b i = true → x (ds i) = pv i)
    (hi : i < m) (ho : ops[i]? = some o) (hg : o.guard = none) (hd : o.dst = some (ds i))
    (hW : W (up b i) (upd x (ds i) (pv i)) w) (hr : (execOp (Act.eval ⟨fr n x, []⟩) o).run P w = .ok (.value (pv i)) w) : wpOp P ops Q i (Rg n m ds isP pv x0 W (up b i)) ⟨fr n x, []⟩ w := by
  obtain ⟨k1, k2, k3⟩ := rg_slot hinj (pv i) h1 h2 h3 hi (fun _ => rfl)
  exact wpOp_val ho hg hr ⟨upd x (ds i) (pv i), by rw [hd]; simp only [Act.put, fr_put], k1, k2, k3, hW⟩

/-- An operation that yields a value and may turn the world. -/
theorem rg_value (v : Value) (hinj : ∀ i, i < m → ∀ j, j < m → i ≠ j → ds i ≠ ds j)
    (h1 : ∀ j, (∀ i, i < m → ds i ≠ j) → x j = x0 j) (h2 : ∀ i, i < m → b i = false → x (ds i) = x0 (ds i)) (h3 : ∀ i, i < m → isP i = true → b i = true → x (ds i) = pv i)
    (hi : i < m) (hp : isP i = false) (ho : ops[i]? = some o) (hg : o.guard = none) (hd : o.dst = some (ds i))
    (hW : W (up b i) (upd x (ds i) v) w') (hr : (execOp (Act.eval ⟨fr n x, []⟩) o).run P w = .ok (.value v) w') : wpOp P ops Q i (Rg n m ds isP pv x0 W (up b i)) ⟨fr n x, []⟩ w := by
  obtain ⟨k1, k2, k3⟩ := rg_slot hinj v h1 h2 h3 hi (fun h => by rw [hp] at h; cases h)
  exact wpOp_val ho hg hr ⟨upd x (ds i) v, by rw [hd]; simp only [Act.put, fr_put], k1, k2, k3, hW⟩

/-- A store. -/
theorem rg_store (h1 : ∀ j, (∀ i, i < m → ds i ≠ j) → x j = x0 j) (h2 : ∀ i, i < m → b i = false → x (ds i) = x0 (ds i)) (h3 : ∀ i, i < m → isP i = true → b i = true → x (ds i) = pv i)
    (hp : isP i = false) (ho : ops[i]? = some o) (hg : o.guard = none) (hd : o.dst = none)
    (hW : W (up b i) x w') (hr : (execOp (Act.eval ⟨fr n x, []⟩) o).run P w = .ok .skip w') : wpOp P ops Q i (Rg n m ds isP pv x0 W (up b i)) ⟨fr n x, []⟩ w := by
  refine wpOp_skip ho hg hr ⟨x, by rw [hd]; rfl, h1, fun j hj hb => h2 j hj ?_, fun j hj hpj hb => h3 j hj hpj ?_, hW⟩
  · unfold up at hb
    by_cases e : j = i
    · rw [if_pos e] at hb; cases hb
    · rw [if_neg e] at hb; exact hb
  · unfold up at hb
    by_cases e : j = i
    · subst e; rw [hp] at hpj; cases hpj
    · rw [if_neg e] at hb; exact hb

/-- **The region itself.** -/
theorem wp_region_rg {id : Nat} {A : Array Value} {w : World} (n m : Nat) (ds : Nat → Nat) (isP : Nat → Bool) (pv : Nat → Value) (W : (Nat → Bool) → (Nat → Value) → World → Prop)
    (hn : A.size = n) (hm : P.follows .mixedOrders = true) (hsz : ops.size = m) (hback : back .any ops = true)
    (h0 : W (fun _ => false) (fun j => A.getD j undef) w.drew)
    (step : ∀ (b : Nat → Bool) (x : Nat → Value) (w' : World) (i : Nat) (o : Oper), i < m → ops[i]? = some o → b i = false → (∀ j, edge .any ops i j = true → b j = true) → Down .any ops b →
      (∀ j, (∀ i, i < m → ds i ≠ j) → x j = A.getD j undef) → (∀ i, i < m → b i = false → x (ds i) = A.getD (ds i) undef) → (∀ i, i < m → isP i = true → b i = true → x (ds i) = pv i) → W b x w' →
      wpOp P ops Q i (Rg n m ds isP pv (fun j => A.getD j undef) W (up b i)) ⟨fr n x, []⟩ w')
    (fin : ∀ (b : Nat → Bool) (x : Nat → Value) (w' : World), (∀ j, j < m → b j = true) → (∀ j, (∀ i, i < m → ds i ≠ j) → x j = A.getD j undef) → (∀ i, i < m → isP i = true → x (ds i) = pv i) → W b x w' →
      Q .normal ⟨fr n x, []⟩ w') : (Code.region id ops true).wp P Q ⟨A, []⟩ w := by
  refine wp_region_by (fun b a w' => Rg n m ds isP pv (fun j => A.getD j undef) W b a w') hm hback ?_ ?_ ?_
  · refine ⟨_, ?_, fun _ _ => rfl, fun _ _ _ => rfl, fun _ _ _ h => absurd h (by simp), h0⟩
    have : A = fr n (fun j => A.getD j undef) := by
      apply Array.ext
      · simp [fr, hn]
      · intro j h1 h2; simp [fr, h1]
    rw [← this]
  · rintro b a w' i o ⟨x, rfl, h1, h2, h3, hW⟩ ho hb hpre hdown
    exact step b x w' i o (by rw [← hsz]; exact (Array.getElem?_eq_some_iff.1 ho).1) ho hb hpre hdown h1 h2 h3 hW
  · rintro b a w' ⟨x, rfl, h1, h2, h3, hW⟩ hall
    rw [hsz] at hall
    exact fin b x w' hall h1 (fun i hi hp => h3 i hi hp (hall i hi)) hW
end
end Go.Proofs.Ytpmcpfmbhebjpaa
