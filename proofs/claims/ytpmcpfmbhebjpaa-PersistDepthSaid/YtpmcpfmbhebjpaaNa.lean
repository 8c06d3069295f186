/- Sets made anew. -/
import Derived.Test.YtpmcpfmbhebjpaaZ
import Derived.Deep.LoopGhost
namespace Go.Proofs.Ytpmcpfmbhebjpaa
open Go.RowKit

theorem wpOp_val {P : Program} {ops : Array Oper} {Q : Exit → Act → World → Prop} {i : Nat} {o : Oper} {v : Value} {a : Act} {w w' : World} {K : Act → World → Prop}
    (ho : ops[i]? = some o) (hg : o.guard = none) (hr : (execOp a.eval o).run P w = .ok (.value v) w') (hK : K (a.put o.dst v) w') : wpOp P ops Q i K a w := by
  unfold wpOp
  simp only [ho, Region.wanted, hg, if_true]
  left
  unfold Oper.wp
  rw [hr]
  exact hK
theorem wpOp_skip {P : Program} {ops : Array Oper} {Q : Exit → Act → World → Prop} {i : Nat} {o : Oper} {a : Act} {w w' : World} {K : Act → World → Prop}
    (ho : ops[i]? = some o) (hg : o.guard = none) (hr : (execOp a.eval o).run P w = .ok .skip w') (hK : K (a.put o.dst undef) w') : wpOp P ops Q i K a w := by
  unfold wpOp
  simp only [ho, Region.wanted, hg, if_true]
  left
  unfold Oper.wp
  rw [hr]
  exact hK

def nums (k : Nat) : List Value := (List.range k).map fun i : Nat => Value.int .i64 (i : Int)
def ones (k : Nat) : List Value := List.replicate k (.int .i64 1)

/-- Sets in memory, nothing united. -/
def Fresh (B : Nat) (s : Nat) (k : Nat) (V : Nat → Value) (w : World) : Prop :=
  w.heap[s]? = some (.cells #[V 0, V 1, V 2, .slice none 0 0] 59 (0, 0)) ∧
  w.ownsRow B 3 1 (V 0) k (nums k) ∧ w.ownsRow B 3 1 (V 1) k (ones k) ∧ w.ownsRow B 3 1 (V 2) k (nums k) ∧
  Live w [(V 0).ownBlock, (V 1).ownBlock, (V 2).ownBlock, some s]

/-- The slot of each operation. -/
def dsI (i : Nat) : Nat := [18, 19, 20, 21, 22, 23, 24, 25, 26, 27, 28, 29, 30, 31, 32, 33, 34, 35, 36, 37, 38, 39, 40, 41, 42, 61, 43, 44, 62, 45, 46, 63].getD i 99
/-- The operations that only read. -/
def isP (i : Nat) : Bool := [0, 1, 2, 3, 4, 5, 6, 7, 10, 11, 12, 13, 16, 17, 18, 19, 20, 23, 24, 26, 27, 29, 30].contains i
theorem ds_inj : ∀ i, i < 32 → ∀ j, j < 32 → i ≠ j → dsI i ≠ dsI j := by decide
theorem p_lanes : ∀ i, i < 32 → isP i = true → ∀ l, l < 3 → (i ≠ bsI l ∧ i ≠ apI l ∧ i ≠ stI l) ∧ dsI i ≠ bsS l ∧ dsI i ≠ apS l := by decide
theorem p_slot : ∀ i, i < 32 → isP i = true → 18 ≤ dsI i ∧ dsI i ≤ 46 := by decide

/-- The values that they read. -/
def pv (s k : Nat) (V : Nat → Value) (i : Nat) : Value :=
  if i = 6 then V 0 else if i = 13 then V 1 else if i = 19 then V 2 else if i = 7 ∨ i = 20 then .int .i64 (k : Int)
  else if i = 12 ∨ i = 27 then .pointer (some ⟨s, 1, none⟩) else if i = 18 ∨ i = 30 then .pointer (some ⟨s, 2, none⟩) else .pointer (some ⟨s, 0, none⟩)

def el (k l : Nat) : Value := if l = 1 then .int .i64 1 else .int .i64 (k : Int)
def rows (k l : Nat) : List Value := if l = 1 then ones k else nums k

/-- What holds between the operations of the statement. -/
def Mid (w0 : World) (s k : Nat) (V : Nat → Value) (x0 : Nat → Value) (b : Nat → Bool) (a : Act) (w : World) : Prop :=
  ∃ x, a = ⟨fr 49 x, []⟩ ∧ (∀ j, j < 18 ∨ 46 < j → x j = x0 j) ∧ (∀ i, i < 32 → isP i = true → b i = true → x (dsI i) = pv s k V i) ∧ Lanes w0 s k V (el k) (rows k) b x w

section
variable {w0 w : World} {s k : Nat} {V x0 x : Nat → Value} {b : Nat → Bool} {P : Program} {ops : Array Oper} {Q : Exit → Act → World → Prop} {o : Oper}

theorem mid_pure {i : Nat} (hx : ∀ j, j < 18 ∨ 46 < j → x j = x0 j) (hC : ∀ i, i < 32 → isP i = true → b i = true → x (dsI i) = pv s k V i) (hL : Lanes w0 s k V (el k) (rows k) b x w)
    (hi : i < 32) (hp : isP i = true) (ho : ops[i]? = some o) (hg : o.guard = none) (hd : o.dst = some (dsI i))
    (hr : (execOp (Act.eval ⟨fr 49 x, []⟩) o).run P w = .ok (.value (pv s k V i)) w) : wpOp P ops Q i (Mid w0 s k V x0 (up b i)) ⟨fr 49 x, []⟩ w := by
  refine wpOp_val ho hg hr ⟨upd x (dsI i) (pv s k V i), ?_, fun j hj => ?_, fun j hj hpj hb => ?_, ?_⟩
  · rw [hd]; simp only [Act.put, fr_put]
  · have := p_slot i hi hp
    unfold upd; rw [if_neg (by omega)]; exact hx j hj
  · unfold upd
    by_cases e : j = i
    · subst e; rw [if_pos rfl]
    · rw [if_neg (ds_inj j hj i hi e)]
      exact hC j hj hpj (by unfold up at hb; rw [if_neg e] at hb; exact hb)
  · exact hL.other (fun l hl => (p_lanes i hi hp l hl).1) (fun l hl => (p_lanes i hi hp l hl).2)

theorem mid_slot {i d : Nat} {v : Value} (hx : ∀ j, j < 18 ∨ 46 < j → x j = x0 j) (hC : ∀ i, i < 32 → isP i = true → b i = true → x (dsI i) = pv s k V i) (hi : i < 32) (hp : isP i = false) (hd : dsI i = d) (h1 : 18 ≤ d) (h2 : d ≤ 46) :
    (∀ j, j < 18 ∨ 46 < j → upd x d v j = x0 j) ∧ (∀ j, j < 32 → isP j = true → up b i j = true → upd x d v (dsI j) = pv s k V j) := by
  refine ⟨fun j hj => ?_, fun j hj hpj hb => ?_⟩
  · unfold upd; rw [if_neg (by omega)]; exact hx j hj
  · have e : j ≠ i := by rintro rfl; rw [hp] at hpj; cases hpj
    unfold upd
    rw [if_neg (by rw [← hd]; exact ds_inj j hj i hi e)]
    exact hC j hj hpj (by unfold up at hb; rw [if_neg e] at hb; exact hb)
end

theorem nums_succ (k : Nat) : nums (k + 1) = nums k ++ [.int .i64 (k : Int)] := by simp [nums, List.range_succ]
theorem ones_succ (k : Nat) : ones (k + 1) = ones k ++ [.int .i64 1] := by simp [ones, List.replicate_succ']

theorem fresh_of_lanes {w0 w : World} {s k : Nat} {V x : Nat → Value} {b : Nat → Bool} (h : Lanes w0 s k V (el k) (rows k) b x w) (hb : ∀ j, j < 32 → b j = true) : Fresh w0.heap.size s (k + 1) (fun l => x (apS l)) w := by
  obtain ⟨h1, h2, h3, r, h4, _⟩ := h
  have hc : ∀ l, l < 3 → cur V b x l = x (apS l) := fun l hl => by
    unfold cur; rw [if_pos (hb _ (by rcases three l hl with rfl | rfl | rfl <;> simp [apI]))]
  have hf : ∀ l, l < 3 → fld V b x l = x (apS l) := fun l hl => by
    unfold fld; rw [if_pos (hb _ (by rcases three l hl with rfl | rfl | rfl <;> simp [stI]))]
  have hr : ∀ l, l < 3 → w.ownsRow w0.heap.size 3 1 (x (apS l)) (k + 1) (rows k l ++ [el k l]) := fun l hl => by
    have e : b (apI l) = true := hb _ (by rcases three l hl with rfl | rfl | rfl <;> simp [apI])
    have := h3 l hl
    rw [if_pos e, if_pos e, hc l hl] at this
    exact this
  refine ⟨by rw [h2, hf 0 (by omega), hf 1 (by omega), hf 2 (by omega)], ?_, ?_, ?_, ?_⟩
  · rw [nums_succ]; exact hr 0 (by omega)
  · rw [ones_succ]; exact hr 1 (by omega)
  · rw [nums_succ]; exact hr 2 (by omega)
  · rw [hc 0 (by omega), hc 1 (by omega), hc 2 (by omega)] at h4
    have at_ : ∀ (i : Nat) (g : Nat), [(x (apS 0)).ownBlock, (x (apS 1)).ownBlock, (x (apS 2)).ownBlock, some s][i]? = some (some g) → [(x (apS 0)).ownBlock, (x (apS 1)).ownBlock, (x (apS 2)).ownBlock, some s, r 0, r 1, r 2][i]? = some (some g) := fun i g hi => by
      rcases (by omega : i = 0 ∨ i = 1 ∨ i = 2 ∨ i = 3 ∨ 4 ≤ i) with rfl | rfl | rfl | rfl | h
      · exact hi
      · exact hi
      · exact hi
      · exact hi
      · rw [List.getElem?_eq_none (by simpa using h)] at hi; cases hi
    exact ⟨fun i g hi => h4.1 i g (at_ i g hi), fun i j g hi hj => h4.2 i j g (at_ i g hi) (at_ j g hj)⟩

theorem lanes_of_fresh {w0 w : World} {s k : Nat} {V x : Nat → Value} (h : Fresh w0.heap.size s k V w) (hb : Below w0.heap.size w0 w) : Lanes w0 s k V (el k) (rows k) (fun _ => false) x w := by
  obtain ⟨h1, h2, h3, h4, h5⟩ := h
  refine ⟨hb, by simpa [fld] using h1, fun l hl => ?_, fun _ => none, ?_, fun l hl h => by cases h⟩
  · rcases three l hl with rfl | rfl | rfl
    · simpa [cur, rows] using h2
    · simpa [cur, rows] using h3
    · simpa [cur, rows] using h4
  · have at_ : ∀ (i : Nat) (g : Nat), [(V 0).ownBlock, (V 1).ownBlock, (V 2).ownBlock, some s, none, none, none][i]? = some (some g) → [(V 0).ownBlock, (V 1).ownBlock, (V 2).ownBlock, some s][i]? = some (some g) := fun i g hi => by
      rcases (by omega : i = 0 ∨ i = 1 ∨ i = 2 ∨ i = 3 ∨ i = 4 ∨ i = 5 ∨ i = 6 ∨ 7 ≤ i) with rfl | rfl | rfl | rfl | rfl | rfl | rfl | h
      · exact hi
      · exact hi
      · exact hi
      · exact hi
      · cases hi
      · cases hi
      · cases hi
      · rw [List.getElem?_eq_none (by simpa using h)] at hi; cases hi
    have : Live w [(V 0).ownBlock, (V 1).ownBlock, (V 2).ownBlock, some s, none, none, none] := ⟨fun i g hi => h5.1 i g (at_ i g hi), fun i j g hi hj => h5.2 i j g (at_ i g hi) (at_ j g hj)⟩
    simpa [cur] using this

theorem Fresh.drew {B s k : Nat} {V : Nat → Value} {w : World} (h : Fresh B s k V w) : Fresh B s k V w.drew := h

theorem info3 : (Try.prog.info? 3).map (fun i => (i.zero, i.size, i.bytes)) = some (some (.int .i64 0), 1, 8) := by kernel_rfl

set_option maxHeartbeats 4000000 in
theorem newSets_any (n : Nat) (w : World) (hn : n ≤ 10000) :
    Calls Try.prog 13 #[.int .i64 (n : Int)] w fun e w' => ∃ s V, w.heap.size ≤ s ∧ e = .returned (.tuple #[.pointer (some ⟨s, 0, none⟩), .int .i64 0]) ∧ Fresh w.heap.size s n V w' ∧ Below w.heap.size w w' := by
  have d1 : decide ((n : Int) < 0) = false := by simp
  have d2 : decide ((10000 : Int) < (n : Int)) = false := by simp; omega
  have d3 : decide (10000 < n) = false := by simp; omega
  obtain ⟨i3, hi3, hz0, hz1, hz2⟩ := info_parts info3
  go_enter Try.func13, Try.ntmps13
  go_wp2
  go_loopg [5, 15] n (fun g i j wr => ∃ k : Nat, k + g = n ∧ j = .int .i64 (k : Int) ∧ ∃ V, Fresh w.heap.size w.heap.size k V wr ∧ Below w.heap.size w wr)
  case atStart =>
    refine ⟨0, by omega, rfl, fun _ => .slice none 0 0, ⟨new_block _ _, ?_, ?_, ?_, ?_⟩, (Below.refl _ _).alloc (Nat.le_refl _) _⟩
    · exact World.ownsRow_nil _ _ _ _
    · exact World.ownsRow_nil _ _ _ _
    · exact World.ownsRow_nil _ _ _ _
    · refine ⟨fun i g hi => ?_, fun i j g hi hj => ?_⟩
      · rcases (by omega : i = 0 ∨ i = 1 ∨ i = 2 ∨ i = 3 ∨ 4 ≤ i) with rfl | rfl | rfl | rfl | h
        · cases hi
        · cases hi
        · cases hi
        · cases hi; simp
        · rw [List.getElem?_eq_none (by simpa using h)] at hi; cases hi
      · have k3 : ∀ i : Nat, [(Value.slice none 0 0).ownBlock, (Value.slice none 0 0).ownBlock, (Value.slice none 0 0).ownBlock, some w.heap.size][i]? = some (some g) → i = 3 := fun i hi => by
          rcases (by omega : i = 0 ∨ i = 1 ∨ i = 2 ∨ i = 3 ∨ 4 ≤ i) with rfl | rfl | rfl | rfl | h
          · cases hi
          · cases hi
          · cases hi
          · rfl
          · rw [List.getElem?_eq_none (by simpa using h)] at hi; cases hi
        rw [k3 i hi, k3 j hj]
  case round =>
    obtain ⟨k, hk, rfl, V, hf, hbel⟩ := hrel
    have HK := Lib.hid hk; clear hk
    by_cases hlt : k < n
    · go_wp2
      generalize hK1 : (Exit.inBlock 1 _) = QQ
      generalize hS : w.heap.size = s at *
      refine wp_region_by (fun b a' w' => Mid w s k V (fun j => Array.getD #[Value.int IntKind.i64 ↑n, undef, Value.pointer none, Value.int IntKind.i64 0, Value.pointer (some { block := s, off := 0 }), Value.int IntKind.i64 ↑k, Value.int IntKind.i64 ↑n,
          Value.bool false, Value.bool false, Value.int IntKind.i64 ↑n, Value.bool false, Value.bool false, Value.agg #[Value.slice none 0 0, Value.slice none 0 0, Value.slice none 0 0, Value.slice none 0 0],
          Value.pointer (some { block := s, off := 0 }), Value.int IntKind.i64 ↑n, Value.int IntKind.i64 ↑k, Value.bool true, Value.int IntKind.i64 ↑k, u18, u19, u20, u21, u22, u23, u24, u25, u26, u27, u28, u29, u30,
          u31, u32, u33, u34, u35, u36, u37, u38, u39, u40, u41, u42, u43, u44, u45, u46, u47, undef] j undef) b a' w') (by kernel_rfl) (by kernel_rfl) ?_ ?_ ?_
      · exact ⟨_, by rfl, fun _ _ => rfl, fun _ _ _ h => absurd h (by simp), lanes_of_fresh (by rw [hS]; exact hf.drew) (by rw [hS]; exact hbel.drew)⟩
      · rintro b a' w' i o ⟨x, rfl, hx, hC, hL⟩ ho hb hpre hdown
        have hi : i < 32 := (Array.getElem?_eq_some_iff.1 ho).1
        have ev : ∀ j, j < 49 → (fr 49 x)[j]? = some (x j) := fun j hj => by simp [fr, hj]
        rcases (by omega : i = 0 ∨ i = 1 ∨ i = 2 ∨ i = 3 ∨ i = 4 ∨ i = 5 ∨ i = 6 ∨ i = 7 ∨ i = 8 ∨ i = 9 ∨ i = 10 ∨ i = 11 ∨ i = 12 ∨ i = 13 ∨ i = 14 ∨ i = 15 ∨ i = 16 ∨ i = 17 ∨ i = 18 ∨ i = 19 ∨ i = 20 ∨ i = 21 ∨ i = 22 ∨ i = 23 ∨ i = 24 ∨ i = 25 ∨ i = 26 ∨ i = 27 ∨ i = 28 ∨ i = 29 ∨ i = 30 ∨ i = 31) with rfl | rfl | rfl | rfl | rfl | rfl | rfl | rfl | rfl | rfl | rfl | rfl | rfl | rfl | rfl | rfl | rfl | rfl | rfl | rfl | rfl | rfl | rfl | rfl | rfl | rfl | rfl | rfl | rfl | rfl | rfl | rfl
        · have hoo := ho
          simp only [List.getElem?_toArray, List.getElem?_cons_zero, Option.some.injEq] at ho
          subst ho
          have h1 : x 4 = .pointer (some ⟨s, 0, none⟩) := by rw [hx 4 (by omega)]; rfl
          refine mid_pure hx hC hL hi rfl hoo rfl rfl ?_
          rw [show pv s k V 0 = .pointer (some ⟨s, 0, none⟩) from rfl]
          clear hoo hK1 hpre hdown hC hL hx
          go_simp
        · have hoo := ho
          simp only [List.getElem?_toArray, List.getElem?_cons_succ, List.getElem?_cons_zero, Option.some.injEq] at ho
          subst ho
          have h1 : x 4 = .pointer (some ⟨s, 0, none⟩) := by rw [hx 4 (by omega)]; rfl
          refine mid_pure hx hC hL hi rfl hoo rfl rfl ?_
          rw [show pv s k V 1 = .pointer (some ⟨s, 0, none⟩) from rfl]
          clear hoo hK1 hpre hdown hC hL hx
          go_simp
        · have hoo := ho
          simp only [List.getElem?_toArray, List.getElem?_cons_succ, List.getElem?_cons_zero, Option.some.injEq] at ho
          subst ho
          have h1 : x 4 = .pointer (some ⟨s, 0, none⟩) := by rw [hx 4 (by omega)]; rfl
          refine mid_pure hx hC hL hi rfl hoo rfl rfl ?_
          rw [show pv s k V 2 = .pointer (some ⟨s, 0, none⟩) from rfl]
          clear hoo hK1 hpre hdown hC hL hx
          go_simp
        · have hoo := ho
          simp only [List.getElem?_toArray, List.getElem?_cons_succ, List.getElem?_cons_zero, Option.some.injEq] at ho
          subst ho
          have h1 : x 4 = .pointer (some ⟨s, 0, none⟩) := by rw [hx 4 (by omega)]; rfl
          refine mid_pure hx hC hL hi rfl hoo rfl rfl ?_
          rw [show pv s k V 3 = .pointer (some ⟨s, 0, none⟩) from rfl]
          clear hoo hK1 hpre hdown hC hL hx
          go_simp
        · have hoo := ho
          simp only [List.getElem?_toArray, List.getElem?_cons_succ, List.getElem?_cons_zero, Option.some.injEq] at ho
          subst ho
          have h1 : x 21 = .pointer (some ⟨s, 0, none⟩) := hC 3 (by omega) rfl (hpre 3 (by kernel_rfl))
          refine mid_pure hx hC hL hi rfl hoo rfl rfl ?_
          rw [show pv s k V 4 = .pointer (some ⟨s, 0, none⟩) from rfl]
          clear hoo hK1 hpre hdown hC hL hx
          go_simp
        · have hoo := ho
          simp only [List.getElem?_toArray, List.getElem?_cons_succ, List.getElem?_cons_zero, Option.some.injEq] at ho
          subst ho
          have h1 : x 22 = .pointer (some ⟨s, 0, none⟩) := hC 4 (by omega) rfl (hpre 4 (by kernel_rfl))
          refine mid_pure hx hC hL hi rfl hoo rfl rfl ?_
          rw [show pv s k V 5 = .pointer (some ⟨s, 0, none⟩) from rfl]
          clear hoo hK1 hpre hdown hC hL hx
          go_simp
        · have hoo := ho
          simp only [List.getElem?_toArray, List.getElem?_cons_succ, List.getElem?_cons_zero, Option.some.injEq] at ho
          subst ho
          have h1 : x 23 = .pointer (some ⟨s, 0, none⟩) := hC 5 (by omega) rfl (hpre 5 (by kernel_rfl))
          have h2 : b 25 = false := by cases h : b 25 with | false => rfl | true => rw [hdown 25 6 (by kernel_rfl) h] at hb; cases hb
          have h3 : w'.cell? ⟨s, 0, none⟩ = some (V 0) := by simp [World.cell?, hL.cells, fld, stI, h2]
          refine mid_pure hx hC hL hi rfl hoo rfl rfl ?_
          rw [show pv s k V 6 = V 0 from rfl]
          clear hoo hK1 hpre hdown hC hL hx
          go_simp
        · have hoo := ho
          simp only [List.getElem?_toArray, List.getElem?_cons_succ, List.getElem?_cons_zero, Option.some.injEq] at ho
          subst ho
          have h1 : x 5 = .int .i64 (k : Int) := by rw [hx 5 (by omega)]; rfl
          refine mid_pure hx hC hL hi rfl hoo rfl rfl ?_
          rw [show pv s k V 7 = .int .i64 (k : Int) from rfl]
          clear hoo hK1 hpre hdown hC hL hx
          go_simp
        · have hoo := ho
          simp only [List.getElem?_toArray, List.getElem?_cons_succ, List.getElem?_cons_zero, Option.some.injEq] at ho
          subst ho
          have h1 : x 25 = .int .i64 (k : Int) := hC 7 (by omega) rfl (hpre 7 (by kernel_rfl))
          have h2 : b 9 = false := by cases h : b 9 with | false => rfl | true => rw [hdown 9 8 (by kernel_rfl) h] at hb; cases hb
          obtain ⟨m1, m2⟩ := mid_slot (d := 26) (v := .slice (some ⟨w'.heap.size, 0, none⟩) 1 1) hx hC hi rfl rfl (by omega) (by omega)
          refine wpOp_val hoo rfl (v := .slice (some ⟨w'.heap.size, 0, none⟩) 1 1) (w' := w'.alloc (.cells #[el k 0] 3)) ?_ ⟨upd x 26 (.slice (some ⟨w'.heap.size, 0, none⟩) 1 1), by simp only [Act.put, fr_put], m1, m2, hL.made (l := 0) (by omega) h2⟩
          clear hoo hK1 hpre hdown hC hL hx m1 m2
          simp only [el]
          go_simp
        · have hoo := ho
          simp only [List.getElem?_toArray, List.getElem?_cons_succ, List.getElem?_cons_zero, Option.some.injEq] at ho
          subst ho
          have h1 : x 24 = V 0 := hC 6 (by omega) rfl (hpre 6 (by kernel_rfl))
          have h2 : b 25 = false := by cases h : b 25 with | false => rfl | true => rw [hdown 25 9 (by kernel_rfl) h] at hb; cases hb
          obtain ⟨rr, hlive, hbs⟩ := hL.live
          obtain ⟨g, g1, g2, g3⟩ := hbs 0 (by omega) (hpre 8 (by kernel_rfl))
          have g2' : x 26 = .slice (some ⟨g, 0, none⟩) 1 1 := g2
          have hrow := hL.row 0 (by omega)
          have hb' : b (apI 0) = false := hb
          rw [if_neg (by rw [hb']; simp), if_neg (by rw [hb']; simp), show cur V b x 0 = V 0 by unfold cur; rw [if_neg (by rw [hb']; simp)]] at hrow
          obtain ⟨v', w2, hrun, r1, r2, r3⟩ := append_one (P := Try.prog) w' w.heap.size 56 56 3 i3 (.int .i64 0) 8 Try.underlying56 hi3 hz0 hz1 hz2 rfl (V 0) k (rows k 0) hrow g (el k 0) (cell_of g3) rfl (by have := HK.out; omega) (by omega) hL.below.size
          obtain ⟨m1, m2⟩ := mid_slot (d := 27) (v := v') hx hC hi rfl rfl (by omega) (by omega)
          refine wpOp_val hoo rfl (v := v') (w' := w2) ?_ ⟨upd x 27 v', by simp only [Act.put, fr_put], m1, m2, hL.appended (l := 0) (by omega) hb h2 r1 r2 r3⟩
          clear hoo hK1 hpre hdown hC hx m1 m2
          simp [execOp, resolve, invoke, builtin, Act.eval, ev, h1, g2', hrun, Result.andThen]
        · have hoo := ho
          simp only [List.getElem?_toArray, List.getElem?_cons_succ, List.getElem?_cons_zero, Option.some.injEq] at ho
          subst ho
          have h1 : x 4 = .pointer (some ⟨s, 0, none⟩) := by rw [hx 4 (by omega)]; rfl
          refine mid_pure hx hC hL hi rfl hoo rfl rfl ?_
          rw [show pv s k V 10 = .pointer (some ⟨s, 0, none⟩) from rfl]
          clear hoo hK1 hpre hdown hC hL hx
          go_simp
        · have hoo := ho
          simp only [List.getElem?_toArray, List.getElem?_cons_succ, List.getElem?_cons_zero, Option.some.injEq] at ho
          subst ho
          have h1 : x 28 = .pointer (some ⟨s, 0, none⟩) := hC 10 (by omega) rfl (hpre 10 (by kernel_rfl))
          refine mid_pure hx hC hL hi rfl hoo rfl rfl ?_
          rw [show pv s k V 11 = .pointer (some ⟨s, 0, none⟩) from rfl]
          clear hoo hK1 hpre hdown hC hL hx
          go_simp
        · have hoo := ho
          simp only [List.getElem?_toArray, List.getElem?_cons_succ, List.getElem?_cons_zero, Option.some.injEq] at ho
          subst ho
          have h1 : x 29 = .pointer (some ⟨s, 0, none⟩) := hC 11 (by omega) rfl (hpre 11 (by kernel_rfl))
          refine mid_pure hx hC hL hi rfl hoo rfl rfl ?_
          rw [show pv s k V 12 = .pointer (some ⟨s, 1, none⟩) from rfl]
          clear hoo hK1 hpre hdown hC hL hx
          go_simp
        · have hoo := ho
          simp only [List.getElem?_toArray, List.getElem?_cons_succ, List.getElem?_cons_zero, Option.some.injEq] at ho
          subst ho
          have h1 : x 30 = .pointer (some ⟨s, 1, none⟩) := hC 12 (by omega) rfl (hpre 12 (by kernel_rfl))
          have h2 : b 28 = false := by cases h : b 28 with | false => rfl | true => rw [hdown 28 13 (by kernel_rfl) h] at hb; cases hb
          have h3 : w'.cell? ⟨s, 1, none⟩ = some (V 1) := by simp [World.cell?, hL.cells, fld, stI, h2]
          refine mid_pure hx hC hL hi rfl hoo rfl rfl ?_
          rw [show pv s k V 13 = V 1 from rfl]
          clear hoo hK1 hpre hdown hC hL hx
          go_simp
        · have hoo := ho
          simp only [List.getElem?_toArray, List.getElem?_cons_succ, List.getElem?_cons_zero, Option.some.injEq] at ho
          subst ho
          have h2 : b 15 = false := by cases h : b 15 with | false => rfl | true => rw [hdown 15 14 (by kernel_rfl) h] at hb; cases hb
          obtain ⟨m1, m2⟩ := mid_slot (d := 32) (v := .slice (some ⟨w'.heap.size, 0, none⟩) 1 1) hx hC hi rfl rfl (by omega) (by omega)
          refine wpOp_val hoo rfl (v := .slice (some ⟨w'.heap.size, 0, none⟩) 1 1) (w' := w'.alloc (.cells #[el k 1] 3)) ?_ ⟨upd x 32 (.slice (some ⟨w'.heap.size, 0, none⟩) 1 1), by simp only [Act.put, fr_put], m1, m2, hL.made (l := 1) (by omega) h2⟩
          clear hoo hK1 hpre hdown hC hL hx m1 m2
          simp only [el]
          go_simp
        · have hoo := ho
          simp only [List.getElem?_toArray, List.getElem?_cons_succ, List.getElem?_cons_zero, Option.some.injEq] at ho
          subst ho
          have h1 : x 31 = V 1 := hC 13 (by omega) rfl (hpre 13 (by kernel_rfl))
          have h2 : b 28 = false := by cases h : b 28 with | false => rfl | true => rw [hdown 28 15 (by kernel_rfl) h] at hb; cases hb
          obtain ⟨rr, hlive, hbs⟩ := hL.live
          obtain ⟨g, g1, g2, g3⟩ := hbs 1 (by omega) (hpre 14 (by kernel_rfl))
          have g2' : x 32 = .slice (some ⟨g, 0, none⟩) 1 1 := g2
          have hrow := hL.row 1 (by omega)
          have hb' : b (apI 1) = false := hb
          rw [if_neg (by rw [hb']; simp), if_neg (by rw [hb']; simp), show cur V b x 1 = V 1 by unfold cur; rw [if_neg (by rw [hb']; simp)]] at hrow
          obtain ⟨v', w2, hrun, r1, r2, r3⟩ := append_one (P := Try.prog) w' w.heap.size 56 56 3 i3 (.int .i64 0) 8 Try.underlying56 hi3 hz0 hz1 hz2 rfl (V 1) k (rows k 1) hrow g (el k 1) (cell_of g3) rfl (by have := HK.out; omega) (by omega) hL.below.size
          obtain ⟨m1, m2⟩ := mid_slot (d := 33) (v := v') hx hC hi rfl rfl (by omega) (by omega)
          refine wpOp_val hoo rfl (v := v') (w' := w2) ?_ ⟨upd x 33 v', by simp only [Act.put, fr_put], m1, m2, hL.appended (l := 1) (by omega) hb h2 r1 r2 r3⟩
          clear hoo hK1 hpre hdown hC hx m1 m2
          simp [execOp, resolve, invoke, builtin, Act.eval, ev, h1, g2', hrun, Result.andThen]
        · have hoo := ho
          simp only [List.getElem?_toArray, List.getElem?_cons_succ, List.getElem?_cons_zero, Option.some.injEq] at ho
          subst ho
          have h1 : x 4 = .pointer (some ⟨s, 0, none⟩) := by rw [hx 4 (by omega)]; rfl
          refine mid_pure hx hC hL hi rfl hoo rfl rfl ?_
          rw [show pv s k V 16 = .pointer (some ⟨s, 0, none⟩) from rfl]
          clear hoo hK1 hpre hdown hC hL hx
          go_simp
        · have hoo := ho
          simp only [List.getElem?_toArray, List.getElem?_cons_succ, List.getElem?_cons_zero, Option.some.injEq] at ho
          subst ho
          have h1 : x 34 = .pointer (some ⟨s, 0, none⟩) := hC 16 (by omega) rfl (hpre 16 (by kernel_rfl))
          refine mid_pure hx hC hL hi rfl hoo rfl rfl ?_
          rw [show pv s k V 17 = .pointer (some ⟨s, 0, none⟩) from rfl]
          clear hoo hK1 hpre hdown hC hL hx
          go_simp
        · have hoo := ho
          simp only [List.getElem?_toArray, List.getElem?_cons_succ, List.getElem?_cons_zero, Option.some.injEq] at ho
          subst ho
          have h1 : x 35 = .pointer (some ⟨s, 0, none⟩) := hC 17 (by omega) rfl (hpre 17 (by kernel_rfl))
          refine mid_pure hx hC hL hi rfl hoo rfl rfl ?_
          rw [show pv s k V 18 = .pointer (some ⟨s, 2, none⟩) from rfl]
          clear hoo hK1 hpre hdown hC hL hx
          go_simp
        · have hoo := ho
          simp only [List.getElem?_toArray, List.getElem?_cons_succ, List.getElem?_cons_zero, Option.some.injEq] at ho
          subst ho
          have h1 : x 36 = .pointer (some ⟨s, 2, none⟩) := hC 18 (by omega) rfl (hpre 18 (by kernel_rfl))
          have h2 : b 31 = false := by cases h : b 31 with | false => rfl | true => rw [hdown 31 19 (by kernel_rfl) h] at hb; cases hb
          have h3 : w'.cell? ⟨s, 2, none⟩ = some (V 2) := by simp [World.cell?, hL.cells, fld, stI, h2]
          refine mid_pure hx hC hL hi rfl hoo rfl rfl ?_
          rw [show pv s k V 19 = V 2 from rfl]
          clear hoo hK1 hpre hdown hC hL hx
          go_simp
        · have hoo := ho
          simp only [List.getElem?_toArray, List.getElem?_cons_succ, List.getElem?_cons_zero, Option.some.injEq] at ho
          subst ho
          have h1 : x 5 = .int .i64 (k : Int) := by rw [hx 5 (by omega)]; rfl
          refine mid_pure hx hC hL hi rfl hoo rfl rfl ?_
          rw [show pv s k V 20 = .int .i64 (k : Int) from rfl]
          clear hoo hK1 hpre hdown hC hL hx
          go_simp
        · have hoo := ho
          simp only [List.getElem?_toArray, List.getElem?_cons_succ, List.getElem?_cons_zero, Option.some.injEq] at ho
          subst ho
          have h1 : x 38 = .int .i64 (k : Int) := hC 20 (by omega) rfl (hpre 20 (by kernel_rfl))
          have h2 : b 22 = false := by cases h : b 22 with | false => rfl | true => rw [hdown 22 21 (by kernel_rfl) h] at hb; cases hb
          obtain ⟨m1, m2⟩ := mid_slot (d := 39) (v := .slice (some ⟨w'.heap.size, 0, none⟩) 1 1) hx hC hi rfl rfl (by omega) (by omega)
          refine wpOp_val hoo rfl (v := .slice (some ⟨w'.heap.size, 0, none⟩) 1 1) (w' := w'.alloc (.cells #[el k 2] 3)) ?_ ⟨upd x 39 (.slice (some ⟨w'.heap.size, 0, none⟩) 1 1), by simp only [Act.put, fr_put], m1, m2, hL.made (l := 2) (by omega) h2⟩
          clear hoo hK1 hpre hdown hC hL hx m1 m2
          simp only [el]
          go_simp
        · have hoo := ho
          simp only [List.getElem?_toArray, List.getElem?_cons_succ, List.getElem?_cons_zero, Option.some.injEq] at ho
          subst ho
          have h1 : x 37 = V 2 := hC 19 (by omega) rfl (hpre 19 (by kernel_rfl))
          have h2 : b 31 = false := by cases h : b 31 with | false => rfl | true => rw [hdown 31 22 (by kernel_rfl) h] at hb; cases hb
          obtain ⟨rr, hlive, hbs⟩ := hL.live
          obtain ⟨g, g1, g2, g3⟩ := hbs 2 (by omega) (hpre 21 (by kernel_rfl))
          have g2' : x 39 = .slice (some ⟨g, 0, none⟩) 1 1 := g2
          have hrow := hL.row 2 (by omega)
          have hb' : b (apI 2) = false := hb
          rw [if_neg (by rw [hb']; simp), if_neg (by rw [hb']; simp), show cur V b x 2 = V 2 by unfold cur; rw [if_neg (by rw [hb']; simp)]] at hrow
          obtain ⟨v', w2, hrun, r1, r2, r3⟩ := append_one (P := Try.prog) w' w.heap.size 56 56 3 i3 (.int .i64 0) 8 Try.underlying56 hi3 hz0 hz1 hz2 rfl (V 2) k (rows k 2) hrow g (el k 2) (cell_of g3) rfl (by have := HK.out; omega) (by omega) hL.below.size
          obtain ⟨m1, m2⟩ := mid_slot (d := 40) (v := v') hx hC hi rfl rfl (by omega) (by omega)
          refine wpOp_val hoo rfl (v := v') (w' := w2) ?_ ⟨upd x 40 v', by simp only [Act.put, fr_put], m1, m2, hL.appended (l := 2) (by omega) hb h2 r1 r2 r3⟩
          clear hoo hK1 hpre hdown hC hx m1 m2
          simp [execOp, resolve, invoke, builtin, Act.eval, ev, h1, g2', hrun, Result.andThen]
        · have hoo := ho
          simp only [List.getElem?_toArray, List.getElem?_cons_succ, List.getElem?_cons_zero, Option.some.injEq] at ho
          subst ho
          have h1 : x 18 = .pointer (some ⟨s, 0, none⟩) := hC 0 (by omega) rfl (hpre 0 (by kernel_rfl))
          refine mid_pure hx hC hL hi rfl hoo rfl rfl ?_
          rw [show pv s k V 23 = .pointer (some ⟨s, 0, none⟩) from rfl]
          clear hoo hK1 hpre hdown hC hL hx
          go_simp
        · have hoo := ho
          simp only [List.getElem?_toArray, List.getElem?_cons_succ, List.getElem?_cons_zero, Option.some.injEq] at ho
          subst ho
          have h1 : x 41 = .pointer (some ⟨s, 0, none⟩) := hC 23 (by omega) rfl (hpre 23 (by kernel_rfl))
          refine mid_pure hx hC hL hi rfl hoo rfl rfl ?_
          rw [show pv s k V 24 = .pointer (some ⟨s, 0, none⟩) from rfl]
          clear hoo hK1 hpre hdown hC hL hx
          go_simp
        · have hoo := ho
          simp only [List.getElem?_toArray, List.getElem?_cons_succ, List.getElem?_cons_zero, Option.some.injEq] at ho
          subst ho
          have h1 : x 42 = .pointer (some ⟨s, 0, none⟩) := hC 24 (by omega) rfl (hpre 24 (by kernel_rfl))
          have hap : b 9 = true := hpre 9 (by kernel_rfl)
          have hrow := hL.row 0 (by omega)
          have hap' : b (apI 0) = true := hap
          rw [if_pos hap', if_pos hap', show cur V b x 0 = x 27 by unfold cur; rw [if_pos hap']; rfl] at hrow
          obtain ⟨ao, n', c', hv⟩ : ∃ ao n' c', x 27 = .slice ao n' c' := by rcases hrow.2 with ⟨h, _⟩ | ⟨g, cap, _, h, _⟩ <;> exact ⟨_, _, _, h⟩
          have hsz : w.heap.size ≤ s := by omega
          have hst := hL.stored (l := 0) (by omega) hap' hsz
          have h3 : w'.cell? ⟨s, 0, none⟩ = some (fld V b x 0) := by simp [World.cell?, hL.cells]
          have h4 : w'.frozen? ⟨s, 0, none⟩ = false := by simp [World.frozen?, hL.cells]
          rw [show x (apS 0) = .slice ao n' c' from hv] at hst
          refine wpOp_skip hoo rfl (w' := w'.setCell ⟨s, 0, none⟩ (.slice ao n' c')) ?_ ⟨x, rfl, hx, fun j hj hpj hbj => hC j hj hpj (by unfold up at hbj; rw [if_neg (by rintro rfl; cases hpj)] at hbj; exact hbj), hst⟩
          generalize fld V b x 0 = old at *
          clear hoo hK1 hpre hdown hC hx hst hrow hL
          go_simp
        · have hoo := ho
          simp only [List.getElem?_toArray, List.getElem?_cons_succ, List.getElem?_cons_zero, Option.some.injEq] at ho
          subst ho
          have h1 : x 19 = .pointer (some ⟨s, 0, none⟩) := hC 1 (by omega) rfl (hpre 1 (by kernel_rfl))
          refine mid_pure hx hC hL hi rfl hoo rfl rfl ?_
          rw [show pv s k V 26 = .pointer (some ⟨s, 0, none⟩) from rfl]
          clear hoo hK1 hpre hdown hC hL hx
          go_simp
        · have hoo := ho
          simp only [List.getElem?_toArray, List.getElem?_cons_succ, List.getElem?_cons_zero, Option.some.injEq] at ho
          subst ho
          have h1 : x 43 = .pointer (some ⟨s, 0, none⟩) := hC 26 (by omega) rfl (hpre 26 (by kernel_rfl))
          refine mid_pure hx hC hL hi rfl hoo rfl rfl ?_
          rw [show pv s k V 27 = .pointer (some ⟨s, 1, none⟩) from rfl]
          clear hoo hK1 hpre hdown hC hL hx
          go_simp
        · have hoo := ho
          simp only [List.getElem?_toArray, List.getElem?_cons_succ, List.getElem?_cons_zero, Option.some.injEq] at ho
          subst ho
          have h1 : x 44 = .pointer (some ⟨s, 1, none⟩) := hC 27 (by omega) rfl (hpre 27 (by kernel_rfl))
          have hap : b 15 = true := hpre 15 (by kernel_rfl)
          have hrow := hL.row 1 (by omega)
          have hap' : b (apI 1) = true := hap
          rw [if_pos hap', if_pos hap', show cur V b x 1 = x 33 by unfold cur; rw [if_pos hap']; rfl] at hrow
          obtain ⟨ao, n', c', hv⟩ : ∃ ao n' c', x 33 = .slice ao n' c' := by rcases hrow.2 with ⟨h, _⟩ | ⟨g, cap, _, h, _⟩ <;> exact ⟨_, _, _, h⟩
          have hsz : w.heap.size ≤ s := by omega
          have hst := hL.stored (l := 1) (by omega) hap' hsz
          have h3 : w'.cell? ⟨s, 1, none⟩ = some (fld V b x 1) := by simp [World.cell?, hL.cells]
          have h4 : w'.frozen? ⟨s, 1, none⟩ = false := by simp [World.frozen?, hL.cells]
          rw [show x (apS 1) = .slice ao n' c' from hv] at hst
          refine wpOp_skip hoo rfl (w' := w'.setCell ⟨s, 1, none⟩ (.slice ao n' c')) ?_ ⟨x, rfl, hx, fun j hj hpj hbj => hC j hj hpj (by unfold up at hbj; rw [if_neg (by rintro rfl; cases hpj)] at hbj; exact hbj), hst⟩
          generalize fld V b x 1 = old at *
          clear hoo hK1 hpre hdown hC hx hst hrow hL
          go_simp
        · have hoo := ho
          simp only [List.getElem?_toArray, List.getElem?_cons_succ, List.getElem?_cons_zero, Option.some.injEq] at ho
          subst ho
          have h1 : x 20 = .pointer (some ⟨s, 0, none⟩) := hC 2 (by omega) rfl (hpre 2 (by kernel_rfl))
          refine mid_pure hx hC hL hi rfl hoo rfl rfl ?_
          rw [show pv s k V 29 = .pointer (some ⟨s, 0, none⟩) from rfl]
          clear hoo hK1 hpre hdown hC hL hx
          go_simp
        · have hoo := ho
          simp only [List.getElem?_toArray, List.getElem?_cons_succ, List.getElem?_cons_zero, Option.some.injEq] at ho
          subst ho
          have h1 : x 45 = .pointer (some ⟨s, 0, none⟩) := hC 29 (by omega) rfl (hpre 29 (by kernel_rfl))
          refine mid_pure hx hC hL hi rfl hoo rfl rfl ?_
          rw [show pv s k V 30 = .pointer (some ⟨s, 2, none⟩) from rfl]
          clear hoo hK1 hpre hdown hC hL hx
          go_simp
        · have hoo := ho
          simp only [List.getElem?_toArray, List.getElem?_cons_succ, List.getElem?_cons_zero, Option.some.injEq] at ho
          subst ho
          have h1 : x 46 = .pointer (some ⟨s, 2, none⟩) := hC 30 (by omega) rfl (hpre 30 (by kernel_rfl))
          have hap : b 22 = true := hpre 22 (by kernel_rfl)
          have hrow := hL.row 2 (by omega)
          have hap' : b (apI 2) = true := hap
          rw [if_pos hap', if_pos hap', show cur V b x 2 = x 40 by unfold cur; rw [if_pos hap']; rfl] at hrow
          obtain ⟨ao, n', c', hv⟩ : ∃ ao n' c', x 40 = .slice ao n' c' := by rcases hrow.2 with ⟨h, _⟩ | ⟨g, cap, _, h, _⟩ <;> exact ⟨_, _, _, h⟩
          have hsz : w.heap.size ≤ s := by omega
          have hst := hL.stored (l := 2) (by omega) hap' hsz
          have h3 : w'.cell? ⟨s, 2, none⟩ = some (fld V b x 2) := by simp [World.cell?, hL.cells]
          have h4 : w'.frozen? ⟨s, 2, none⟩ = false := by simp [World.frozen?, hL.cells]
          rw [show x (apS 2) = .slice ao n' c' from hv] at hst
          refine wpOp_skip hoo rfl (w' := w'.setCell ⟨s, 2, none⟩ (.slice ao n' c')) ?_ ⟨x, rfl, hx, fun j hj hpj hbj => hC j hj hpj (by unfold up at hbj; rw [if_neg (by rintro rfl; cases hpj)] at hbj; exact hbj), hst⟩
          generalize fld V b x 2 = old at *
          clear hoo hK1 hpre hdown hC hx hst hrow hL
          go_simp
      · rintro b a' w' ⟨x, rfl, hx, hC, hL⟩ hall
        have e0 : x 0 = Value.int IntKind.i64 ↑n := hx 0 (by omega)
        have e1 : x 1 = undef := hx 1 (by omega)
        have e2 : x 2 = Value.pointer none := hx 2 (by omega)
        have e3 : x 3 = Value.int IntKind.i64 0 := hx 3 (by omega)
        have e4 : x 4 = Value.pointer (some { block := s, off := 0 }) := hx 4 (by omega)
        have e5 : x 5 = Value.int IntKind.i64 ↑k := hx 5 (by omega)
        have e6 : x 6 = Value.int IntKind.i64 ↑n := hx 6 (by omega)
        have e7 : x 7 = Value.bool false := hx 7 (by omega)
        have e8 : x 8 = Value.bool false := hx 8 (by omega)
        have e9 : x 9 = Value.int IntKind.i64 ↑n := hx 9 (by omega)
        have e10 : x 10 = Value.bool false := hx 10 (by omega)
        have e11 : x 11 = Value.bool false := hx 11 (by omega)
        have e12 : x 12 = Value.agg #[Value.slice none 0 0, Value.slice none 0 0, Value.slice none 0 0, Value.slice none 0 0] := hx 12 (by omega)
        have e13 : x 13 = Value.pointer (some { block := s, off := 0 }) := hx 13 (by omega)
        have e14 : x 14 = Value.int IntKind.i64 ↑n := hx 14 (by omega)
        have e15 : x 15 = Value.int IntKind.i64 ↑k := hx 15 (by omega)
        have e16 : x 16 = Value.bool true := hx 16 (by omega)
        have e17 : x 17 = Value.int IntKind.i64 ↑k := hx 17 (by omega)
        have e47 : x 47 = u47 := hx 47 (by omega)
        have e48 : x 48 = undef := hx 48 (by omega)
        have hfr : fr 49 x = #[x 0, x 1, x 2, x 3, x 4, x 5, x 6, x 7, x 8, x 9, x 10, x 11, x 12, x 13, x 14, x 15, x 16, x 17, x 18, x 19, x 20, x 21, x 22, x 23, x 24, x 25, x 26, x 27, x 28, x 29, x 30, x 31, x 32, x 33, x 34, x 35, x 36, x 37, x 38, x 39, x 40, x 41, x 42, x 43, x 44, x 45, x 46, x 47, x 48] := rfl
        rw [e0, e1, e2, e3, e4, e5, e6, e7, e8, e9, e10, e11, e12, e13, e14, e15, e16, e17, e47, e48] at hfr
        rw [hfr]
        clear e0 e1 e2 e3 e4 e5 e6 e7 e8 e9 e10 e11 e12 e13 e14 e15 e16 e17 e47 e48 hfr hx hC
        have hfin := Lib.hid (fresh_of_lanes hL hall)
        have hbel2 := Lib.hid hL.below
        clear hL hall hf hbel
        subst hK1
        generalize x 18 = y18
        go_wp2
        go_roundg (n - (k + 1))
        case measure => have := HK.out; omega
        case rel => subst hS; exact ⟨k + 1, by have := HK.out; omega, by go_num, _, hfin.out, hbel2.out⟩
    · go_wp2
      go_ret2
      have hkn : k = n := by have := HK.out; omega
      subst hkn
      exact ⟨_, V, Nat.le_refl _, rfl, hf, hbel⟩
end Go.Proofs.Ytpmcpfmbhebjpaa
