/- Two sets made one. -/
import Derived.Test.YtpmcpfmbhebjpaaNb
namespace Go.Proofs.Ytpmcpfmbhebjpaa
open Go.RowKit

theorem new_cells4 (w : World) (a b c d : Value) (e : TypeId) : ∀ (j : Nat) (u : Value), [a, b, c, d][j]? = some u → (w.alloc (.cells #[a, b, c, d] e)).cell? ((⟨w.heap.size, 0, none⟩ : Addr).add j) = some u := by
  intro j u hu
  have hn := new_block w (.cells #[a, b, c, d] e)
  have ha : (⟨w.heap.size, 0, none⟩ : Addr).add j = ⟨w.heap.size, j, none⟩ := by unfold Addr.add; split <;> simp_all
  rw [ha]
  simp only [World.cell?, hn]
  simpa using hu

theorem info63 : (Try.prog.info? 63).map (fun i => (i.zero, i.size, i.bytes)) = some (some (.agg #[.int .i64 0, .int .i64 0, .int .i64 0, .int .i64 0]), 4, 32) := by kernel_rfl

section
variable {w : World} {s g0 g1 g2 c0 c1 c2 : Nat} {p z l : Nat → Int} {vm : Value}

theorem cell_set_if {w : World} {g i j : Nat} {f : Nat → Int} {v : Int} (h : ∀ j, j < 4 → w.cell? ⟨g, j, none⟩ = some (.int .i64 (f j))) (hi : i < 4) (hj : j < 4) : (w.setCell ⟨g, i, none⟩ (.int .i64 v)).cell? ⟨g, j, none⟩ = some (.int .i64 (if j = i then v else f j)) := by
  by_cases e : j = i
  · subst e; rw [if_pos rfl]; exact cell_set (h j hj)
  · rw [if_neg e, World.cell?_setCell_other w _ _ _ (fun h => e (by cases h; rfl))]; exact h j hj

theorem frozen_set {w : World} (a : Addr) (u : Value) (q : Addr) : (w.setCell a u).frozen? q = w.frozen? q := by
  unfold World.frozen? World.setCell
  simp only [Array.getElem?_modify]
  by_cases e : a.block = q.block
  · simp only [e, if_true]
    cases w.heap[q.block]? with
    | none => rfl
    | some o => cases o <;> rfl
  · simp only [e, if_false]

theorem bit_no {p : Prop} {x : Bool} (h : x = true) (h' : x = false) : p := by rw [h] at h'; cases h'

theorem SetsAt.setP (h : SetsAt w s g0 g1 g2 c0 c1 c2 p z l vm) (i : Nat) (v : Int) (hi : i < 4) : SetsAt (w.setCell ⟨g0, i, none⟩ (.int .i64 v)) s g0 g1 g2 c0 c1 c2 (fun j => if j = i then v else p j) z l vm := by
  obtain ⟨n1, n2, n3, n4, n5, n6⟩ := h.ne
  refine ⟨?_, fun j hj => cell_set_if h.cp hi hj, fun j hj => cell_set_ne (h.cz j hj) (Ne.symm n1), fun j hj => cell_set_ne (h.cl j hj) (Ne.symm n2), fun j => ?_, fun j => ?_, fun j => ?_, h.ne⟩
  · exact block_set h.block (Ne.symm n4)
  · rw [frozen_set]; exact h.fp j
  · rw [frozen_set]; exact h.fz j
  · rw [frozen_set]; exact h.fl j

theorem SetsAt.setZ (h : SetsAt w s g0 g1 g2 c0 c1 c2 p z l vm) (i : Nat) (v : Int) (hi : i < 4) : SetsAt (w.setCell ⟨g1, i, none⟩ (.int .i64 v)) s g0 g1 g2 c0 c1 c2 p (fun j => if j = i then v else z j) l vm := by
  obtain ⟨n1, n2, n3, n4, n5, n6⟩ := h.ne
  refine ⟨?_, fun j hj => cell_set_ne (h.cp j hj) n1, fun j hj => cell_set_if h.cz hi hj, fun j hj => cell_set_ne (h.cl j hj) (Ne.symm n3), fun j => ?_, fun j => ?_, fun j => ?_, h.ne⟩
  · exact block_set h.block (Ne.symm n5)
  · rw [frozen_set]; exact h.fp j
  · rw [frozen_set]; exact h.fz j
  · rw [frozen_set]; exact h.fl j

theorem SetsAt.setL (h : SetsAt w s g0 g1 g2 c0 c1 c2 p z l vm) (i : Nat) (v : Int) (hi : i < 4) : SetsAt (w.setCell ⟨g2, i, none⟩ (.int .i64 v)) s g0 g1 g2 c0 c1 c2 p z (fun j => if j = i then v else l j) vm := by
  obtain ⟨n1, n2, n3, n4, n5, n6⟩ := h.ne
  refine ⟨?_, fun j hj => cell_set_ne (h.cp j hj) n2, fun j hj => cell_set_ne (h.cz j hj) n3, fun j hj => cell_set_if h.cl hi hj, fun j => ?_, fun j => ?_, fun j => ?_, h.ne⟩
  · exact block_set h.block (Ne.symm n6)
  · rw [frozen_set]; exact h.fp j
  · rw [frozen_set]; exact h.fz j
  · rw [frozen_set]; exact h.fl j

theorem SetsAt.setMade (h : SetsAt w s g0 g1 g2 c0 c1 c2 p z l vm) (v : Value) : SetsAt (w.setCell ⟨s, 3, none⟩ v) s g0 g1 g2 c0 c1 c2 p z l v := by
  obtain ⟨n1, n2, n3, n4, n5, n6⟩ := h.ne
  refine ⟨?_, fun j hj => cell_set_ne (h.cp j hj) n4, fun j hj => cell_set_ne (h.cz j hj) n5, fun j hj => cell_set_ne (h.cl j hj) n6, fun j => ?_, fun j => ?_, fun j => ?_, h.ne⟩
  · unfold World.setCell; simp [Array.getElem?_modify, h.block]
  · rw [frozen_set]; exact h.fp j
  · rw [frozen_set]; exact h.fz j
  · rw [frozen_set]; exact h.fl j
end

/-- What Union says of 3 and 1. -/
def United (w : World) (s g0 g1 g2 c0 c1 c2 : Nat) (e : Ending) (w' : World) : Prop := ∃ ao c, e = .returned (.tuple #[.bool true, .int .i64 0]) ∧
  SetsAt w' s g0 g1 g2 c0 c1 c2 (fun j => if j = 1 then 3 else (j : Int)) (fun j => if j = 3 then 2 else 1) (fun j => if j = 3 then 1 else (j : Int)) (.slice ao 1 c) ∧
  ∀ B, B ≤ w.heap.size → B ≤ s → B ≤ g0 → B ≤ g1 → B ≤ g2 → Below B w w'

set_option maxRecDepth 100000 in
set_option maxHeartbeats 4000000 in
theorem union31 {w : World} {s g0 g1 g2 c0 c1 c2 : Nat} (h : SetsAt w s g0 g1 g2 c0 c1 c2 (fun j => (j : Int)) (fun _ => 1) (fun j => (j : Int)) (.slice none 0 0)) :
    Calls Try.prog 14 #[.pointer (some ⟨s, 0, none⟩), .int .i64 3, .int .i64 1] w (United w s g0 g1 g2 c0 c1 c2) := by
  have hw2 : IntKind.i64.wrap 2 = 2 := IntWalk.i64_in _ (by omega)
  obtain ⟨i63, hi63, hz0, hz1, hz2⟩ := info_parts info63
  obtain ⟨h0, h1, h2, h3⟩ := h.scell
  have z3 := h.cz 3 (by omega)
  have z1 := h.cz 1 (by omega)
  have q1 : Calls Try.prog 25 #[.pointer (some ⟨s, 0, none⟩), .int .i64 3] w fun e w' => e = .returned (.bool true) ∧ w = w' := has_any 3 (by omega) h
  have q2 : Calls Try.prog 25 #[.pointer (some ⟨s, 0, none⟩), .int .i64 1] w fun e w' => e = .returned (.bool true) ∧ w = w' := has_any 1 (by omega) h
  have q3 : Calls Try.prog 26 #[.pointer (some ⟨s, 0, none⟩), .int .i64 3] w fun e w' => e = .returned (.int .i64 3) ∧ w = w' := root_any 3 (by omega) rfl h
  have q4 : Calls Try.prog 26 #[.pointer (some ⟨s, 0, none⟩), .int .i64 1] w fun e w' => e = .returned (.int .i64 1) ∧ w = w' := root_any 1 (by omega) rfl h
  have H1 := Lib.hid q1; have H2 := Lib.hid q2; have H3 := Lib.hid q3; have H4 := Lib.hid q4; clear q1 q2 q3 q4
  go_enter Try.func14, Try.ntmps14
  go_wp2_with fail
  ((with_reducible refine (H1.out).mono ?_); rintro e w' ⟨rfl, rfl⟩)
  go_wp2_with fail
  ((with_reducible refine (H2.out).mono ?_); rintro e w' ⟨rfl, rfl⟩)
  go_wp2_with fail
  ((with_reducible refine (H3.out).mono ?_); rintro e w' ⟨rfl, rfl⟩)
  go_wp2_with fail
  ((with_reducible refine (H4.out).mono ?_); rintro e w' ⟨rfl, rfl⟩)
  go_wp2_with fail
  go_region_held3 (fun u => u.cell? ⟨s, 1, none⟩ = some (.slice (some ⟨g1, 0, none⟩) 4 c1) ∧ u.cell? ⟨g1, 3, none⟩ = some (.int .i64 1) ∧ u.cell? ⟨g1, 1, none⟩ = some (.int .i64 1)) (first | exact ⟨h1, z3, z1⟩) (first | fail)
  go_wp2
  clear h0 h1 h2 h3 z3 z1 H1 H2 H3 H4
  generalize hQ : (Exit.then _ _) = QQ
  obtain ⟨w1, hw1⟩ : ∃ w1, w1 = w.drew.drew := ⟨_, rfl⟩
  replace h := h.drew.drew
  rw [← hw1] at h
  have hds : ∀ i, i < 27 → ∀ j, j < 27 → i ≠ j → ([48, 49, 50, 51, 52, 53, 54, 55, 56, 57, 58, 59, 60, 61, 62, 63, 64, 65, 66, 67, 68, 69, 70, 71, 72, 73, 249].getD i 0 : Nat) ≠ [48, 49, 50, 51, 52, 53, 54, 55, 56, 57, 58, 59, 60, 61, 62, 63, 64, 65, 66, 67, 68, 69, 70, 71, 72, 73, 249].getD j 0 := by decide
  refine wp_region_rg 123 27 (fun i => ([48, 49, 50, 51, 52, 53, 54, 55, 56, 57, 58, 59, 60, 61, 62, 63, 64, 65, 66, 67, 68, 69, 70, 71, 72, 73, 249].getD i 0 : Nat)) (fun i => ([0, 1, 2, 3, 4, 5, 6, 7, 8, 9, 10, 11, 12, 13, 14, 15, 16, 17, 18, 19, 20, 21, 24, 25] : List Nat).contains i) (fun i => ([.pointer (some ⟨s, 0, none⟩), .pointer (some ⟨s, 0, none⟩), .pointer (some ⟨s, 0, none⟩), .pointer (some ⟨s, 3, none⟩), .slice none 0 0, .int .i64 1, .int .i64 3, .pointer (some ⟨s, 0, none⟩), .pointer (some ⟨s, 0, none⟩), .pointer (some ⟨s, 1, none⟩), .slice (some ⟨g1, 0, none⟩) 4 c1, .int .i64 3, .pointer (some ⟨g1, 3, none⟩), .int .i64 1, .pointer (some ⟨s, 0, none⟩), .pointer (some ⟨s, 0, none⟩), .pointer (some ⟨s, 2, none⟩), .slice (some ⟨g2, 0, none⟩) 4 c2, .int .i64 3, .pointer (some ⟨g2, 3, none⟩), .int .i64 3, .agg #[.int .i64 1, .int .i64 3, .int .i64 1, .int .i64 3], undef, undef, .pointer (some ⟨s, 0, none⟩), .pointer (some ⟨s, 3, none⟩), undef] : List Value).getD i undef) (fun b x w' => (b 22 = false → w' = w1) ∧ (b 22 = true → b 23 = false → x 70 = .slice (some ⟨w1.heap.size, 0, none⟩) 1 1 ∧ w' = w1.alloc (.cells #[.int .i64 1, .int .i64 3, .int .i64 1, .int .i64 3] 63)) ∧ (b 23 = true → b 26 = false → ∃ g c, x 71 = .slice (some ⟨g, 0, none⟩) 1 c ∧ Below w1.heap.size w1 w') ∧ (b 26 = true → ∃ g c w2, Below w1.heap.size w1 w2 ∧ w' = w2.setCell ⟨s, 3, none⟩ (.slice (some ⟨g, 0, none⟩) 1 c))) rfl (by kernel_rfl) rfl (by kernel_rfl) ?_ ?_ ?_
  · exact ⟨fun _ => hw1.symm, fun h => absurd h (by simp), fun h => absurd h (by simp), fun h => absurd h (by simp)⟩
  · intro b x w' i o hi ho hb hpre hdown h1 h2 h3 hW
    have ev : ∀ j, j < 123 → (fr 123 x)[j]? = some (x j) := fun j hj => by simp [fr, hj]
    rcases (by omega : i = 0 ∨ i = 1 ∨ i = 2 ∨ i = 3 ∨ i = 4 ∨ i = 5 ∨ i = 6 ∨ i = 7 ∨ i = 8 ∨ i = 9 ∨ i = 10 ∨ i = 11 ∨ i = 12 ∨ i = 13 ∨ i = 14 ∨ i = 15 ∨ i = 16 ∨ i = 17 ∨ i = 18 ∨ i = 19 ∨ i = 20 ∨ i = 21 ∨ i = 22 ∨ i = 23 ∨ i = 24 ∨ i = 25 ∨ i = 26) with rfl | rfl | rfl | rfl | rfl | rfl | rfl | rfl | rfl | rfl | rfl | rfl | rfl | rfl | rfl | rfl | rfl | rfl | rfl | rfl | rfl | rfl | rfl | rfl | rfl | rfl | rfl
    · have hoo := ho
      simp only [List.getElem?_toArray, List.getElem?_cons_zero, Option.some.injEq] at ho
      subst ho
      have s0 : x 0 = .pointer (some ⟨s, 0, none⟩) := h1 0 (by decide)
      refine rg_pure hds h1 h2 h3 hi hoo rfl rfl (hW) ?_
      show _ = Result.ok (Next.value (.pointer (some ⟨s, 0, none⟩))) _
      clear hoo hpre hdown h1 h2 h3 hW hds
      go_simp
    · have hoo := ho
      simp only [List.getElem?_toArray, List.getElem?_cons_succ, List.getElem?_cons_zero, Option.some.injEq] at ho
      subst ho
      have s0 : x 0 = .pointer (some ⟨s, 0, none⟩) := h1 0 (by decide)
      refine rg_pure hds h1 h2 h3 hi hoo rfl rfl (hW) ?_
      show _ = Result.ok (Next.value (.pointer (some ⟨s, 0, none⟩))) _
      clear hoo hpre hdown h1 h2 h3 hW hds
      go_simp
    · have hoo := ho
      simp only [List.getElem?_toArray, List.getElem?_cons_succ, List.getElem?_cons_zero, Option.some.injEq] at ho
      subst ho
      have s49 : x 49 = .pointer (some ⟨s, 0, none⟩) := h3 1 (by omega) rfl (hpre 1 (by kernel_rfl))
      refine rg_pure hds h1 h2 h3 hi hoo rfl rfl (hW) ?_
      show _ = Result.ok (Next.value (.pointer (some ⟨s, 0, none⟩))) _
      clear hoo hpre hdown h1 h2 h3 hW hds
      go_simp
    · have hoo := ho
      simp only [List.getElem?_toArray, List.getElem?_cons_succ, List.getElem?_cons_zero, Option.some.injEq] at ho
      subst ho
      have s50 : x 50 = .pointer (some ⟨s, 0, none⟩) := h3 2 (by omega) rfl (hpre 2 (by kernel_rfl))
      refine rg_pure hds h1 h2 h3 hi hoo rfl rfl (hW) ?_
      show _ = Result.ok (Next.value (.pointer (some ⟨s, 3, none⟩))) _
      clear hoo hpre hdown h1 h2 h3 hW hds
      go_simp
    · have hoo := ho
      simp only [List.getElem?_toArray, List.getElem?_cons_succ, List.getElem?_cons_zero, Option.some.injEq] at ho
      subst ho
      have s51 : x 51 = .pointer (some ⟨s, 3, none⟩) := h3 3 (by omega) rfl (hpre 3 (by kernel_rfl))
      have hb26 : b 26 = false := by cases h : b 26 with | false => rfl | true => rw [hdown 26 4 (by kernel_rfl) h] at hb; cases hb
      have hbel : Below w1.heap.size w1 w' := by
        cases h22 : b 22 with
        | false => rw [hW.1 h22]; exact Below.refl _ _
        | true => cases h23 : b 23 with
          | false => rw [(hW.2.1 h22 h23).2]; exact (Below.refl _ _).alloc (Nat.le_refl _) _
          | true => obtain ⟨_, _, _, hq⟩ := hW.2.2.1 h23 hb26; exact hq
      have hc : w'.cell? ⟨s, 3, none⟩ = some (.slice none 0 0) := cell_keep hbel (h.scell.2.2.2)
      clear hbel
      refine rg_pure hds h1 h2 h3 hi hoo rfl rfl (hW) ?_
      show _ = Result.ok (Next.value (.slice none 0 0)) _
      clear hoo hpre hdown h1 h2 h3 hW hds
      go_simp
    · have hoo := ho
      simp only [List.getElem?_toArray, List.getElem?_cons_succ, List.getElem?_cons_zero, Option.some.injEq] at ho
      subst ho
      have s2 : x 2 = .int .i64 1 := h1 2 (by decide)
      refine rg_pure hds h1 h2 h3 hi hoo rfl rfl (hW) ?_
      show _ = Result.ok (Next.value (.int .i64 1)) _
      clear hoo hpre hdown h1 h2 h3 hW hds
      go_simp
    · have hoo := ho
      simp only [List.getElem?_toArray, List.getElem?_cons_succ, List.getElem?_cons_zero, Option.some.injEq] at ho
      subst ho
      have s1 : x 1 = .int .i64 3 := h1 1 (by decide)
      refine rg_pure hds h1 h2 h3 hi hoo rfl rfl (hW) ?_
      show _ = Result.ok (Next.value (.int .i64 3)) _
      clear hoo hpre hdown h1 h2 h3 hW hds
      go_simp
    · have hoo := ho
      simp only [List.getElem?_toArray, List.getElem?_cons_succ, List.getElem?_cons_zero, Option.some.injEq] at ho
      subst ho
      have s0 : x 0 = .pointer (some ⟨s, 0, none⟩) := h1 0 (by decide)
      refine rg_pure hds h1 h2 h3 hi hoo rfl rfl (hW) ?_
      show _ = Result.ok (Next.value (.pointer (some ⟨s, 0, none⟩))) _
      clear hoo hpre hdown h1 h2 h3 hW hds
      go_simp
    · have hoo := ho
      simp only [List.getElem?_toArray, List.getElem?_cons_succ, List.getElem?_cons_zero, Option.some.injEq] at ho
      subst ho
      have s55 : x 55 = .pointer (some ⟨s, 0, none⟩) := h3 7 (by omega) rfl (hpre 7 (by kernel_rfl))
      refine rg_pure hds h1 h2 h3 hi hoo rfl rfl (hW) ?_
      show _ = Result.ok (Next.value (.pointer (some ⟨s, 0, none⟩))) _
      clear hoo hpre hdown h1 h2 h3 hW hds
      go_simp
    · have hoo := ho
      simp only [List.getElem?_toArray, List.getElem?_cons_succ, List.getElem?_cons_zero, Option.some.injEq] at ho
      subst ho
      have s56 : x 56 = .pointer (some ⟨s, 0, none⟩) := h3 8 (by omega) rfl (hpre 8 (by kernel_rfl))
      refine rg_pure hds h1 h2 h3 hi hoo rfl rfl (hW) ?_
      show _ = Result.ok (Next.value (.pointer (some ⟨s, 1, none⟩))) _
      clear hoo hpre hdown h1 h2 h3 hW hds
      go_simp
    · have hoo := ho
      simp only [List.getElem?_toArray, List.getElem?_cons_succ, List.getElem?_cons_zero, Option.some.injEq] at ho
      subst ho
      have s57 : x 57 = .pointer (some ⟨s, 1, none⟩) := h3 9 (by omega) rfl (hpre 9 (by kernel_rfl))
      have hb26 : b 26 = false := by cases h : b 26 with | false => rfl | true => rw [hdown 26 10 (by kernel_rfl) h] at hb; cases hb
      have hbel : Below w1.heap.size w1 w' := by
        cases h22 : b 22 with
        | false => rw [hW.1 h22]; exact Below.refl _ _
        | true => cases h23 : b 23 with
          | false => rw [(hW.2.1 h22 h23).2]; exact (Below.refl _ _).alloc (Nat.le_refl _) _
          | true => obtain ⟨_, _, _, hq⟩ := hW.2.2.1 h23 hb26; exact hq
      have hc : w'.cell? ⟨s, 1, none⟩ = some (.slice (some ⟨g1, 0, none⟩) 4 c1) := cell_keep hbel (h.scell.2.1)
      clear hbel
      refine rg_pure hds h1 h2 h3 hi hoo rfl rfl (hW) ?_
      show _ = Result.ok (Next.value (.slice (some ⟨g1, 0, none⟩) 4 c1)) _
      clear hoo hpre hdown h1 h2 h3 hW hds
      go_simp
    · have hoo := ho
      simp only [List.getElem?_toArray, List.getElem?_cons_succ, List.getElem?_cons_zero, Option.some.injEq] at ho
      subst ho
      have s1 : x 1 = .int .i64 3 := h1 1 (by decide)
      refine rg_pure hds h1 h2 h3 hi hoo rfl rfl (hW) ?_
      show _ = Result.ok (Next.value (.int .i64 3)) _
      clear hoo hpre hdown h1 h2 h3 hW hds
      go_simp
    · have hoo := ho
      simp only [List.getElem?_toArray, List.getElem?_cons_succ, List.getElem?_cons_zero, Option.some.injEq] at ho
      subst ho
      have s58 : x 58 = .slice (some ⟨g1, 0, none⟩) 4 c1 := h3 10 (by omega) rfl (hpre 10 (by kernel_rfl))
      have s59 : x 59 = .int .i64 3 := h3 11 (by omega) rfl (hpre 11 (by kernel_rfl))
      refine rg_pure hds h1 h2 h3 hi hoo rfl rfl (hW) ?_
      show _ = Result.ok (Next.value (.pointer (some ⟨g1, 3, none⟩))) _
      clear hoo hpre hdown h1 h2 h3 hW hds
      go_simp
    · have hoo := ho
      simp only [List.getElem?_toArray, List.getElem?_cons_succ, List.getElem?_cons_zero, Option.some.injEq] at ho
      subst ho
      have s60 : x 60 = .pointer (some ⟨g1, 3, none⟩) := h3 12 (by omega) rfl (hpre 12 (by kernel_rfl))
      have hb26 : b 26 = false := by cases h : b 26 with | false => rfl | true => rw [hdown 26 13 (by kernel_rfl) h] at hb; cases hb
      have hbel : Below w1.heap.size w1 w' := by
        cases h22 : b 22 with
        | false => rw [hW.1 h22]; exact Below.refl _ _
        | true => cases h23 : b 23 with
          | false => rw [(hW.2.1 h22 h23).2]; exact (Below.refl _ _).alloc (Nat.le_refl _) _
          | true => obtain ⟨_, _, _, hq⟩ := hW.2.2.1 h23 hb26; exact hq
      have hc : w'.cell? ⟨g1, 3, none⟩ = some (.int .i64 1) := cell_keep hbel (h.cz 3 (by omega))
      clear hbel
      refine rg_pure hds h1 h2 h3 hi hoo rfl rfl (hW) ?_
      show _ = Result.ok (Next.value (.int .i64 1)) _
      clear hoo hpre hdown h1 h2 h3 hW hds
      go_simp
    · have hoo := ho
      simp only [List.getElem?_toArray, List.getElem?_cons_succ, List.getElem?_cons_zero, Option.some.injEq] at ho
      subst ho
      have s0 : x 0 = .pointer (some ⟨s, 0, none⟩) := h1 0 (by decide)
      refine rg_pure hds h1 h2 h3 hi hoo rfl rfl (hW) ?_
      show _ = Result.ok (Next.value (.pointer (some ⟨s, 0, none⟩))) _
      clear hoo hpre hdown h1 h2 h3 hW hds
      go_simp
    · have hoo := ho
      simp only [List.getElem?_toArray, List.getElem?_cons_succ, List.getElem?_cons_zero, Option.some.injEq] at ho
      subst ho
      have s62 : x 62 = .pointer (some ⟨s, 0, none⟩) := h3 14 (by omega) rfl (hpre 14 (by kernel_rfl))
      refine rg_pure hds h1 h2 h3 hi hoo rfl rfl (hW) ?_
      show _ = Result.ok (Next.value (.pointer (some ⟨s, 0, none⟩))) _
      clear hoo hpre hdown h1 h2 h3 hW hds
      go_simp
    · have hoo := ho
      simp only [List.getElem?_toArray, List.getElem?_cons_succ, List.getElem?_cons_zero, Option.some.injEq] at ho
      subst ho
      have s63 : x 63 = .pointer (some ⟨s, 0, none⟩) := h3 15 (by omega) rfl (hpre 15 (by kernel_rfl))
      refine rg_pure hds h1 h2 h3 hi hoo rfl rfl (hW) ?_
      show _ = Result.ok (Next.value (.pointer (some ⟨s, 2, none⟩))) _
      clear hoo hpre hdown h1 h2 h3 hW hds
      go_simp
    · have hoo := ho
      simp only [List.getElem?_toArray, List.getElem?_cons_succ, List.getElem?_cons_zero, Option.some.injEq] at ho
      subst ho
      have s64 : x 64 = .pointer (some ⟨s, 2, none⟩) := h3 16 (by omega) rfl (hpre 16 (by kernel_rfl))
      have hb26 : b 26 = false := by cases h : b 26 with | false => rfl | true => rw [hdown 26 17 (by kernel_rfl) h] at hb; cases hb
      have hbel : Below w1.heap.size w1 w' := by
        cases h22 : b 22 with
        | false => rw [hW.1 h22]; exact Below.refl _ _
        | true => cases h23 : b 23 with
          | false => rw [(hW.2.1 h22 h23).2]; exact (Below.refl _ _).alloc (Nat.le_refl _) _
          | true => obtain ⟨_, _, _, hq⟩ := hW.2.2.1 h23 hb26; exact hq
      have hc : w'.cell? ⟨s, 2, none⟩ = some (.slice (some ⟨g2, 0, none⟩) 4 c2) := cell_keep hbel (h.scell.2.2.1)
      clear hbel
      refine rg_pure hds h1 h2 h3 hi hoo rfl rfl (hW) ?_
      show _ = Result.ok (Next.value (.slice (some ⟨g2, 0, none⟩) 4 c2)) _
      clear hoo hpre hdown h1 h2 h3 hW hds
      go_simp
    · have hoo := ho
      simp only [List.getElem?_toArray, List.getElem?_cons_succ, List.getElem?_cons_zero, Option.some.injEq] at ho
      subst ho
      have s1 : x 1 = .int .i64 3 := h1 1 (by decide)
      refine rg_pure hds h1 h2 h3 hi hoo rfl rfl (hW) ?_
      show _ = Result.ok (Next.value (.int .i64 3)) _
      clear hoo hpre hdown h1 h2 h3 hW hds
      go_simp
    · have hoo := ho
      simp only [List.getElem?_toArray, List.getElem?_cons_succ, List.getElem?_cons_zero, Option.some.injEq] at ho
      subst ho
      have s65 : x 65 = .slice (some ⟨g2, 0, none⟩) 4 c2 := h3 17 (by omega) rfl (hpre 17 (by kernel_rfl))
      have s66 : x 66 = .int .i64 3 := h3 18 (by omega) rfl (hpre 18 (by kernel_rfl))
      refine rg_pure hds h1 h2 h3 hi hoo rfl rfl (hW) ?_
      show _ = Result.ok (Next.value (.pointer (some ⟨g2, 3, none⟩))) _
      clear hoo hpre hdown h1 h2 h3 hW hds
      go_simp
    · have hoo := ho
      simp only [List.getElem?_toArray, List.getElem?_cons_succ, List.getElem?_cons_zero, Option.some.injEq] at ho
      subst ho
      have s67 : x 67 = .pointer (some ⟨g2, 3, none⟩) := h3 19 (by omega) rfl (hpre 19 (by kernel_rfl))
      have hb26 : b 26 = false := by cases h : b 26 with | false => rfl | true => rw [hdown 26 20 (by kernel_rfl) h] at hb; cases hb
      have hbel : Below w1.heap.size w1 w' := by
        cases h22 : b 22 with
        | false => rw [hW.1 h22]; exact Below.refl _ _
        | true => cases h23 : b 23 with
          | false => rw [(hW.2.1 h22 h23).2]; exact (Below.refl _ _).alloc (Nat.le_refl _) _
          | true => obtain ⟨_, _, _, hq⟩ := hW.2.2.1 h23 hb26; exact hq
      have hc : w'.cell? ⟨g2, 3, none⟩ = some (.int .i64 3) := cell_keep hbel (h.cl 3 (by omega))
      clear hbel
      refine rg_pure hds h1 h2 h3 hi hoo rfl rfl (hW) ?_
      show _ = Result.ok (Next.value (.int .i64 3)) _
      clear hoo hpre hdown h1 h2 h3 hW hds
      go_simp
    · have hoo := ho
      simp only [List.getElem?_toArray, List.getElem?_cons_succ, List.getElem?_cons_zero, Option.some.injEq] at ho
      subst ho
      have s53 : x 53 = .int .i64 1 := h3 5 (by omega) rfl (hpre 5 (by kernel_rfl))
      have s54 : x 54 = .int .i64 3 := h3 6 (by omega) rfl (hpre 6 (by kernel_rfl))
      have s61 : x 61 = .int .i64 1 := h3 13 (by omega) rfl (hpre 13 (by kernel_rfl))
      have s68 : x 68 = .int .i64 3 := h3 20 (by omega) rfl (hpre 20 (by kernel_rfl))
      refine rg_pure hds h1 h2 h3 hi hoo rfl rfl (hW) ?_
      show _ = Result.ok (Next.value (.agg #[.int .i64 1, .int .i64 3, .int .i64 1, .int .i64 3])) _
      clear hoo hpre hdown h1 h2 h3 hW hds
      go_simp
    · have hoo := ho
      simp only [List.getElem?_toArray, List.getElem?_cons_succ, List.getElem?_cons_zero, Option.some.injEq] at ho
      subst ho
      have s69 : x 69 = .agg #[.int .i64 1, .int .i64 3, .int .i64 1, .int .i64 3] := h3 21 (by omega) rfl (hpre 21 (by kernel_rfl))
      have hb23 : b 23 = false := by cases h : b 23 with | false => rfl | true => rw [hdown 23 22 (by kernel_rfl) h] at hb; cases hb
      have hb26 : b 26 = false := by cases h : b 26 with | false => rfl | true => rw [hdown 26 22 (by kernel_rfl) h] at hb; cases hb
      have e := hW.1 hb
      subst e
      refine rg_value (w' := w'.alloc (.cells #[.int .i64 1, .int .i64 3, .int .i64 1, .int .i64 3] 63)) (.slice (some ⟨w'.heap.size, 0, none⟩) 1 1) hds h1 h2 h3 hi rfl hoo rfl rfl ⟨fun h => bit_no (x := true) rfl h, fun _ _ => ⟨rfl, rfl⟩, fun h _ => bit_no (x := b 23) h hb23, fun h => bit_no (x := b 26) h hb26⟩ ?_
      clear hoo hpre hdown h1 h2 h3 hW hds
      go_simp
    · have hoo := ho
      simp only [List.getElem?_toArray, List.getElem?_cons_succ, List.getElem?_cons_zero, Option.some.injEq] at ho
      subst ho
      have s52 : x 52 = .slice none 0 0 := h3 4 (by omega) rfl (hpre 4 (by kernel_rfl))
      have hb26 : b 26 = false := by cases h : b 26 with | false => rfl | true => rw [hdown 26 23 (by kernel_rfl) h] at hb; cases hb
      obtain ⟨e70, ew⟩ := hW.2.1 (hpre 22 (by kernel_rfl)) hb
      subst ew
      obtain ⟨v', w2, hrun, r1, r2, _⟩ := run_append_own (P := Try.prog) (w1.alloc (.cells #[.int .i64 1, .int .i64 3, .int .i64 1, .int .i64 3] 63)) (w1.alloc (.cells #[.int .i64 1, .int .i64 3, .int .i64 1, .int .i64 3] 63)).heap.size 57 57 63 i63 (.agg #[.int .i64 0, .int .i64 0, .int .i64 0, .int .i64 0]) 4 32 Try.underlying57 hi63 hz0 hz1 hz2 rfl (by omega) (.slice none 0 0) 0 [] (World.ownsRow_nil _ _ _ _) ⟨w1.heap.size, 0, none⟩ 1 1 [.int .i64 1, .int .i64 3, .int .i64 1, .int .i64 3] rfl (new_cells4 w1 _ _ _ _ 63) (by simp [Value.oneCell']) (by unfold maxLen; omega) (by omega) (Nat.le_refl _)
      obtain ⟨g, c, rfl⟩ : ∃ g c, v' = .slice (some ⟨g, 0, none⟩) 1 c := by rcases r1.2 with ⟨_, h⟩ | ⟨g, cap, _, h, _⟩; cases h; exact ⟨g, cap, h⟩
      have hbel : Below w1.heap.size w1 w2 := ((Below.refl _ _).alloc (Nat.le_refl _) _).grown r2 (by simp) (fun k hk => by cases hk)
      refine rg_value (w' := w2) (.slice (some ⟨g, 0, none⟩) 1 c) hds h1 h2 h3 hi rfl hoo rfl rfl ⟨fun h => bit_no (x := b 22) (hpre 22 (by kernel_rfl)) h, fun _ h => bit_no (x := true) rfl h, fun _ _ => ⟨g, c, rfl, hbel⟩, fun h => bit_no (x := b 26) h hb26⟩ ?_
      clear hoo hpre hdown h1 h2 h3 hW hds
      simp [execOp, resolve, invoke, builtin, Act.eval, ev, s52, e70, hrun, Result.andThen]
    · have hoo := ho
      simp only [List.getElem?_toArray, List.getElem?_cons_succ, List.getElem?_cons_zero, Option.some.injEq] at ho
      subst ho
      have s48 : x 48 = .pointer (some ⟨s, 0, none⟩) := h3 0 (by omega) rfl (hpre 0 (by kernel_rfl))
      refine rg_pure hds h1 h2 h3 hi hoo rfl rfl (hW) ?_
      show _ = Result.ok (Next.value (.pointer (some ⟨s, 0, none⟩))) _
      clear hoo hpre hdown h1 h2 h3 hW hds
      go_simp
    · have hoo := ho
      simp only [List.getElem?_toArray, List.getElem?_cons_succ, List.getElem?_cons_zero, Option.some.injEq] at ho
      subst ho
      have s72 : x 72 = .pointer (some ⟨s, 0, none⟩) := h3 24 (by omega) rfl (hpre 24 (by kernel_rfl))
      refine rg_pure hds h1 h2 h3 hi hoo rfl rfl (hW) ?_
      show _ = Result.ok (Next.value (.pointer (some ⟨s, 3, none⟩))) _
      clear hoo hpre hdown h1 h2 h3 hW hds
      go_simp
    · have hoo := ho
      simp only [List.getElem?_toArray, List.getElem?_cons_succ, List.getElem?_cons_zero, Option.some.injEq] at ho
      subst ho
      have s73 : x 73 = .pointer (some ⟨s, 3, none⟩) := h3 25 (by omega) rfl (hpre 25 (by kernel_rfl))
      obtain ⟨g, c, e71, hbel⟩ := hW.2.2.1 (hpre 23 (by kernel_rfl)) hb
      have hA := h.mono hbel
      have hc := hA.scell.2.2.2
      have hf : w'.frozen? ⟨s, 3, none⟩ = false := by simp [World.frozen?, hA.block]
      refine rg_store (w' := w'.setCell ⟨s, 3, none⟩ (.slice (some ⟨g, 0, none⟩) 1 c)) h1 h2 h3 rfl hoo rfl rfl ⟨fun h => bit_no (x := b 22) (hdown 23 22 (by kernel_rfl) (hpre 23 (by kernel_rfl))) h, fun _ h => bit_no (x := b 23) (hpre 23 (by kernel_rfl)) h, fun _ h => bit_no (x := true) rfl h, fun _ => ⟨g, c, w', hbel, rfl⟩⟩ ?_
      clear hoo hpre hdown h1 h2 h3 hW hds hA hbel
      go_simp
  · intro b x w' hall h1 h3 hW
    obtain ⟨g, c, w2, hbel, rfl⟩ := hW.2.2.2 (hall 26 (by omega))
    have hfr : fr 123 x = #[x 0, x 1, x 2, x 3, x 4, x 5, x 6, x 7, x 8, x 9, x 10, x 11, x 12, x 13, x 14, x 15, x 16, x 17, x 18, x 19, x 20, x 21, x 22, x 23, x 24, x 25, x 26, x 27, x 28, x 29, x 30, x 31, x 32, x 33, x 34, x 35, x 36, x 37, x 38, x 39, x 40, x 41, x 42, x 43, x 44, x 45, x 46, x 47, x 48, x 49, x 50, x 51, x 52, x 53, x 54, x 55, x 56, x 57, x 58, x 59, x 60, x 61, x 62, x 63, x 64, x 65, x 66, x 67, x 68, x 69, x 70, x 71, x 72, x 73, x 74, x 75, x 76, x 77, x 78, x 79, x 80, x 81, x 82, x 83, x 84, x 85, x 86, x 87, x 88, x 89, x 90, x 91, x 92, x 93, x 94, x 95, x 96, x 97, x 98, x 99, x 100, x 101, x 102, x 103, x 104, x 105, x 106, x 107, x 108, x 109, x 110, x 111, x 112, x 113, x 114, x 115, x 116, x 117, x 118, x 119, x 120, x 121, x 122] := rfl
    have k0 : x 0 = .pointer (some ⟨s, 0, none⟩) := h1 0 (by decide)
    have k1 : x 1 = .int .i64 3 := h1 1 (by decide)
    have k2 : x 2 = .int .i64 1 := h1 2 (by decide)
    rw [k0, k1, k2] at hfr
    rw [hfr]
    clear hfr h1 h3 k0 k1 k2
    clear hW hall
    have hA := (h.mono hbel).setMade (.slice (some ⟨g, 0, none⟩) 1 c)
    have hb3 := Lib.hid hbel
    clear hbel
    generalize hw3 : w2.setCell ⟨s, 3, none⟩ (.slice (some ⟨g, 0, none⟩) 1 c) = w3 at *
    have HW3 := Lib.hid hw3; clear hw3
    subst hQ
    obtain ⟨h0, _, _, _⟩ := hA.scell
    have p1 := hA.cp 1 (by omega)
    have f1 := hA.fp 1
    go_wp2
    clear h0 p1 f1
    clear hds
    generalize hQ : (Exit.then _ _) = QQ
    obtain ⟨wq, hwq⟩ : ∃ wq, wq = (w3.setCell ⟨g0, 1, none⟩ (.int .i64 3)).drew := ⟨_, rfl⟩
    replace hA := (hA.setP 1 3 (by omega)).drew
    rw [← hwq] at hA
    have HWQ := Lib.hid hwq; clear hwq
    have hds : ∀ i, i < 44 → ∀ j, j < 44 → i ≠ j → ([81, 82, 83, 84, 85, 86, 87, 88, 89, 90, 91, 92, 93, 94, 95, 96, 97, 98, 99, 100, 101, 102, 103, 104, 105, 106, 107, 108, 109, 110, 111, 112, 113, 114, 115, 116, 117, 118, 119, 120, 121, 264, 122, 266].getD i 0 : Nat) ≠ [81, 82, 83, 84, 85, 86, 87, 88, 89, 90, 91, 92, 93, 94, 95, 96, 97, 98, 99, 100, 101, 102, 103, 104, 105, 106, 107, 108, 109, 110, 111, 112, 113, 114, 115, 116, 117, 118, 119, 120, 121, 264, 122, 266].getD j 0 := by decide
    refine wp_region_rg 123 44 (fun i => ([81, 82, 83, 84, 85, 86, 87, 88, 89, 90, 91, 92, 93, 94, 95, 96, 97, 98, 99, 100, 101, 102, 103, 104, 105, 106, 107, 108, 109, 110, 111, 112, 113, 114, 115, 116, 117, 118, 119, 120, 121, 264, 122, 266].getD i 0 : Nat)) (fun i => ([0, 1, 2, 3, 4, 5, 6, 7, 8, 9, 10, 11, 12, 13, 14, 15, 16, 17, 18, 19, 20, 21, 22, 23, 24, 25, 26, 27, 28, 29, 30, 31, 32, 33, 34, 35, 36, 37, 38, 39, 40, 42] : List Nat).contains i) (fun i => ([.pointer (some ⟨s, 0, none⟩), .pointer (some ⟨s, 0, none⟩), .pointer (some ⟨s, 1, none⟩), .slice (some ⟨g1, 0, none⟩) 4 c1, .int .i64 3, .pointer (some ⟨s, 0, none⟩), .pointer (some ⟨s, 0, none⟩), .pointer (some ⟨s, 2, none⟩), .slice (some ⟨g2, 0, none⟩) 4 c2, .int .i64 3, .pointer (some ⟨s, 0, none⟩), .pointer (some ⟨s, 0, none⟩), .pointer (some ⟨s, 1, none⟩), .slice (some ⟨g1, 0, none⟩) 4 c1, .int .i64 3, .pointer (some ⟨g1, 3, none⟩), .int .i64 1, .pointer (some ⟨s, 0, none⟩), .pointer (some ⟨s, 0, none⟩), .pointer (some ⟨s, 1, none⟩), .slice (some ⟨g1, 0, none⟩) 4 c1, .int .i64 1, .pointer (some ⟨g1, 1, none⟩), .int .i64 1, .int .i64 2, .pointer (some ⟨s, 0, none⟩), .pointer (some ⟨s, 0, none⟩), .pointer (some ⟨s, 2, none⟩), .slice (some ⟨g2, 0, none⟩) 4 c2, .int .i64 3, .pointer (some ⟨g2, 3, none⟩), .int .i64 3, .pointer (some ⟨s, 0, none⟩), .pointer (some ⟨s, 0, none⟩), .pointer (some ⟨s, 2, none⟩), .slice (some ⟨g2, 0, none⟩) 4 c2, .int .i64 1, .pointer (some ⟨g2, 1, none⟩), .int .i64 1, .int .i64 1, .pointer (some ⟨g1, 3, none⟩), undef, .pointer (some ⟨g2, 3, none⟩), undef] : List Value).getD i undef) (fun b x w' => (b 41 = false → w' = wq) ∧ (b 41 = true → b 43 = false → w' = wq.setCell ⟨g1, 3, none⟩ (.int .i64 2)) ∧ (b 43 = true → w' = (wq.setCell ⟨g1, 3, none⟩ (.int .i64 2)).setCell ⟨g2, 3, none⟩ (.int .i64 1))) rfl (by kernel_rfl) rfl (by kernel_rfl) ?_ ?_ ?_
    · exact ⟨fun _ => HWQ.out.symm, fun h => absurd h (by simp), fun h => absurd h (by simp)⟩
    · intro b x w' i o hi ho hb hpre hdown h1 h2 h3 hW
      have ev : ∀ j, j < 123 → (fr 123 x)[j]? = some (x j) := fun j hj => by simp [fr, hj]
      rcases (by omega : i = 0 ∨ i = 1 ∨ i = 2 ∨ i = 3 ∨ i = 4 ∨ i = 5 ∨ i = 6 ∨ i = 7 ∨ i = 8 ∨ i = 9 ∨ i = 10 ∨ i = 11 ∨ i = 12 ∨ i = 13 ∨ i = 14 ∨ i = 15 ∨ i = 16 ∨ i = 17 ∨ i = 18 ∨ i = 19 ∨ i = 20 ∨ i = 21 ∨ i = 22 ∨ i = 23 ∨ i = 24 ∨ i = 25 ∨ i = 26 ∨ i = 27 ∨ i = 28 ∨ i = 29 ∨ i = 30 ∨ i = 31 ∨ i = 32 ∨ i = 33 ∨ i = 34 ∨ i = 35 ∨ i = 36 ∨ i = 37 ∨ i = 38 ∨ i = 39 ∨ i = 40 ∨ i = 41 ∨ i = 42 ∨ i = 43) with rfl | rfl | rfl | rfl | rfl | rfl | rfl | rfl | rfl | rfl | rfl | rfl | rfl | rfl | rfl | rfl | rfl | rfl | rfl | rfl | rfl | rfl | rfl | rfl | rfl | rfl | rfl | rfl | rfl | rfl | rfl | rfl | rfl | rfl | rfl | rfl | rfl | rfl | rfl | rfl | rfl | rfl | rfl | rfl
      · have hoo := ho
        simp only [List.getElem?_toArray, List.getElem?_cons_zero, Option.some.injEq] at ho
        subst ho
        have s0 : x 0 = .pointer (some ⟨s, 0, none⟩) := h1 0 (by decide)
        refine rg_pure hds h1 h2 h3 hi hoo rfl rfl (hW) ?_
        show _ = Result.ok (Next.value (.pointer (some ⟨s, 0, none⟩))) _
        clear hoo hpre hdown h1 h2 h3 hW hds
        go_simp
      · have hoo := ho
        simp only [List.getElem?_toArray, List.getElem?_cons_succ, List.getElem?_cons_zero, Option.some.injEq] at ho
        subst ho
        have s81 : x 81 = .pointer (some ⟨s, 0, none⟩) := h3 0 (by omega) rfl (hpre 0 (by kernel_rfl))
        refine rg_pure hds h1 h2 h3 hi hoo rfl rfl (hW) ?_
        show _ = Result.ok (Next.value (.pointer (some ⟨s, 0, none⟩))) _
        clear hoo hpre hdown h1 h2 h3 hW hds
        go_simp
      · have hoo := ho
        simp only [List.getElem?_toArray, List.getElem?_cons_succ, List.getElem?_cons_zero, Option.some.injEq] at ho
        subst ho
        have s82 : x 82 = .pointer (some ⟨s, 0, none⟩) := h3 1 (by omega) rfl (hpre 1 (by kernel_rfl))
        refine rg_pure hds h1 h2 h3 hi hoo rfl rfl (hW) ?_
        show _ = Result.ok (Next.value (.pointer (some ⟨s, 1, none⟩))) _
        clear hoo hpre hdown h1 h2 h3 hW hds
        go_simp
      · have hoo := ho
        simp only [List.getElem?_toArray, List.getElem?_cons_succ, List.getElem?_cons_zero, Option.some.injEq] at ho
        subst ho
        have s83 : x 83 = .pointer (some ⟨s, 1, none⟩) := h3 2 (by omega) rfl (hpre 2 (by kernel_rfl))
        have hb41 : b 41 = false := by cases h : b 41 with | false => rfl | true => rw [hdown 41 3 (by kernel_rfl) h] at hb; cases hb
        have e := hW.1 hb41
        subst e
        have hc : w'.cell? ⟨s, 1, none⟩ = some (.slice (some ⟨g1, 0, none⟩) 4 c1) := hA.scell.2.1
        refine rg_pure hds h1 h2 h3 hi hoo rfl rfl (hW) ?_
        show _ = Result.ok (Next.value (.slice (some ⟨g1, 0, none⟩) 4 c1)) _
        clear hoo hpre hdown h1 h2 h3 hW hds
        go_simp
      · have hoo := ho
        simp only [List.getElem?_toArray, List.getElem?_cons_succ, List.getElem?_cons_zero, Option.some.injEq] at ho
        subst ho
        have s1 : x 1 = .int .i64 3 := h1 1 (by decide)
        refine rg_pure hds h1 h2 h3 hi hoo rfl rfl (hW) ?_
        show _ = Result.ok (Next.value (.int .i64 3)) _
        clear hoo hpre hdown h1 h2 h3 hW hds
        go_simp
      · have hoo := ho
        simp only [List.getElem?_toArray, List.getElem?_cons_succ, List.getElem?_cons_zero, Option.some.injEq] at ho
        subst ho
        have s0 : x 0 = .pointer (some ⟨s, 0, none⟩) := h1 0 (by decide)
        refine rg_pure hds h1 h2 h3 hi hoo rfl rfl (hW) ?_
        show _ = Result.ok (Next.value (.pointer (some ⟨s, 0, none⟩))) _
        clear hoo hpre hdown h1 h2 h3 hW hds
        go_simp
      · have hoo := ho
        simp only [List.getElem?_toArray, List.getElem?_cons_succ, List.getElem?_cons_zero, Option.some.injEq] at ho
        subst ho
        have s86 : x 86 = .pointer (some ⟨s, 0, none⟩) := h3 5 (by omega) rfl (hpre 5 (by kernel_rfl))
        refine rg_pure hds h1 h2 h3 hi hoo rfl rfl (hW) ?_
        show _ = Result.ok (Next.value (.pointer (some ⟨s, 0, none⟩))) _
        clear hoo hpre hdown h1 h2 h3 hW hds
        go_simp
      · have hoo := ho
        simp only [List.getElem?_toArray, List.getElem?_cons_succ, List.getElem?_cons_zero, Option.some.injEq] at ho
        subst ho
        have s87 : x 87 = .pointer (some ⟨s, 0, none⟩) := h3 6 (by omega) rfl (hpre 6 (by kernel_rfl))
        refine rg_pure hds h1 h2 h3 hi hoo rfl rfl (hW) ?_
        show _ = Result.ok (Next.value (.pointer (some ⟨s, 2, none⟩))) _
        clear hoo hpre hdown h1 h2 h3 hW hds
        go_simp
      · have hoo := ho
        simp only [List.getElem?_toArray, List.getElem?_cons_succ, List.getElem?_cons_zero, Option.some.injEq] at ho
        subst ho
        have s88 : x 88 = .pointer (some ⟨s, 2, none⟩) := h3 7 (by omega) rfl (hpre 7 (by kernel_rfl))
        have hb41 : b 41 = false := by cases h : b 41 with | false => rfl | true => rw [hdown 41 8 (by kernel_rfl) h] at hb; cases hb
        have e := hW.1 hb41
        subst e
        have hc : w'.cell? ⟨s, 2, none⟩ = some (.slice (some ⟨g2, 0, none⟩) 4 c2) := hA.scell.2.2.1
        refine rg_pure hds h1 h2 h3 hi hoo rfl rfl (hW) ?_
        show _ = Result.ok (Next.value (.slice (some ⟨g2, 0, none⟩) 4 c2)) _
        clear hoo hpre hdown h1 h2 h3 hW hds
        go_simp
      · have hoo := ho
        simp only [List.getElem?_toArray, List.getElem?_cons_succ, List.getElem?_cons_zero, Option.some.injEq] at ho
        subst ho
        have s1 : x 1 = .int .i64 3 := h1 1 (by decide)
        refine rg_pure hds h1 h2 h3 hi hoo rfl rfl (hW) ?_
        show _ = Result.ok (Next.value (.int .i64 3)) _
        clear hoo hpre hdown h1 h2 h3 hW hds
        go_simp
      · have hoo := ho
        simp only [List.getElem?_toArray, List.getElem?_cons_succ, List.getElem?_cons_zero, Option.some.injEq] at ho
        subst ho
        have s0 : x 0 = .pointer (some ⟨s, 0, none⟩) := h1 0 (by decide)
        refine rg_pure hds h1 h2 h3 hi hoo rfl rfl (hW) ?_
        show _ = Result.ok (Next.value (.pointer (some ⟨s, 0, none⟩))) _
        clear hoo hpre hdown h1 h2 h3 hW hds
        go_simp
      · have hoo := ho
        simp only [List.getElem?_toArray, List.getElem?_cons_succ, List.getElem?_cons_zero, Option.some.injEq] at ho
        subst ho
        have s91 : x 91 = .pointer (some ⟨s, 0, none⟩) := h3 10 (by omega) rfl (hpre 10 (by kernel_rfl))
        refine rg_pure hds h1 h2 h3 hi hoo rfl rfl (hW) ?_
        show _ = Result.ok (Next.value (.pointer (some ⟨s, 0, none⟩))) _
        clear hoo hpre hdown h1 h2 h3 hW hds
        go_simp
      · have hoo := ho
        simp only [List.getElem?_toArray, List.getElem?_cons_succ, List.getElem?_cons_zero, Option.some.injEq] at ho
        subst ho
        have s92 : x 92 = .pointer (some ⟨s, 0, none⟩) := h3 11 (by omega) rfl (hpre 11 (by kernel_rfl))
        refine rg_pure hds h1 h2 h3 hi hoo rfl rfl (hW) ?_
        show _ = Result.ok (Next.value (.pointer (some ⟨s, 1, none⟩))) _
        clear hoo hpre hdown h1 h2 h3 hW hds
        go_simp
      · have hoo := ho
        simp only [List.getElem?_toArray, List.getElem?_cons_succ, List.getElem?_cons_zero, Option.some.injEq] at ho
        subst ho
        have s93 : x 93 = .pointer (some ⟨s, 1, none⟩) := h3 12 (by omega) rfl (hpre 12 (by kernel_rfl))
        have hb41 : b 41 = false := by cases h : b 41 with | false => rfl | true => rw [hdown 41 13 (by kernel_rfl) h] at hb; cases hb
        have e := hW.1 hb41
        subst e
        have hc : w'.cell? ⟨s, 1, none⟩ = some (.slice (some ⟨g1, 0, none⟩) 4 c1) := hA.scell.2.1
        refine rg_pure hds h1 h2 h3 hi hoo rfl rfl (hW) ?_
        show _ = Result.ok (Next.value (.slice (some ⟨g1, 0, none⟩) 4 c1)) _
        clear hoo hpre hdown h1 h2 h3 hW hds
        go_simp
      · have hoo := ho
        simp only [List.getElem?_toArray, List.getElem?_cons_succ, List.getElem?_cons_zero, Option.some.injEq] at ho
        subst ho
        have s1 : x 1 = .int .i64 3 := h1 1 (by decide)
        refine rg_pure hds h1 h2 h3 hi hoo rfl rfl (hW) ?_
        show _ = Result.ok (Next.value (.int .i64 3)) _
        clear hoo hpre hdown h1 h2 h3 hW hds
        go_simp
      · have hoo := ho
        simp only [List.getElem?_toArray, List.getElem?_cons_succ, List.getElem?_cons_zero, Option.some.injEq] at ho
        subst ho
        have s94 : x 94 = .slice (some ⟨g1, 0, none⟩) 4 c1 := h3 13 (by omega) rfl (hpre 13 (by kernel_rfl))
        have s95 : x 95 = .int .i64 3 := h3 14 (by omega) rfl (hpre 14 (by kernel_rfl))
        refine rg_pure hds h1 h2 h3 hi hoo rfl rfl (hW) ?_
        show _ = Result.ok (Next.value (.pointer (some ⟨g1, 3, none⟩))) _
        clear hoo hpre hdown h1 h2 h3 hW hds
        go_simp
      · have hoo := ho
        simp only [List.getElem?_toArray, List.getElem?_cons_succ, List.getElem?_cons_zero, Option.some.injEq] at ho
        subst ho
        have s96 : x 96 = .pointer (some ⟨g1, 3, none⟩) := h3 15 (by omega) rfl (hpre 15 (by kernel_rfl))
        have hb41 : b 41 = false := by cases h : b 41 with | false => rfl | true => rw [hdown 41 16 (by kernel_rfl) h] at hb; cases hb
        have e := hW.1 hb41
        subst e
        have hc : w'.cell? ⟨g1, 3, none⟩ = some (.int .i64 1) := hA.cz 3 (by omega)
        refine rg_pure hds h1 h2 h3 hi hoo rfl rfl (hW) ?_
        show _ = Result.ok (Next.value (.int .i64 1)) _
        clear hoo hpre hdown h1 h2 h3 hW hds
        go_simp
      · have hoo := ho
        simp only [List.getElem?_toArray, List.getElem?_cons_succ, List.getElem?_cons_zero, Option.some.injEq] at ho
        subst ho
        have s0 : x 0 = .pointer (some ⟨s, 0, none⟩) := h1 0 (by decide)
        refine rg_pure hds h1 h2 h3 hi hoo rfl rfl (hW) ?_
        show _ = Result.ok (Next.value (.pointer (some ⟨s, 0, none⟩))) _
        clear hoo hpre hdown h1 h2 h3 hW hds
        go_simp
      · have hoo := ho
        simp only [List.getElem?_toArray, List.getElem?_cons_succ, List.getElem?_cons_zero, Option.some.injEq] at ho
        subst ho
        have s98 : x 98 = .pointer (some ⟨s, 0, none⟩) := h3 17 (by omega) rfl (hpre 17 (by kernel_rfl))
        refine rg_pure hds h1 h2 h3 hi hoo rfl rfl (hW) ?_
        show _ = Result.ok (Next.value (.pointer (some ⟨s, 0, none⟩))) _
        clear hoo hpre hdown h1 h2 h3 hW hds
        go_simp
      · have hoo := ho
        simp only [List.getElem?_toArray, List.getElem?_cons_succ, List.getElem?_cons_zero, Option.some.injEq] at ho
        subst ho
        have s99 : x 99 = .pointer (some ⟨s, 0, none⟩) := h3 18 (by omega) rfl (hpre 18 (by kernel_rfl))
        refine rg_pure hds h1 h2 h3 hi hoo rfl rfl (hW) ?_
        show _ = Result.ok (Next.value (.pointer (some ⟨s, 1, none⟩))) _
        clear hoo hpre hdown h1 h2 h3 hW hds
        go_simp
      · have hoo := ho
        simp only [List.getElem?_toArray, List.getElem?_cons_succ, List.getElem?_cons_zero, Option.some.injEq] at ho
        subst ho
        have s100 : x 100 = .pointer (some ⟨s, 1, none⟩) := h3 19 (by omega) rfl (hpre 19 (by kernel_rfl))
        have hb41 : b 41 = false := by cases h : b 41 with | false => rfl | true => rw [hdown 41 20 (by kernel_rfl) h] at hb; cases hb
        have e := hW.1 hb41
        subst e
        have hc : w'.cell? ⟨s, 1, none⟩ = some (.slice (some ⟨g1, 0, none⟩) 4 c1) := hA.scell.2.1
        refine rg_pure hds h1 h2 h3 hi hoo rfl rfl (hW) ?_
        show _ = Result.ok (Next.value (.slice (some ⟨g1, 0, none⟩) 4 c1)) _
        clear hoo hpre hdown h1 h2 h3 hW hds
        go_simp
      · have hoo := ho
        simp only [List.getElem?_toArray, List.getElem?_cons_succ, List.getElem?_cons_zero, Option.some.injEq] at ho
        subst ho
        have s2 : x 2 = .int .i64 1 := h1 2 (by decide)
        refine rg_pure hds h1 h2 h3 hi hoo rfl rfl (hW) ?_
        show _ = Result.ok (Next.value (.int .i64 1)) _
        clear hoo hpre hdown h1 h2 h3 hW hds
        go_simp
      · have hoo := ho
        simp only [List.getElem?_toArray, List.getElem?_cons_succ, List.getElem?_cons_zero, Option.some.injEq] at ho
        subst ho
        have s101 : x 101 = .slice (some ⟨g1, 0, none⟩) 4 c1 := h3 20 (by omega) rfl (hpre 20 (by kernel_rfl))
        have s102 : x 102 = .int .i64 1 := h3 21 (by omega) rfl (hpre 21 (by kernel_rfl))
        refine rg_pure hds h1 h2 h3 hi hoo rfl rfl (hW) ?_
        show _ = Result.ok (Next.value (.pointer (some ⟨g1, 1, none⟩))) _
        clear hoo hpre hdown h1 h2 h3 hW hds
        go_simp
      · have hoo := ho
        simp only [List.getElem?_toArray, List.getElem?_cons_succ, List.getElem?_cons_zero, Option.some.injEq] at ho
        subst ho
        have s103 : x 103 = .pointer (some ⟨g1, 1, none⟩) := h3 22 (by omega) rfl (hpre 22 (by kernel_rfl))
        have hb41 : b 41 = false := by cases h : b 41 with | false => rfl | true => rw [hdown 41 23 (by kernel_rfl) h] at hb; cases hb
        have e := hW.1 hb41
        subst e
        have hc : w'.cell? ⟨g1, 1, none⟩ = some (.int .i64 1) := hA.cz 1 (by omega)
        refine rg_pure hds h1 h2 h3 hi hoo rfl rfl (hW) ?_
        show _ = Result.ok (Next.value (.int .i64 1)) _
        clear hoo hpre hdown h1 h2 h3 hW hds
        go_simp
      · have hoo := ho
        simp only [List.getElem?_toArray, List.getElem?_cons_succ, List.getElem?_cons_zero, Option.some.injEq] at ho
        subst ho
        have s97 : x 97 = .int .i64 1 := h3 16 (by omega) rfl (hpre 16 (by kernel_rfl))
        have s104 : x 104 = .int .i64 1 := h3 23 (by omega) rfl (hpre 23 (by kernel_rfl))
        refine rg_pure hds h1 h2 h3 hi hoo rfl rfl (hW) ?_
        show _ = Result.ok (Next.value (.int .i64 2)) _
        clear hoo hpre hdown h1 h2 h3 hW hds
        go_simp
      · have hoo := ho
        simp only [List.getElem?_toArray, List.getElem?_cons_succ, List.getElem?_cons_zero, Option.some.injEq] at ho
        subst ho
        have s0 : x 0 = .pointer (some ⟨s, 0, none⟩) := h1 0 (by decide)
        refine rg_pure hds h1 h2 h3 hi hoo rfl rfl (hW) ?_
        show _ = Result.ok (Next.value (.pointer (some ⟨s, 0, none⟩))) _
        clear hoo hpre hdown h1 h2 h3 hW hds
        go_simp
      · have hoo := ho
        simp only [List.getElem?_toArray, List.getElem?_cons_succ, List.getElem?_cons_zero, Option.some.injEq] at ho
        subst ho
        have s106 : x 106 = .pointer (some ⟨s, 0, none⟩) := h3 25 (by omega) rfl (hpre 25 (by kernel_rfl))
        refine rg_pure hds h1 h2 h3 hi hoo rfl rfl (hW) ?_
        show _ = Result.ok (Next.value (.pointer (some ⟨s, 0, none⟩))) _
        clear hoo hpre hdown h1 h2 h3 hW hds
        go_simp
      · have hoo := ho
        simp only [List.getElem?_toArray, List.getElem?_cons_succ, List.getElem?_cons_zero, Option.some.injEq] at ho
        subst ho
        have s107 : x 107 = .pointer (some ⟨s, 0, none⟩) := h3 26 (by omega) rfl (hpre 26 (by kernel_rfl))
        refine rg_pure hds h1 h2 h3 hi hoo rfl rfl (hW) ?_
        show _ = Result.ok (Next.value (.pointer (some ⟨s, 2, none⟩))) _
        clear hoo hpre hdown h1 h2 h3 hW hds
        go_simp
      · have hoo := ho
        simp only [List.getElem?_toArray, List.getElem?_cons_succ, List.getElem?_cons_zero, Option.some.injEq] at ho
        subst ho
        have s108 : x 108 = .pointer (some ⟨s, 2, none⟩) := h3 27 (by omega) rfl (hpre 27 (by kernel_rfl))
        have hb41 : b 41 = false := by cases h : b 41 with | false => rfl | true => rw [hdown 41 28 (by kernel_rfl) h] at hb; cases hb
        have e := hW.1 hb41
        subst e
        have hc : w'.cell? ⟨s, 2, none⟩ = some (.slice (some ⟨g2, 0, none⟩) 4 c2) := hA.scell.2.2.1
        refine rg_pure hds h1 h2 h3 hi hoo rfl rfl (hW) ?_
        show _ = Result.ok (Next.value (.slice (some ⟨g2, 0, none⟩) 4 c2)) _
        clear hoo hpre hdown h1 h2 h3 hW hds
        go_simp
      · have hoo := ho
        simp only [List.getElem?_toArray, List.getElem?_cons_succ, List.getElem?_cons_zero, Option.some.injEq] at ho
        subst ho
        have s1 : x 1 = .int .i64 3 := h1 1 (by decide)
        refine rg_pure hds h1 h2 h3 hi hoo rfl rfl (hW) ?_
        show _ = Result.ok (Next.value (.int .i64 3)) _
        clear hoo hpre hdown h1 h2 h3 hW hds
        go_simp
      · have hoo := ho
        simp only [List.getElem?_toArray, List.getElem?_cons_succ, List.getElem?_cons_zero, Option.some.injEq] at ho
        subst ho
        have s109 : x 109 = .slice (some ⟨g2, 0, none⟩) 4 c2 := h3 28 (by omega) rfl (hpre 28 (by kernel_rfl))
        have s110 : x 110 = .int .i64 3 := h3 29 (by omega) rfl (hpre 29 (by kernel_rfl))
        refine rg_pure hds h1 h2 h3 hi hoo rfl rfl (hW) ?_
        show _ = Result.ok (Next.value (.pointer (some ⟨g2, 3, none⟩))) _
        clear hoo hpre hdown h1 h2 h3 hW hds
        go_simp
      · have hoo := ho
        simp only [List.getElem?_toArray, List.getElem?_cons_succ, List.getElem?_cons_zero, Option.some.injEq] at ho
        subst ho
        have s111 : x 111 = .pointer (some ⟨g2, 3, none⟩) := h3 30 (by omega) rfl (hpre 30 (by kernel_rfl))
        have hb41 : b 41 = false := by cases h : b 41 with | false => rfl | true => rw [hdown 41 31 (by kernel_rfl) h] at hb; cases hb
        have e := hW.1 hb41
        subst e
        have hc : w'.cell? ⟨g2, 3, none⟩ = some (.int .i64 3) := hA.cl 3 (by omega)
        refine rg_pure hds h1 h2 h3 hi hoo rfl rfl (hW) ?_
        show _ = Result.ok (Next.value (.int .i64 3)) _
        clear hoo hpre hdown h1 h2 h3 hW hds
        go_simp
      · have hoo := ho
        simp only [List.getElem?_toArray, List.getElem?_cons_succ, List.getElem?_cons_zero, Option.some.injEq] at ho
        subst ho
        have s0 : x 0 = .pointer (some ⟨s, 0, none⟩) := h1 0 (by decide)
        refine rg_pure hds h1 h2 h3 hi hoo rfl rfl (hW) ?_
        show _ = Result.ok (Next.value (.pointer (some ⟨s, 0, none⟩))) _
        clear hoo hpre hdown h1 h2 h3 hW hds
        go_simp
      · have hoo := ho
        simp only [List.getElem?_toArray, List.getElem?_cons_succ, List.getElem?_cons_zero, Option.some.injEq] at ho
        subst ho
        have s113 : x 113 = .pointer (some ⟨s, 0, none⟩) := h3 32 (by omega) rfl (hpre 32 (by kernel_rfl))
        refine rg_pure hds h1 h2 h3 hi hoo rfl rfl (hW) ?_
        show _ = Result.ok (Next.value (.pointer (some ⟨s, 0, none⟩))) _
        clear hoo hpre hdown h1 h2 h3 hW hds
        go_simp
      · have hoo := ho
        simp only [List.getElem?_toArray, List.getElem?_cons_succ, List.getElem?_cons_zero, Option.some.injEq] at ho
        subst ho
        have s114 : x 114 = .pointer (some ⟨s, 0, none⟩) := h3 33 (by omega) rfl (hpre 33 (by kernel_rfl))
        refine rg_pure hds h1 h2 h3 hi hoo rfl rfl (hW) ?_
        show _ = Result.ok (Next.value (.pointer (some ⟨s, 2, none⟩))) _
        clear hoo hpre hdown h1 h2 h3 hW hds
        go_simp
      · have hoo := ho
        simp only [List.getElem?_toArray, List.getElem?_cons_succ, List.getElem?_cons_zero, Option.some.injEq] at ho
        subst ho
        have s115 : x 115 = .pointer (some ⟨s, 2, none⟩) := h3 34 (by omega) rfl (hpre 34 (by kernel_rfl))
        have hb41 : b 41 = false := by cases h : b 41 with | false => rfl | true => rw [hdown 41 35 (by kernel_rfl) h] at hb; cases hb
        have e := hW.1 hb41
        subst e
        have hc : w'.cell? ⟨s, 2, none⟩ = some (.slice (some ⟨g2, 0, none⟩) 4 c2) := hA.scell.2.2.1
        refine rg_pure hds h1 h2 h3 hi hoo rfl rfl (hW) ?_
        show _ = Result.ok (Next.value (.slice (some ⟨g2, 0, none⟩) 4 c2)) _
        clear hoo hpre hdown h1 h2 h3 hW hds
        go_simp
      · have hoo := ho
        simp only [List.getElem?_toArray, List.getElem?_cons_succ, List.getElem?_cons_zero, Option.some.injEq] at ho
        subst ho
        have s2 : x 2 = .int .i64 1 := h1 2 (by decide)
        refine rg_pure hds h1 h2 h3 hi hoo rfl rfl (hW) ?_
        show _ = Result.ok (Next.value (.int .i64 1)) _
        clear hoo hpre hdown h1 h2 h3 hW hds
        go_simp
      · have hoo := ho
        simp only [List.getElem?_toArray, List.getElem?_cons_succ, List.getElem?_cons_zero, Option.some.injEq] at ho
        subst ho
        have s116 : x 116 = .slice (some ⟨g2, 0, none⟩) 4 c2 := h3 35 (by omega) rfl (hpre 35 (by kernel_rfl))
        have s117 : x 117 = .int .i64 1 := h3 36 (by omega) rfl (hpre 36 (by kernel_rfl))
        refine rg_pure hds h1 h2 h3 hi hoo rfl rfl (hW) ?_
        show _ = Result.ok (Next.value (.pointer (some ⟨g2, 1, none⟩))) _
        clear hoo hpre hdown h1 h2 h3 hW hds
        go_simp
      · have hoo := ho
        simp only [List.getElem?_toArray, List.getElem?_cons_succ, List.getElem?_cons_zero, Option.some.injEq] at ho
        subst ho
        have s118 : x 118 = .pointer (some ⟨g2, 1, none⟩) := h3 37 (by omega) rfl (hpre 37 (by kernel_rfl))
        have hb41 : b 41 = false := by cases h : b 41 with | false => rfl | true => rw [hdown 41 38 (by kernel_rfl) h] at hb; cases hb
        have e := hW.1 hb41
        subst e
        have hc : w'.cell? ⟨g2, 1, none⟩ = some (.int .i64 1) := hA.cl 1 (by omega)
        refine rg_pure hds h1 h2 h3 hi hoo rfl rfl (hW) ?_
        show _ = Result.ok (Next.value (.int .i64 1)) _
        clear hoo hpre hdown h1 h2 h3 hW hds
        go_simp
      · have hoo := ho
        simp only [List.getElem?_toArray, List.getElem?_cons_succ, List.getElem?_cons_zero, Option.some.injEq] at ho
        subst ho
        have s112 : x 112 = .int .i64 3 := h3 31 (by omega) rfl (hpre 31 (by kernel_rfl))
        have s119 : x 119 = .int .i64 1 := h3 38 (by omega) rfl (hpre 38 (by kernel_rfl))
        refine rg_pure hds h1 h2 h3 hi hoo rfl rfl (hW) ?_
        show _ = Result.ok (Next.value (.int .i64 1)) _
        clear hoo hpre hdown h1 h2 h3 hW hds
        go_simp
      · have hoo := ho
        simp only [List.getElem?_toArray, List.getElem?_cons_succ, List.getElem?_cons_zero, Option.some.injEq] at ho
        subst ho
        have s84 : x 84 = .slice (some ⟨g1, 0, none⟩) 4 c1 := h3 3 (by omega) rfl (hpre 3 (by kernel_rfl))
        have s85 : x 85 = .int .i64 3 := h3 4 (by omega) rfl (hpre 4 (by kernel_rfl))
        refine rg_pure hds h1 h2 h3 hi hoo rfl rfl (hW) ?_
        show _ = Result.ok (Next.value (.pointer (some ⟨g1, 3, none⟩))) _
        clear hoo hpre hdown h1 h2 h3 hW hds
        go_simp
      · have hoo := ho
        simp only [List.getElem?_toArray, List.getElem?_cons_succ, List.getElem?_cons_zero, Option.some.injEq] at ho
        subst ho
        have s121 : x 121 = .pointer (some ⟨g1, 3, none⟩) := h3 40 (by omega) rfl (hpre 40 (by kernel_rfl))
        have s105 : x 105 = .int .i64 2 := h3 24 (by omega) rfl (hpre 24 (by kernel_rfl))
        have hb43 : b 43 = false := by cases h : b 43 with | false => rfl | true => rw [hdown 43 41 (by kernel_rfl) h] at hb; cases hb
        have e := hW.1 hb
        subst e
        have hc := hA.cz 3 (by omega)
        have hf := hA.fz 3
        refine rg_store (w' := w'.setCell ⟨g1, 3, none⟩ (.int .i64 2)) h1 h2 h3 rfl hoo rfl rfl ⟨fun h => bit_no (x := true) rfl h, fun _ _ => rfl, fun h => bit_no (x := b 43) h hb43⟩ ?_
        clear hoo hpre hdown h1 h2 h3 hW hds hA
        go_simp
      · have hoo := ho
        simp only [List.getElem?_toArray, List.getElem?_cons_succ, List.getElem?_cons_zero, Option.some.injEq] at ho
        subst ho
        have s89 : x 89 = .slice (some ⟨g2, 0, none⟩) 4 c2 := h3 8 (by omega) rfl (hpre 8 (by kernel_rfl))
        have s90 : x 90 = .int .i64 3 := h3 9 (by omega) rfl (hpre 9 (by kernel_rfl))
        refine rg_pure hds h1 h2 h3 hi hoo rfl rfl (hW) ?_
        show _ = Result.ok (Next.value (.pointer (some ⟨g2, 3, none⟩))) _
        clear hoo hpre hdown h1 h2 h3 hW hds
        go_simp
      · have hoo := ho
        simp only [List.getElem?_toArray, List.getElem?_cons_succ, List.getElem?_cons_zero, Option.some.injEq] at ho
        subst ho
        have s122 : x 122 = .pointer (some ⟨g2, 3, none⟩) := h3 42 (by omega) rfl (hpre 42 (by kernel_rfl))
        have s120 : x 120 = .int .i64 1 := h3 39 (by omega) rfl (hpre 39 (by kernel_rfl))
        have e := hW.2.1 (hpre 41 (by kernel_rfl)) hb
        subst e
        have hA' := hA.setZ 3 2 (by omega)
        have hc := hA'.cl 3 (by omega)
        have hf := hA'.fl 3
        refine rg_store (w' := (wq.setCell ⟨g1, 3, none⟩ (.int .i64 2)).setCell ⟨g2, 3, none⟩ (.int .i64 1)) h1 h2 h3 rfl hoo rfl rfl ⟨fun h => bit_no (x := b 41) (hpre 41 (by kernel_rfl)) h, fun _ h => bit_no (x := true) rfl h, fun _ => rfl⟩ ?_
        clear hoo hpre hdown h1 h2 h3 hW hds hA hA'
        go_simp
    · intro b x w' hall h1 h3 hW
      have e := hW.2.2 (hall 43 (by omega))
      subst e
      have hfr : fr 123 x = #[x 0, x 1, x 2, x 3, x 4, x 5, x 6, x 7, x 8, x 9, x 10, x 11, x 12, x 13, x 14, x 15, x 16, x 17, x 18, x 19, x 20, x 21, x 22, x 23, x 24, x 25, x 26, x 27, x 28, x 29, x 30, x 31, x 32, x 33, x 34, x 35, x 36, x 37, x 38, x 39, x 40, x 41, x 42, x 43, x 44, x 45, x 46, x 47, x 48, x 49, x 50, x 51, x 52, x 53, x 54, x 55, x 56, x 57, x 58, x 59, x 60, x 61, x 62, x 63, x 64, x 65, x 66, x 67, x 68, x 69, x 70, x 71, x 72, x 73, x 74, x 75, x 76, x 77, x 78, x 79, x 80, x 81, x 82, x 83, x 84, x 85, x 86, x 87, x 88, x 89, x 90, x 91, x 92, x 93, x 94, x 95, x 96, x 97, x 98, x 99, x 100, x 101, x 102, x 103, x 104, x 105, x 106, x 107, x 108, x 109, x 110, x 111, x 112, x 113, x 114, x 115, x 116, x 117, x 118, x 119, x 120, x 121, x 122] := rfl
      have k0 : x 0 = .pointer (some ⟨s, 0, none⟩) := h1 0 (by decide)
      have k1 : x 1 = .int .i64 3 := h1 1 (by decide)
      have k2 : x 2 = .int .i64 1 := h1 2 (by decide)
      rw [k0, k1, k2] at hfr
      rw [hfr]
      clear hfr h1 h3 k0 k1 k2
      clear hW hall
      subst hQ
      go_wp2
      go_ret2
      refine ⟨some ⟨g, 0, none⟩, c, rfl, (hA.setZ 3 2 (by omega)).setL 3 1 (by omega), fun B hB hs' b0 b1 b2 => ?_⟩
      have e1 : Below B w w1 := by rw [hw1]; exact ((Below.refl _ _).drew).drew
      have e2 : Below B w w2 := e1.trans (hb3.out.mono (by rw [hw1]; exact hB))
      have e3 : Below B w w3 := by rw [← HW3.out]; exact e2.setCell hs' _
      have e4 : Below B w wq := by rw [HWQ.out]; exact (e3.setCell b0 _).drew
      exact (e4.setCell b1 _).setCell b2 _
end Go.Proofs.Ytpmcpfmbhebjpaa
