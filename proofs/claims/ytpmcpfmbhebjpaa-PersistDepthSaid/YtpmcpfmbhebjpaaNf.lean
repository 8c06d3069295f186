/- The law's walk. -/
import Derived.Test.YtpmcpfmbhebjpaaNe
namespace Go.Proofs.Ytpmcpfmbhebjpaa
open Go.RowKit

/-- The keys of the first operations. -/
def keysTo (D : Nat → OpD) (k : Nat) : List ByteArray := (List.range k).map fun i => (D i).key

/-- The trees so far, in the slice that the law keeps. -/
def Kept (B : Nat) (D : Nat → OpD) (k : Nat) (g vc : Nat) (w : World) : Prop :=
  ∃ (q : Nat → Option Addr) (t : Nat → Tr), B ≤ g ∧ w.ownsRow B 27 1 (.slice (some ⟨g, 0, none⟩) (k + 1) vc) (k + 1) ((List.range (k + 1)).map fun i => Value.pointer (q i)) ∧ ∀ i, i < k + 1 → Rep w (q i) (t i) ∧ Good (keysTo D k) (t i)

theorem info27 : (Try.prog.info? 27).map (fun i => (i.zero, i.size, i.bytes)) = some (some (.agg #[.pointer none]), 1, 8) := by kernel_rfl

/-- An append to a row of trees turns no node. -/
theorem Rep.grown {w w' : World} {g : Nat} {c : Array Value} {fz : Nat × Nat} (hg : w.grownBy w' (some g)) (hc : w.heap[g]? = some (.cells c 27 fz)) : ∀ {t : Tr} {p : Option Addr}, Rep w p t → Rep w' p t
  | .nil, _, h => h
  | .node _ _ _ _, _, ⟨b, pl, pr, hp, hh, hl, hr⟩ => by
    refine ⟨b, pl, pr, hp, ?_, Rep.grown hg hc hl, Rep.grown hg hc hr⟩
    rw [hg.block b (block_lt hh) (by intro e; cases e; rw [hc] at hh; cases hh)]
    exact hh

theorem grown_of_below {w w' : World} (h : Below w.heap.size w w') : w.grownBy w' none := ⟨h.os, h.tape, h.output, h.size, fun k hk _ => h.block k hk⟩
theorem owns_below {w w' : World} {B e n : Nat} {v : Value} {xs : List Value} (h : w.ownsRow B e 1 v n xs) (hb : Below w.heap.size w w') : w'.ownsRow B e 1 v n xs :=
  h.kept (grown_of_below hb) (by cases v.ownBlock with | none => exact .inl rfl | some _ => exact .inr (by simp))

theorem keysTo_more (D : Nat → OpD) (k : Nat) : ∀ x ∈ keysTo D k, x ∈ keysTo D (k + 1) := by
  intro x hx
  simp only [keysTo, List.range_succ, List.map_append, List.mem_append]
  exact .inl hx

theorem kept_next {wr w7 w8 : World} {B k g vc : Nat} {D : Nat → OpD} {q : Nat → Option Addr} {t : Nat → Tr} {q' : Option Addr} {T' : Tr} {v' : Value} {o : Obj}
    (hown : w7.ownsRow B 27 1 (.slice (some ⟨g, 0, none⟩) (k + 1) vc) (k + 1) ((List.range (k + 1)).map fun i => Value.pointer (q i))) (hb : Below wr.heap.size wr w7)
    (hrep : ∀ i, i < k + 1 → Rep wr (q i) (t i) ∧ Good (keysTo D k) (t i)) (hq : Rep w7 q' T') (hgood : Good (keysTo D (k + 1)) T')
    (h8 : w8.ownsRow B 27 1 v' (k + 1 + 1) ((List.range k).map (fun i => Value.pointer (q i)) ++ [.pointer (q k), .pointer q'])) (hgrow : (w7.alloc o).grownBy w8 (some g)) :
    ∃ g' vc', v' = .slice (some ⟨g', 0, none⟩) (k + 1 + 1) vc' ∧ Kept B D (k + 1) g' vc' w8 := by
  obtain ⟨g', vc', rfl, hB⟩ : ∃ g' vc', v' = .slice (some ⟨g', 0, none⟩) (k + 1 + 1) vc' ∧ B ≤ g' := by
    rcases h8.2 with ⟨_, h⟩ | ⟨g', c, _, h, hg, _⟩
    · omega
    · exact ⟨g', c, h, hg⟩
  obtain ⟨c, fz, hc⟩ : ∃ c fz, w7.heap[g]? = some (.cells c 27 fz) := by
    rcases hown.2 with ⟨h, _⟩ | ⟨g2, _, cur, h, _, hg, _⟩
    · cases h
    · cases h; exact ⟨cur, _, hg⟩
  have hc' : (w7.alloc o).heap[g]? = some (.cells c 27 fz) := block_alloc _ hc
  refine ⟨g', vc', rfl, fun i => if i = k + 1 then q' else q i, fun i => if i = k + 1 then T' else t i, hB, ?_, fun i hi => ?_⟩
  · have e : (List.range (k + 1 + 1)).map (fun i => Value.pointer (if i = k + 1 then q' else q i)) = (List.range k).map (fun i => Value.pointer (q i)) ++ [.pointer (q k), .pointer q'] := by
      rw [List.range_succ, List.range_succ, List.map_append, List.map_append, List.append_assoc]
      congr 1
      · apply List.map_congr_left
        intro i hi
        rw [if_neg (by have := List.mem_range.1 hi; omega)]
      · simp
    rw [e]; exact h8
  · by_cases e : i = k + 1
    · subst e
      simp only [if_true]
      exact ⟨Rep.grown hgrow hc' (hq.alloc _), hgood⟩
    · simp only [e, if_false]
      obtain ⟨h1, h2⟩ := hrep i (by omega)
      exact ⟨Rep.grown hgrow hc' ((h1.mono hb).alloc _), h2.more (keysTo_more D k)⟩

set_option maxHeartbeats 4000000 in
theorem law_any (a : Option Addr) (len cap : Nat) (D : Nat → OpD) (w : World) (h : IsOps w a len D) : Calls Try.prog 3 #[.slice a len cap] w fun e w' => e = .returned (.bool true) ∧ Below w.heap.size w w' := by
  obtain ⟨i27, hi27, hz0, hz1, hz2⟩ := info_parts info27
  go_enter Try.func3, Try.ntmps3
  go_wp2_with fail
  ((with_reducible refine (few_any a len cap D _ h).mono ?_); rintro e w1 ⟨b, rfl, hf, hb1⟩)
  cases b with
  | false =>
    go_wp2_with (go_at_call 5; refine (awake_any _).mono ?_; rintro e w2 ⟨rfl, hb2⟩)
    go_ret
    exact ⟨rfl, Below.next hb1 hb2⟩
  | true =>
    have hlen := hf rfl
    clear hf
    have h1 := h.keep hb1
    clear h
    have hl0 : (0 : Int) ≤ (len : Int) := by omega
    go_wp2_with fail
    go_loopg [3, 16] len (fun g v j wr => ∃ k : Nat, k + g = len ∧ j = .int .i64 (k : Int) ∧ (∃ g vc : Nat, v = .slice (some ⟨g, 0, none⟩) ((k : Nat) + 1) vc ∧ Kept w1.heap.size D k g vc wr) ∧ Below w1.heap.size w1 wr)
    case atStart =>
      refine ⟨0, by omega, rfl, ⟨w1.heap.size, 1, rfl, fun _ => none, fun _ => .nil, Nat.le_refl _, ?_, fun i _ => ⟨rfl, Good.nil _⟩⟩, (Below.refl _ _).alloc (Nat.le_refl _) _⟩
      exact ⟨rfl, .inr ⟨w1.heap.size, 1, #[.pointer none], rfl, Nat.le_refl _, new_block _ _, Nat.le_refl _, by unfold maxLen; omega, rfl, rfl⟩⟩
    case round =>
      obtain ⟨k, hk, rfl, ⟨g, vc, rfl, hkept⟩, hbel⟩ := hrel
      have HK := Lib.hid hk; clear hk
      by_cases hlt : k < len
      · rcases h1 with h1 | ⟨bb, o, rfl, h1⟩
        · omega
        · obtain ⟨l1, l2, l3, e0, e1, e2, e3, e4⟩ := (h1 k hlt).keep (hbel.mono (Nat.le_refl _))
          obtain ⟨q, t, hgB, hown, hrep⟩ := hkept
          have hcell : ∀ j, j < k + 1 → wr.cell? ⟨g, j, none⟩ = some (.pointer (q j)) := fun j hj => by
            have := hown.cells (g := g) rfl j (.pointer (q j)) (by simp [hj])
            unfold Addr.add at this
            split at this
            · rename_i e; subst e; exact this
            · simpa using this
          have m1 : (D k).tree % (k + 1) < k + 1 := Nat.mod_lt _ (by omega)
          have m2 : (D k).other % (k + 1) < k + 1 := Nat.mod_lt _ (by omega)
          obtain ⟨r1, gd1⟩ := hrep _ m1
          obtain ⟨r2, gd2⟩ := hrep _ m2
          have s1 := gd1.size
          have s2 := gd2.size
          have hkl : (keysTo D k).length = k := by simp [keysTo]
          have hgood := good_step (D k).kind (D k).key (D k).value gd1 gd2
          have hks : keysTo D k ++ [(D k).key] = keysTo D (k + 1) := by simp [keysTo, List.range_succ]
          rw [hks] at hgood
          have hst := fun wx (hx : Below wr.heap.size wr wx) => step_any (D k).kind (D k).tree (D k).other (k + 1) vc g 0 (D k).key (D k).value _ _ _ _ wx l1 l2 l3 (by omega) (by omega)
            (by rw [Nat.zero_add]; exact cell_keep hx (hcell _ m1)) (by rw [Nat.zero_add]; exact cell_keep hx (hcell _ m2)) (r1.mono hx) (r2.mono hx) (by omega)
          generalize stepT (D k).kind (D k).key (D k).value (t ((D k).tree % (k + 1))) (t ((D k).other % (k + 1))) = T' at *
          have HST := Lib.hid hst; clear hst
          obtain ⟨d1, d2, d3, d4, d5⟩ := good_depth hgood (by simp [keysTo]; omega)
          clear hkl hks s1 s2 r1 r2 gd1 gd2 m1 m2
          have HC := Lib.hid hcell; clear hcell
          go_wp2_with fail
          ((with_reducible refine (HST.out _ ((Below.refl _ _).alloc (Nat.le_refl _) _)).mono ?_); rintro e w2 ⟨q', rfl, hq', hb2⟩)
          go_wp2_with fail
          ((with_reducible refine (depth_any T' q' _ (hq'.alloc _)).mono ?_); rintro e w3 ⟨rfl, hb3⟩)
          have hq3 := (hq'.alloc (.cells #[.pointer q'] 27)).mono hb3
          have c6 := cell_keep hb3 (cell_of (new_block w2 (.cells #[.pointer q'] 27)))
          obtain ⟨P, hP⟩ : ∃ P : Nat, P = 2 ^ T'.height := ⟨_, rfl⟩
          obtain ⟨M, hM⟩ : ∃ M : Nat, M = T'.size + 1 := ⟨_, rfl⟩
          obtain ⟨MM, hMM⟩ : ∃ MM : Nat, MM = M * M := ⟨_, rfl⟩
          obtain ⟨z, z1, z2⟩ : ∃ z : Bool, ((T'.height : Int) == 0) = z ∧ ((T'.size : Int) == 0) = z := by
            refine ⟨((T'.height : Int) == 0), rfl, ?_⟩
            rw [Bool.eq_iff_iff, beq_iff_eq, beq_iff_eq]; omega
          have hPb : P ≤ 8192 := by rw [hP]; exact Nat.le_trans (Nat.pow_le_pow_right (by omega) d1) (by decide)
          have hMb : MM ≤ 121 * 121 := by rw [hMM, hM]; exact Nat.mul_le_mul (by omega) (by omega)
          have f1 : IntKind.i64.wrap ((2 : Int) ^ min T'.height 64) = (P : Int) := by
            rw [Nat.min_eq_left (by omega), show ((2 : Int) ^ T'.height) = ((2 ^ T'.height : Nat) : Int) by simp, ← hP]; exact IntWalk.i64_in _ (by omega)
          have f2 : IntKind.i64.wrap ((T'.size : Int) + 1) = (M : Int) := by rw [IntWalk.i64_in _ (by omega), hM]; omega
          have f3 : IntKind.i64.wrap ((M : Int) * (M : Int)) = (MM : Int) := by rw [← Int.natCast_mul, ← hMM]; exact IntWalk.i64_in _ (by omega)
          have f4 : decide (P ≤ T'.size) = false := by simp; omega
          have f5 : decide (MM < P) = false := by simp; rw [hMM, hM, hP]; exact d4
          have f6 : decide ((T'.height : Int) < 0) = false := by simp
          have f7 : decide ((40 : Int) < (T'.height : Int)) = false := by simp; omega
          clear hP hM hMM hPb hMb d1 d2 d3 d4 d5
          go_wp2_with fail
          go_region_held3 (fun u => u.cell? ⟨w2.heap.size, 0, none⟩ = some (.pointer q')) (first | exact c6 | exact cell_keep hb7 c6 | exact cell_keep hb6 c6 | exact cell_keep hb5 c6 | exact cell_keep hb4 c6) (first | (go_at_call 8; refine (size_any T' q' _ (by exact hq3.mono hb6)).mono ?_; rintro e w7 ⟨rfl, hb7⟩; replace hb7 := Below.next hb6 hb7) | (go_at_call 8; refine (size_any T' q' _ (by exact hq3.mono hb5)).mono ?_; rintro e w6 ⟨rfl, hb6⟩; replace hb6 := Below.next hb5 hb6) | (go_at_call 8; refine (size_any T' q' _ (by exact hq3.mono hb4)).mono ?_; rintro e w5 ⟨rfl, hb5⟩; replace hb5 := Below.next hb4 hb5) | (go_at_call 8; refine (size_any T' q' _ (by exact hq3.drew)).mono ?_; rintro e w4 ⟨rfl, hb4⟩; replace hb4 := Below.ofDrew hb4))
          have c7 := cell_keep hb7 c6
          have hb27 := Below.next (Below.next ((Below.refl _ wr).alloc (Nat.le_refl _) _) hb2) (Below.next (Below.next ((Below.refl _ w2).alloc (Nat.le_refl _) _) hb3) hb7)
          have hown7 := Lib.hid (owns_below hown hb27)
          have HB27 := Lib.hid hb27
          have HQ7 := Lib.hid (hq3.mono hb7)
          have HRP := Lib.hid hrep
          clear hown hb27 hrep c6 hb4 hb5 hb6 hq3 hq' e0 e1 e2 e3 e4 f1 f2 f3 f4 f5 f6 f7 z1 z2
          have hbase : w1.heap.size ≤ w7.heap.size := Nat.le_trans hbel.size HB27.out.size
          go_wp2_with (at_builtin; refine wpList_append_own _ rfl _ _ 28 rfl w1.heap.size 27 i27 (.agg #[.pointer none]) 1 8 Try.underlying28 hi27 hz0 hz1 hz2 rfl (by decide) _ _ _ rfl (hown7.out.alloc _) ⟨w7.heap.size, 0, none⟩ 1 1 [.pointer q'] rfl rfl ?c1 ?c2 ?c3 ?c4 ?c5 ?_)
          case c1 =>
            intro j u hu
            cases j with
            | zero => simp at hu; subst hu; simp [Addr.add]
            | succ j => simp at hu
          case c2 => simp [Value.oneCell']
          case c3 => unfold maxLen; omega
          case c4 => omega
          case c5 => simp; omega
          intro v' w8 hown8 hgrow _
          obtain ⟨g', vc', rfl, hkept⟩ := kept_next hown7.out HB27.out HRP.out HQ7.out hgood hown8 hgrow
          have hbel8 : Below w1.heap.size w1 w8 := ((Below.next hbel HB27.out).alloc hbase _).grown hgrow (by simp; omega) (fun j hj => by cases hj; exact hgB)
          clear hown8 hgrow hgood
          have HK8 := Lib.hid hkept
          clear hkept
          go_wp2_with fail
          go_roundg (len - (k + 1))
          case measure => have := HK.out; omega
          case rel => exact ⟨k + 1, by have := HK.out; omega, by go_num, ⟨g', vc', rfl, HK8.out⟩, hbel8⟩
      · go_wp2_with (go_at_call 5; refine (awake_any _).mono ?_; rintro e w2 ⟨rfl, hb2⟩)
        go_ret
        exact ⟨rfl, Below.next (Below.next hb1 hbel) hb2⟩
end Go.Proofs.Ytpmcpfmbhebjpaa
