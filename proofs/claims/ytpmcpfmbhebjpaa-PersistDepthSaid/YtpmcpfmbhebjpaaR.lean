/- One operation: joining. -/
import Derived.Test.YtpmcpfmbhebjpaaO
namespace Go.Proofs.Ytpmcpfmbhebjpaa
open Go.RowKit

theorem new_block (w : World) (o : Obj) : (w.alloc o).heap[w.heap.size]? = some o := by
  show (w.heap.push o)[w.heap.size]? = _
  exact Array.getElem?_push_size

theorem cell_set_ne {w : World} {a b : Addr} {v u : Value} (h : w.cell? a = some v) (hne : a.block ≠ b.block) : (w.setCell b u).cell? a = some v := by
  rw [World.cell?_of_block (Below.heap_setCell _ _ _ _ hne)]; exact h

set_option maxHeartbeats 1600000 in
theorem step6 (kind tr other n cap B o : Nat) (key : ByteArray) (value : Int) (q1 q2 : Option Addr) (t u : Tr) (w : World) (_hk : kind ≤ 255) (_ht : tr ≤ 255) (_ho : other ≤ 255)
    (hn : 0 < n) (_hn2 : n ≤ 1000) (hc1 : w.cell? ⟨B, o + tr % n, none⟩ = some (.pointer q1)) (hc2 : w.cell? ⟨B, o + other % n, none⟩ = some (.pointer q2)) (hr1 : Rep w q1 t) (hr2 : Rep w q2 u) (hs : t.size + u.size + 1 ≤ 1000000000000) (hh : kind % 8 = 6) :
    Calls Try.prog 6 #[.slice (some ⟨B, o, none⟩) n cap, .agg #[.int .u8 (kind : Int), .int .u8 (tr : Int), .int .u8 (other : Int), .string key, .int .i64 value]] w (MakesT w (stepT kind key value t u)) := by
  have e : stepT kind key value t u = Tr.join t u := by unfold stepT; repeat (first | rw [if_pos (by omega)] | rw [if_neg (by omega)])
  rw [e]; clear e
  have hB : B < w.heap.size := cell_lt hc1
  have m1 : 0 ≤ (tr : Int) % (n : Int) := by rw [← Int.natCast_emod]; omega
  have m2 : (tr : Int) % (n : Int) < (n : Int) := by have := Nat.mod_lt tr hn; rw [← Int.natCast_emod]; omega
  have m3 : ((tr : Int) % (n : Int)).toNat = tr % n := by rw [← Int.natCast_emod]; exact Int.toNat_natCast _
  have k0 : ((kind : Int) % 8 == 0) = false := by rw [beq_eq_false_iff_ne]; omega
  have k1 : ((kind : Int) % 8 == 1) = false := by rw [beq_eq_false_iff_ne]; omega
  have k2 : ((kind : Int) % 8 == 2) = false := by rw [beq_eq_false_iff_ne]; omega
  have k3 : ((kind : Int) % 8 == 3) = false := by rw [beq_eq_false_iff_ne]; omega
  have k4 : ((kind : Int) % 8 == 4) = false := by rw [beq_eq_false_iff_ne]; omega
  have k5 : ((kind : Int) % 8 == 5) = false := by rw [beq_eq_false_iff_ne]; omega
  have k6 : ((kind : Int) % 8 == 6) = true := by rw [beq_iff_eq]; omega
  clear hh
  obtain ⟨t1, t2, t3⟩ := three_blocks w (.cells #[.int .u8 (kind : Int), .int .u8 (tr : Int), .int .u8 (other : Int), .string key, .int .i64 value] 30) (.cells #[.pointer none] 27) (.cells #[.pointer q1] 27)
  have hb0 := below3 w (.cells #[.int .u8 (kind : Int), .int .u8 (tr : Int), .int .u8 (other : Int), .string key, .int .i64 value] 30) (.cells #[.pointer none] 27) (.cells #[.pointer q1] 27)
  have HB0 := Lib.hid hb0
  have T1 := Lib.hid t1; have T2 := Lib.hid t2; have T3 := Lib.hid t3; clear t1 t2 t3 hb0
  have n4 : ¬ n = 0 := by omega
  obtain ⟨i, hi⟩ : ∃ i, i = other % n := ⟨_, rfl⟩
  have n5 : (other : Int).tmod (n : Int) = (i : Int) := by rw [hi]; exact Int.tmod_eq_emod_of_nonneg (by omega)
  have n2 : (i : Int) < (n : Int) := by have := Nat.mod_lt other hn; omega
  have n1 : (0 : Int) ≤ (i : Int) := by omega
  rw [← hi] at hc2
  have n8 : IntKind.i64.wrap (other : Int) = (other : Int) := IntWalk.i64_in _ (by omega)
  clear hi
  go_enter Try.func6, Try.ntmps6
  go_wp2_with (first | (go_at_call 18; refine (Split_any key t q1 _ (by exact ((hr1.alloc _).alloc _).alloc _) (by omega)).mono ?_; rintro e w1 ⟨p1, p2, rfl, hp1, hp2, hb⟩; have U1 := Lib.hid (block_keep hb T1.out); have U2 := Lib.hid (block_keep hb T2.out); have U3 := Lib.hid (block_keep hb T3.out); have HB := Lib.hid hb; clear hb; have s3 := block_lt U3.out; have s2 := block_lt U2.out; have s1 := block_lt U1.out; have s3a := Nat.lt_succ_of_lt s3; have s2a := Nat.lt_succ_of_lt s2; have s1a := Nat.lt_succ_of_lt s1; obtain ⟨f0, f1, f2, f3, f4⟩ := cells5 U1.out; have f5 := cell_of U3.out; have f6 := cell_of U2.out; have f7 := frozen_of U2.out; have G1 := Lib.hid (cell_of (block_alloc (.cells #[.pointer p2] 27) (block_alloc (.cells #[.pointer p1] 27) U3.out))); have G2 := Lib.hid ((cells5 (block_alloc (.cells #[.pointer p2] 27) (block_alloc (.cells #[.pointer p1] 27) U1.out))).2.2.1); have G3 := Lib.hid (cell_alloc (o := .cells #[.pointer p2] 27) (cell_alloc (o := .cells #[.pointer p1] 27) (cell_keep HB.out (cell_alloc (o := .cells #[.pointer q1] 27) (cell_alloc (o := .cells #[.pointer none] 27) (cell_alloc (o := .cells #[.int .u8 (kind : Int), .int .u8 (tr : Int), .int .u8 (other : Int), .string key, .int .i64 value] 30) hc2))))))))
  go_region_held3 (fun x => x.cell? ⟨w.heap.size + 2, 0, none⟩ = some (.pointer q1) ∧ x.cell? ⟨w.heap.size, 2, none⟩ = some (.int .u8 (other : Int)) ∧ x.cell? ⟨B, o + i, none⟩ = some (.pointer q2)) (first | exact ⟨G1.out, G2.out, G3.out⟩ | exact ⟨cell_alloc G1.out, cell_alloc G2.out, cell_alloc G3.out⟩ | exact ⟨E1.out, E2.out, E3.out⟩ | exact ⟨cell_alloc E1.out, cell_alloc E2.out, cell_alloc E3.out⟩ | exact ⟨cell_set_ne E1.out (by simp; omega), cell_set_ne E2.out (by simp; omega), cell_set_ne E3.out (by simp; omega)⟩) (first | (go_at_call 20; refine (Join_any t u q1 q2 _ (by exact Rep.of_heap (by rfl) ((((((hr1.alloc _).alloc _).alloc _).mono HB.out).alloc _).alloc _)) (by exact Rep.of_heap (by rfl) ((((((hr2.alloc _).alloc _).alloc _).mono HB.out).alloc _).alloc _)) (by omega)).mono ?_; rintro e w2 ⟨q, bb, rfl, hq, hb2⟩; replace hb2 := Below.ofDrew hb2; have E1 := Lib.hid (cell_keep hb2 G1.out); have E2 := Lib.hid (cell_keep hb2 G2.out); have E3 := Lib.hid (cell_keep hb2 G3.out); have V2 := Lib.hid (block_keep hb2 (block_alloc _ (block_alloc _ U2.out))); have HC := Lib.hid hb2; clear hb2) | (go_at_call 20; refine (Join_any t u q1 q2 _ (by exact Rep.of_heap (by rfl) (((((((hr1.alloc _).alloc _).alloc _).mono HB.out).alloc _).alloc _).alloc _)) (by exact Rep.of_heap (by rfl) (((((((hr2.alloc _).alloc _).alloc _).mono HB.out).alloc _).alloc _).alloc _)) (by omega)).mono ?_; rintro e w2 ⟨q, bb, rfl, hq, hb2⟩; replace hb2 := Below.ofDrew hb2; have hx : w2.heap[w1.heap.size + 1 + 1]? = some (.cells #[.pointer none] 27) := block_keep hb2 (three_blocks w1 _ _ _).2.2; have hc8 := cell_of hx; have hf8 := frozen_of hx; have HX := Lib.hid hx; clear hx; have E1 := Lib.hid (cell_keep hb2 (cell_alloc G1.out)); have E2 := Lib.hid (cell_keep hb2 (cell_alloc G2.out)); have E3 := Lib.hid (cell_keep hb2 (cell_alloc G3.out)); have V2 := Lib.hid (block_keep hb2 (block_alloc _ (block_alloc _ (block_alloc _ U2.out)))); have HC := Lib.hid hb2; clear hb2))
  · clear f0 f1 f2 f3 f4 f5 f6 f7
    have f6 := cell_of V2.out
    have f7 := frozen_of V2.out
    have s2' := block_lt V2.out
    go_wp2
    have hc2 := cell_alloc (o := .cells #[.pointer q] 27) (cell_set (u := .pointer q) f6)
    have hS := (Below.next HB0.out HB.out).size
    have hbb := Below.next (((Below.next HB0.out HB.out).alloc hS (.cells #[.pointer p1] 27)).alloc (by simp <;> omega) (.cells #[.pointer p2] 27)) HC.out
    have hS2 := hbb.size
    exact bodyPost_ret (v := .agg #[.pointer q]) (by simp [results, Try.results6, go_sem, hc2]) rfl ⟨q, rfl, (Rep.setCell V2.out hq).alloc _, (hbb.setCell (by simp) _).alloc (by simpa [World.setCell] using hS2) _⟩
  · clear f0 f1 f2 f3 f4 f5 f6 f7
    have f6 := cell_of V2.out
    have f7 := frozen_of V2.out
    have f8 := cell_set (u := .pointer q) hc8
    go_wp2
    have hne : w.heap.size + 1 ≠ w1.heap.size + 1 + 1 := by omega
    have V3 : (w2.setCell ⟨w1.heap.size + 1 + 1, 0, none⟩ (.pointer q)).heap[w.heap.size + 1]? = some (.cells #[.pointer none] 27) := block_set V2.out hne
    have hc2 := cell_set (u := .pointer q) (cell_of V3)
    have hS := (Below.next HB0.out HB.out).size
    have hbb := Below.next ((((Below.next HB0.out HB.out).alloc hS (.cells #[.pointer p1] 27)).alloc (by simp <;> omega) (.cells #[.pointer p2] 27)).alloc (by simp <;> omega) (.cells #[.pointer none] 27)) HC.out
    exact bodyPost_ret (v := .agg #[.pointer q]) (by simp [results, Try.results6, go_sem, hc2]) rfl ⟨q, rfl, Rep.setCell V3 (Rep.setCell HX.out hq), (hbb.setCell (by simp <;> omega) _).setCell (by simp) _⟩
end Go.Proofs.Ytpmcpfmbhebjpaa
