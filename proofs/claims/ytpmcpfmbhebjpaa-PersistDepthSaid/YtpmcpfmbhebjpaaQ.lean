/- One operation: the other kinds. -/
import Derived.Test.YtpmcpfmbhebjpaaO
namespace Go.Proofs.Ytpmcpfmbhebjpaa
open Go.RowKit

set_option maxHeartbeats 1600000 in
theorem step3 (kind tr other n cap B o : Nat) (key : ByteArray) (value : Int) (q1 q2 : Option Addr) (t u : Tr) (w : World) (_hk : kind ≤ 255) (_ht : tr ≤ 255) (_ho : other ≤ 255)
    (hn : 0 < n) (_hn2 : n ≤ 1000) (hc1 : w.cell? ⟨B, o + tr % n, none⟩ = some (.pointer q1)) (_hc2 : w.cell? ⟨B, o + other % n, none⟩ = some (.pointer q2)) (hr1 : Rep w q1 t) (_hr2 : Rep w q2 u) (hs : t.size + u.size + 1 ≤ 1000000000000) (hh : kind % 8 = 3) :
    Calls Try.prog 6 #[.slice (some ⟨B, o, none⟩) n cap, .agg #[.int .u8 (kind : Int), .int .u8 (tr : Int), .int .u8 (other : Int), .string key, .int .i64 value]] w (MakesT w (stepT kind key value t u)) := by
  have e : stepT kind key value t u = Tr.delete key t := by unfold stepT; repeat (first | rw [if_pos (by omega)] | rw [if_neg (by omega)])
  rw [e]; clear e
  have hB : B < w.heap.size := cell_lt hc1
  have m1 : 0 ≤ (tr : Int) % (n : Int) := by rw [← Int.natCast_emod]; omega
  have m2 : (tr : Int) % (n : Int) < (n : Int) := by have := Nat.mod_lt tr hn; rw [← Int.natCast_emod]; omega
  have m3 : ((tr : Int) % (n : Int)).toNat = tr % n := by rw [← Int.natCast_emod]; exact Int.toNat_natCast _
  have k0 : ((kind : Int) % 8 == 0) = false := by rw [beq_eq_false_iff_ne]; omega
  have k1 : ((kind : Int) % 8 == 1) = false := by rw [beq_eq_false_iff_ne]; omega
  have k2 : ((kind : Int) % 8 == 2) = false := by rw [beq_eq_false_iff_ne]; omega
  have k3 : ((kind : Int) % 8 == 3) = true := by rw [beq_iff_eq]; omega
  clear hh
  obtain ⟨t1, t2, t3⟩ := three_blocks w (.cells #[.int .u8 (kind : Int), .int .u8 (tr : Int), .int .u8 (other : Int), .string key, .int .i64 value] 30) (.cells #[.pointer none] 27) (.cells #[.pointer q1] 27)
  have hb0 := below3 w (.cells #[.int .u8 (kind : Int), .int .u8 (tr : Int), .int .u8 (other : Int), .string key, .int .i64 value] 30) (.cells #[.pointer none] 27) (.cells #[.pointer q1] 27)
  have HB0 := Lib.hid hb0
  have T1 := Lib.hid t1; have T2 := Lib.hid t2; have T3 := Lib.hid t3; clear t1 t2 t3 hb0
  go_enter Try.func6, Try.ntmps6
  go_wp2_with (first | (go_at_call 18; refine (Split_any key t q1 _ (by exact ((hr1.alloc _).alloc _).alloc _) (by omega)).mono ?_; rintro e w1 ⟨p1, p2, rfl, hp1, hp2, hb⟩; have U1 := Lib.hid (block_keep hb T1.out); have U2 := Lib.hid (block_keep hb T2.out); have U3 := Lib.hid (block_keep hb T3.out); have HB := Lib.hid hb; clear hb; have s3 := block_lt U3.out; have s2 := block_lt U2.out; have s1 := block_lt U1.out; have s3a := Nat.lt_succ_of_lt s3; have s2a := Nat.lt_succ_of_lt s2; have s1a := Nat.lt_succ_of_lt s1; obtain ⟨f0, f1, f2, f3, f4⟩ := cells5 U1.out; have f5 := cell_of U3.out; have f6 := cell_of U2.out; have f7 := frozen_of U2.out) | (go_at_call 19; refine (Delete_any key t q1 _ (by exact (((((hr1.alloc _).alloc _).alloc _).mono HB.out).alloc _).alloc _) (by omega)).mono ?_; rintro e w2 ⟨q, rfl, hq, hb2⟩; have V2 := Lib.hid (block_keep hb2 (block_alloc _ (block_alloc _ U2.out))); clear f0 f1 f2 f3 f4 f5 f6 f7; have f6 := cell_of V2.out; have f7 := frozen_of V2.out))
  have hc2 := cell_set (u := .pointer q) f6
  exact bodyPost_ret (v := .agg #[.pointer q]) (by simp [results, Try.results6, go_sem, hc2]) rfl ⟨q, rfl, Rep.setCell V2.out hq, (Below.next (((Below.next HB0.out HB.out).alloc (by have := HB0.out.size; have := HB.out.size; omega) _).alloc (by have := HB0.out.size; have := HB.out.size; simp <;> omega) _) hb2).setCell (by simp <;> omega) _⟩

set_option maxHeartbeats 1600000 in
theorem step4 (kind tr other n cap B o : Nat) (key : ByteArray) (value : Int) (q1 q2 : Option Addr) (t u : Tr) (w : World) (_hk : kind ≤ 255) (_ht : tr ≤ 255) (_ho : other ≤ 255)
    (hn : 0 < n) (_hn2 : n ≤ 1000) (hc1 : w.cell? ⟨B, o + tr % n, none⟩ = some (.pointer q1)) (_hc2 : w.cell? ⟨B, o + other % n, none⟩ = some (.pointer q2)) (hr1 : Rep w q1 t) (_hr2 : Rep w q2 u) (hs : t.size + u.size + 1 ≤ 1000000000000) (hh : kind % 8 = 4) :
    Calls Try.prog 6 #[.slice (some ⟨B, o, none⟩) n cap, .agg #[.int .u8 (kind : Int), .int .u8 (tr : Int), .int .u8 (other : Int), .string key, .int .i64 value]] w (MakesT w (stepT kind key value t u)) := by
  have e : stepT kind key value t u = (Tr.split key t).1 := by unfold stepT; repeat (first | rw [if_pos (by omega)] | rw [if_neg (by omega)])
  rw [e]; clear e
  have hB : B < w.heap.size := cell_lt hc1
  have m1 : 0 ≤ (tr : Int) % (n : Int) := by rw [← Int.natCast_emod]; omega
  have m2 : (tr : Int) % (n : Int) < (n : Int) := by have := Nat.mod_lt tr hn; rw [← Int.natCast_emod]; omega
  have m3 : ((tr : Int) % (n : Int)).toNat = tr % n := by rw [← Int.natCast_emod]; exact Int.toNat_natCast _
  have k0 : ((kind : Int) % 8 == 0) = false := by rw [beq_eq_false_iff_ne]; omega
  have k1 : ((kind : Int) % 8 == 1) = false := by rw [beq_eq_false_iff_ne]; omega
  have k2 : ((kind : Int) % 8 == 2) = false := by rw [beq_eq_false_iff_ne]; omega
  have k3 : ((kind : Int) % 8 == 3) = false := by rw [beq_eq_false_iff_ne]; omega
  have k4 : ((kind : Int) % 8 == 4) = true := by rw [beq_iff_eq]; omega
  clear hh
  obtain ⟨t1, t2, t3⟩ := three_blocks w (.cells #[.int .u8 (kind : Int), .int .u8 (tr : Int), .int .u8 (other : Int), .string key, .int .i64 value] 30) (.cells #[.pointer none] 27) (.cells #[.pointer q1] 27)
  have hb0 := below3 w (.cells #[.int .u8 (kind : Int), .int .u8 (tr : Int), .int .u8 (other : Int), .string key, .int .i64 value] 30) (.cells #[.pointer none] 27) (.cells #[.pointer q1] 27)
  have HB0 := Lib.hid hb0
  have T1 := Lib.hid t1; have T2 := Lib.hid t2; have T3 := Lib.hid t3; clear t1 t2 t3 hb0
  go_enter Try.func6, Try.ntmps6
  go_wp2_with (first | (go_at_call 18; refine (Split_any key t q1 _ (by exact ((hr1.alloc _).alloc _).alloc _) (by omega)).mono ?_; rintro e w1 ⟨p1, p2, rfl, hp1, hp2, hb⟩; have U1 := Lib.hid (block_keep hb T1.out); have U2 := Lib.hid (block_keep hb T2.out); have U3 := Lib.hid (block_keep hb T3.out); have HB := Lib.hid hb; clear hb; have s3 := block_lt U3.out; have s2 := block_lt U2.out; have s1 := block_lt U1.out; have s3a := Nat.lt_succ_of_lt s3; have s2a := Nat.lt_succ_of_lt s2; have s1a := Nat.lt_succ_of_lt s1; obtain ⟨f0, f1, f2, f3, f4⟩ := cells5 U1.out; have f5 := cell_of U3.out; have f6 := cell_of U2.out; have f7 := frozen_of U2.out))
  have hc2 := cell_alloc (o := .cells #[.pointer p2] 27) (cell_alloc (o := .cells #[.pointer p1] 27) (cell_set (u := .pointer p1) f6))
  have hS := (Below.next HB0.out HB.out).size
  exact bodyPost_ret (v := .agg #[.pointer p1]) (by simp [results, Try.results6, go_sem, hc2]) rfl ⟨p1, rfl, ((Rep.setCell U2.out hp1).alloc _).alloc _, (((Below.next HB0.out HB.out).setCell (by simp) _).alloc (by simpa [World.setCell] using hS) _).alloc (by simp [World.setCell]; omega) _⟩

set_option maxHeartbeats 1600000 in
theorem step5 (kind tr other n cap B o : Nat) (key : ByteArray) (value : Int) (q1 q2 : Option Addr) (t u : Tr) (w : World) (_hk : kind ≤ 255) (_ht : tr ≤ 255) (_ho : other ≤ 255)
    (hn : 0 < n) (_hn2 : n ≤ 1000) (hc1 : w.cell? ⟨B, o + tr % n, none⟩ = some (.pointer q1)) (_hc2 : w.cell? ⟨B, o + other % n, none⟩ = some (.pointer q2)) (hr1 : Rep w q1 t) (_hr2 : Rep w q2 u) (hs : t.size + u.size + 1 ≤ 1000000000000) (hh : kind % 8 = 5) :
    Calls Try.prog 6 #[.slice (some ⟨B, o, none⟩) n cap, .agg #[.int .u8 (kind : Int), .int .u8 (tr : Int), .int .u8 (other : Int), .string key, .int .i64 value]] w (MakesT w (stepT kind key value t u)) := by
  have e : stepT kind key value t u = (Tr.split key t).2 := by unfold stepT; repeat (first | rw [if_pos (by omega)] | rw [if_neg (by omega)])
  rw [e]; clear e
  have hB : B < w.heap.size := cell_lt hc1
  have m1 : 0 ≤ (tr : Int) % (n : Int) := by rw [← Int.natCast_emod]; omega
  have m2 : (tr : Int) % (n : Int) < (n : Int) := by have := Nat.mod_lt tr hn; rw [← Int.natCast_emod]; omega
  have m3 : ((tr : Int) % (n : Int)).toNat = tr % n := by rw [← Int.natCast_emod]; exact Int.toNat_natCast _
  have k0 : ((kind : Int) % 8 == 0) = false := by rw [beq_eq_false_iff_ne]; omega
  have k1 : ((kind : Int) % 8 == 1) = false := by rw [beq_eq_false_iff_ne]; omega
  have k2 : ((kind : Int) % 8 == 2) = false := by rw [beq_eq_false_iff_ne]; omega
  have k3 : ((kind : Int) % 8 == 3) = false := by rw [beq_eq_false_iff_ne]; omega
  have k4 : ((kind : Int) % 8 == 4) = false := by rw [beq_eq_false_iff_ne]; omega
  have k5 : ((kind : Int) % 8 == 5) = true := by rw [beq_iff_eq]; omega
  clear hh
  obtain ⟨t1, t2, t3⟩ := three_blocks w (.cells #[.int .u8 (kind : Int), .int .u8 (tr : Int), .int .u8 (other : Int), .string key, .int .i64 value] 30) (.cells #[.pointer none] 27) (.cells #[.pointer q1] 27)
  have hb0 := below3 w (.cells #[.int .u8 (kind : Int), .int .u8 (tr : Int), .int .u8 (other : Int), .string key, .int .i64 value] 30) (.cells #[.pointer none] 27) (.cells #[.pointer q1] 27)
  have HB0 := Lib.hid hb0
  have T1 := Lib.hid t1; have T2 := Lib.hid t2; have T3 := Lib.hid t3; clear t1 t2 t3 hb0
  go_enter Try.func6, Try.ntmps6
  go_wp2_with (first | (go_at_call 18; refine (Split_any key t q1 _ (by exact ((hr1.alloc _).alloc _).alloc _) (by omega)).mono ?_; rintro e w1 ⟨p1, p2, rfl, hp1, hp2, hb⟩; have U1 := Lib.hid (block_keep hb T1.out); have U2 := Lib.hid (block_keep hb T2.out); have U3 := Lib.hid (block_keep hb T3.out); have HB := Lib.hid hb; clear hb; have s3 := block_lt U3.out; have s2 := block_lt U2.out; have s1 := block_lt U1.out; have s3a := Nat.lt_succ_of_lt s3; have s2a := Nat.lt_succ_of_lt s2; have s1a := Nat.lt_succ_of_lt s1; obtain ⟨f0, f1, f2, f3, f4⟩ := cells5 U1.out; have f5 := cell_of U3.out; have f6 := cell_of U2.out; have f7 := frozen_of U2.out))
  have hc2 := cell_alloc (o := .cells #[.pointer p2] 27) (cell_alloc (o := .cells #[.pointer p1] 27) (cell_set (u := .pointer p2) f6))
  have hS := (Below.next HB0.out HB.out).size
  exact bodyPost_ret (v := .agg #[.pointer p2]) (by simp [results, Try.results6, go_sem, hc2]) rfl ⟨p2, rfl, ((Rep.setCell U2.out hp2).alloc _).alloc _, (((Below.next HB0.out HB.out).setCell (by simp) _).alloc (by simpa [World.setCell] using hS) _).alloc (by simp [World.setCell]; omega) _⟩

set_option maxHeartbeats 1600000 in
theorem step7 (kind tr other n cap B o : Nat) (key : ByteArray) (value : Int) (q1 q2 : Option Addr) (t u : Tr) (w : World) (_hk : kind ≤ 255) (_ht : tr ≤ 255) (_ho : other ≤ 255)
    (hn : 0 < n) (_hn2 : n ≤ 1000) (hc1 : w.cell? ⟨B, o + tr % n, none⟩ = some (.pointer q1)) (_hc2 : w.cell? ⟨B, o + other % n, none⟩ = some (.pointer q2)) (hr1 : Rep w q1 t) (_hr2 : Rep w q2 u) (hs : t.size + u.size + 1 ≤ 1000000000000) (hh : kind % 8 = 7) :
    Calls Try.prog 6 #[.slice (some ⟨B, o, none⟩) n cap, .agg #[.int .u8 (kind : Int), .int .u8 (tr : Int), .int .u8 (other : Int), .string key, .int .i64 value]] w (MakesT w (stepT kind key value t u)) := by
  have e : stepT kind key value t u = t := by unfold stepT; repeat (first | rw [if_pos (by omega)] | rw [if_neg (by omega)])
  rw [e]; clear e
  have hB : B < w.heap.size := cell_lt hc1
  have m1 : 0 ≤ (tr : Int) % (n : Int) := by rw [← Int.natCast_emod]; omega
  have m2 : (tr : Int) % (n : Int) < (n : Int) := by have := Nat.mod_lt tr hn; rw [← Int.natCast_emod]; omega
  have m3 : ((tr : Int) % (n : Int)).toNat = tr % n := by rw [← Int.natCast_emod]; exact Int.toNat_natCast _
  have k0 : ((kind : Int) % 8 == 0) = false := by rw [beq_eq_false_iff_ne]; omega
  have k1 : ((kind : Int) % 8 == 1) = false := by rw [beq_eq_false_iff_ne]; omega
  have k2 : ((kind : Int) % 8 == 2) = false := by rw [beq_eq_false_iff_ne]; omega
  have k3 : ((kind : Int) % 8 == 3) = false := by rw [beq_eq_false_iff_ne]; omega
  have k4 : ((kind : Int) % 8 == 4) = false := by rw [beq_eq_false_iff_ne]; omega
  have k5 : ((kind : Int) % 8 == 5) = false := by rw [beq_eq_false_iff_ne]; omega
  have k6 : ((kind : Int) % 8 == 6) = false := by rw [beq_eq_false_iff_ne]; omega
  clear hh
  obtain ⟨t1, t2, t3⟩ := three_blocks w (.cells #[.int .u8 (kind : Int), .int .u8 (tr : Int), .int .u8 (other : Int), .string key, .int .i64 value] 30) (.cells #[.pointer none] 27) (.cells #[.pointer q1] 27)
  have hb0 := below3 w (.cells #[.int .u8 (kind : Int), .int .u8 (tr : Int), .int .u8 (other : Int), .string key, .int .i64 value] 30) (.cells #[.pointer none] 27) (.cells #[.pointer q1] 27)
  have HB0 := Lib.hid hb0
  have T1 := Lib.hid t1; have T2 := Lib.hid t2; have T3 := Lib.hid t3; clear t1 t2 t3 hb0
  go_enter Try.func6, Try.ntmps6
  go_wp2_with (first | (go_at_call 18; refine (Split_any key t q1 _ (by exact ((hr1.alloc _).alloc _).alloc _) (by omega)).mono ?_; rintro e w1 ⟨p1, p2, rfl, hp1, hp2, hb⟩; have U1 := Lib.hid (block_keep hb T1.out); have U2 := Lib.hid (block_keep hb T2.out); have U3 := Lib.hid (block_keep hb T3.out); have HB := Lib.hid hb; clear hb; have s3 := block_lt U3.out; have s2 := block_lt U2.out; have s1 := block_lt U1.out; have s3a := Nat.lt_succ_of_lt s3; have s2a := Nat.lt_succ_of_lt s2; have s1a := Nat.lt_succ_of_lt s1; obtain ⟨f0, f1, f2, f3, f4⟩ := cells5 U1.out; have f5 := cell_of U3.out; have f6 := cell_of U2.out; have f7 := frozen_of U2.out))
  have hc2 := cell_alloc (o := .cells #[.pointer p2] 27) (cell_alloc (o := .cells #[.pointer p1] 27) (cell_set (u := .pointer q1) f6))
  have hS := (Below.next HB0.out HB.out).size
  exact bodyPost_ret (v := .agg #[.pointer q1]) (by simp [results, Try.results6, go_sem, hc2]) rfl ⟨q1, rfl, ((Rep.setCell U2.out ((((hr1.alloc _).alloc _).alloc _).mono HB.out)).alloc _).alloc _, (((Below.next HB0.out HB.out).setCell (by simp) _).alloc (by simpa [World.setCell] using hS) _).alloc (by simp [World.setCell]; omega) _⟩
end Go.Proofs.Ytpmcpfmbhebjpaa
