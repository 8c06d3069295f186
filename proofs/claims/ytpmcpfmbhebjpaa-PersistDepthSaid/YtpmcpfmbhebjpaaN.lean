/- Trees split and joined by the methods. -/
import Derived.Test.YtpmcpfmbhebjpaaL
import Derived.Test.YtpmcpfmbhebjpaaM
namespace Go.Proofs.Ytpmcpfmbhebjpaa
open Go.RowKit

theorem three_blocks (w : World) (a b c : Obj) : (((w.alloc a).alloc b).alloc c).heap[w.heap.size]? = some a ∧ (((w.alloc a).alloc b).alloc c).heap[w.heap.size + 1]? = some b ∧ (((w.alloc a).alloc b).alloc c).heap[w.heap.size + 2]? = some c := by
  obtain ⟨h1, h2⟩ := two_blocks w a b
  refine ⟨?_, ?_, ?_⟩
  · rw [Below.heap_alloc _ _ _ (by simp <;> omega)]; exact h1
  · rw [Below.heap_alloc _ _ _ (by simp <;> omega)]; exact h2
  · show (((w.alloc a).alloc b).heap.push c)[w.heap.size + 2]? = _; rw [show w.heap.size + 2 = ((w.alloc a).alloc b).heap.size by simp]; exact Array.getElem?_push_size

theorem below3 (w : World) (a b c : Obj) : Below w.heap.size w (((w.alloc a).alloc b).alloc c) := (below2 w a b).alloc (by simp <;> omega) _

/-- What Split says. -/
def MakesT2 (w : World) (t u : Tr) (e : Ending) (w' : World) : Prop := ∃ p q, e = .returned (.tuple #[.agg #[.pointer p], .agg #[.pointer q]]) ∧ Rep w' p t ∧ Rep w' q u ∧ Below w.heap.size w w'

theorem block_set {w : World} {a : Addr} {v : Value} {k : Nat} {o : Obj} (h : w.heap[k]? = some o) (hne : k ≠ a.block) : (w.setCell a v).heap[k]? = some o := by
  rw [Below.heap_setCell _ _ _ _ hne]; exact h

set_option maxHeartbeats 800000 in
theorem Split_any (k : ByteArray) (t : Tr) (p : Option Addr) (w : World) (h : Rep w p t) (hs : t.size ≤ 1000000000000) :
    Calls Try.prog 18 #[.agg #[.pointer p], .string k] w (MakesT2 w (Tr.split k t).1 (Tr.split k t).2) := by
  obtain ⟨t1, t2, t3⟩ := three_blocks w (.cells #[.pointer p] 27) (.cells #[.pointer none] 27) (.cells #[.pointer none] 27)
  have hb0 := below3 w (.cells #[.pointer p] 27) (.cells #[.pointer none] 27) (.cells #[.pointer none] 27)
  have T2 := Lib.hid t2; have T3 := Lib.hid t3; clear t1 t2 t3
  go_enter Try.func18, Try.ntmps18
  go_wp2_with (go_at_call 28; refine (split_any k t p _ (by exact ((h.alloc _).alloc _).alloc _) hs).mono ?_; rintro e w1 ⟨q1, q2, rfl, hq1, hq2, hb⟩; have HB2 := Lib.hid (block_keep hb T2.out); have HB3 := Lib.hid (block_keep hb T3.out); have hc := cell_of HB2.out; have hf := frozen_of HB2.out; have hc' := cell_of HB3.out; have hf' := frozen_of HB3.out)
  have HB4 : (w1.setCell ⟨w.heap.size + 1, 0, none⟩ (.pointer q1)).heap[w.heap.size + 2]? = some (.cells #[.pointer none] 27) := block_set HB3.out (by simp)
  have hc2 := cell_set (u := .pointer q1) hc
  have hc3 := cell_set (u := .pointer q2) (cell_of HB4)
  have hc4 : ((w1.setCell ⟨w.heap.size + 1, 0, none⟩ (.pointer q1)).setCell ⟨w.heap.size + 2, 0, none⟩ (.pointer q2)).cell? ⟨w.heap.size + 1, 0, none⟩ = some (.pointer q1) := by
    rw [World.cell?_of_block (Below.heap_setCell _ _ _ _ (by simp))]; exact hc2
  refine bodyPost_ret (v := .tuple #[.agg #[.pointer q1], .agg #[.pointer q2]]) (by simp [results, Try.results18, go_sem, hc3, hc4]) rfl ⟨q1, q2, rfl, ?_, ?_, ((Below.next hb0 hb).setCell (by simp <;> omega) _).setCell (by simp <;> omega) _⟩
  · exact Rep.setCell HB4 (Rep.setCell HB2.out hq1)
  · exact Rep.setCell HB4 (Rep.setCell HB2.out hq2)

/-- What Join says. -/
def MakesTB (w : World) (t : Tr) (e : Ending) (w' : World) : Prop := ∃ q b, e = .returned (.tuple #[.agg #[.pointer q], .bool b]) ∧ Rep w' q t ∧ Below w.heap.size w w'

set_option maxHeartbeats 1600000 in
theorem Join_any (t u : Tr) (p q : Option Addr) (w : World) (h : Rep w p t) (hu : Rep w q u) (hs : t.size + u.size ≤ 1000000000000) :
    Calls Try.prog 20 #[.agg #[.pointer p], .agg #[.pointer q]] w (MakesTB w (Tr.join t u)) := by
  obtain ⟨t1, t2, t3⟩ := three_blocks w (.cells #[.pointer p] 27) (.cells #[.pointer q] 27) (.cells #[.pointer none] 27)
  have hb0 := below3 w (.cells #[.pointer p] 27) (.cells #[.pointer q] 27) (.cells #[.pointer none] 27)
  have T1 := Lib.hid t1; have T2 := Lib.hid t2; have T3 := Lib.hid t3; clear t1 t2 t3
  by_cases hnil : t = .nil ∨ u = .nil
  · have e : Tr.join t u = Tr.concat t u := by
      rcases hnil with hn | hn <;> subst hn
      · rfl
      · cases t <;> rfl
    rw [e]; clear e
    rcases hnil with rfl | rfl
    · cases h
      go_enter Try.func20, Try.ntmps20
      go_wp2_with (go_at_call 30; refine (concat_any .nil u none q _ rfl (by exact ((hu.alloc _).alloc _).alloc _) hs).mono ?_; rintro e w1 ⟨q1, rfl, hq1, hb⟩; have HB := Lib.hid (block_keep hb T3.out); have hc := cell_of HB.out; have hf := frozen_of HB.out)
      have hc2 := cell_set (u := .pointer q1) hc
      exact bodyPost_ret (v := .tuple #[.agg #[.pointer q1], .bool true]) (by simp [results, Try.results20, go_sem, hc2]) rfl ⟨q1, true, rfl, Rep.setCell HB.out hq1, (Below.next hb0 hb).setCell (by simp <;> omega) _⟩
    · cases hu
      by_cases hp : p = none
      · subst hp
        go_enter Try.func20, Try.ntmps20
        go_wp2_with (go_at_call 30; refine (concat_any t .nil none none _ (by exact ((h.alloc _).alloc _).alloc _) rfl hs).mono ?_; rintro e w1 ⟨q1, rfl, hq1, hb⟩; have HB := Lib.hid (block_keep hb T3.out); have hc := cell_of HB.out; have hf := frozen_of HB.out)
        have hc2 := cell_set (u := .pointer q1) hc
        exact bodyPost_ret (v := .tuple #[.agg #[.pointer q1], .bool true]) (by simp [results, Try.results20, go_sem, hc2]) rfl ⟨q1, true, rfl, Rep.setCell HB.out hq1, (Below.next hb0 hb).setCell (by simp <;> omega) _⟩
      · obtain ⟨a, rfl⟩ := Option.ne_none_iff_exists'.1 hp
        go_enter Try.func20, Try.ntmps20
        go_wp2_with (go_at_call 30; refine (concat_any t .nil (some a) none _ (by exact ((h.alloc _).alloc _).alloc _) rfl hs).mono ?_; rintro e w1 ⟨q1, rfl, hq1, hb⟩; have HB := Lib.hid (block_keep hb T3.out); have hc := cell_of HB.out; have hf := frozen_of HB.out)
        have hc2 := cell_set (u := .pointer q1) hc
        exact bodyPost_ret (v := .tuple #[.agg #[.pointer q1], .bool true]) (by simp [results, Try.results20, go_sem, hc2]) rfl ⟨q1, true, rfl, Rep.setCell HB.out hq1, (Below.next hb0 hb).setCell (by simp <;> omega) _⟩
  · obtain ⟨ht0, hu0⟩ := not_or.1 hnil
    have hts : 0 < t.size := by rcases t with _ | _ <;> simp [Tr.size] at *
    have hus : 0 < u.size := by rcases u with _ | _ <;> simp [Tr.size] at *
    have hjoin : Tr.join t u = if Tr.lt (Tr.at? t (t.size - 1)).1 (Tr.at? u 0).1 = true then Tr.concat t u else .nil := by
      rw [Tr.at_keys t _ (by omega), Tr.at_keys u _ hus]
      unfold Tr.join
      split
      · exact absurd rfl ht0
      · exact absurd rfl hu0
      · rfl
    have A1 := fun w' h' => at_any t (t.size - 1) p w' h' (by omega) (by omega)
    have A2 : ∀ w', Rep w' q u → Calls Try.prog 12 #[.agg #[.pointer q], .int .i64 0] w' (Gives w' (Tr.at? u 0)) := fun w' h' => at_any u 0 q w' h' hus (by omega)
    generalize Tr.at? t (t.size - 1) = X at *
    generalize Tr.at? u 0 = Y at *
    have HA1 := Lib.hid A1; have HA2 := Lib.hid A2; clear A1 A2
    obtain ⟨a, rfl⟩ : ∃ a, p = some a := by rcases t with _ | _; exact absurd rfl ht0; obtain ⟨b, _, _, hp, _⟩ := h; exact ⟨_, hp⟩
    obtain ⟨c, rfl⟩ : ∃ c, q = some c := by rcases u with _ | _; exact absurd rfl hu0; obtain ⟨b, _, _, hp, _⟩ := hu; exact ⟨_, hp⟩
    clear hnil ht0 hu0
    have T1c := cell_of T1.out
    have hw1 : IntKind.i64.wrap ((t.size : Int) - 1) = ((t.size - 1 : Nat) : Int) := by rw [IntWalk.i64_in _ (by omega)]; omega
    cases hlt : Tr.lt X.1 Y.1 with
    | true =>
      rw [hjoin, if_pos hlt]; clear hjoin
      have HL := Lib.hid hlt; clear hlt
      go_enter Try.func20, Try.ntmps20
      go_wp2_with fail
      go_region_held3 (fun u => u.cell? ⟨w.heap.size, 0, none⟩ = some (.pointer (some a))) (first | exact T1c | exact cell_keep hb1 T1c | exact cell_keep hb2 T1c) (first | (go_at_call 8; refine (size_any t _ _ (by exact Rep.of_heap (by rfl) (((h.alloc _).alloc _).alloc _))).mono ?_; rintro e w1 ⟨rfl, hb1⟩; replace hb1 := Below.ofDrew hb1) | (go_at_call 12; refine (HA1.out _ (by exact (((h.alloc _).alloc _).alloc _).mono hb1)).mono ?_; rintro e w2 ⟨rfl, hb2⟩; replace hb2 := Below.next hb1 hb2))
      have d2 := cell_of (block_keep hb2 T2.out)
      have d1 := cell_of (block_keep hb2 T1.out)
      clear hw1
      go_wp2_with (first | (go_at_call 12; refine (HA2.out _ (by exact (((hu.alloc _).alloc _).alloc _).mono hb2)).mono ?_; rintro e w3 ⟨rfl, hb3⟩; replace hb3 := Below.next hb2 hb3; clear d1 d2; have d2 := cell_of (block_keep hb3 T2.out); have d1 := cell_of (block_keep hb3 T1.out)) | (go_at_call 31; refine (cmp_lt _ _ _ HL.out).mono ?_; rintro e w' ⟨rfl, rfl⟩) | (go_at_call 30; refine (concat_any t u _ _ _ (by exact (((h.alloc _).alloc _).alloc _).mono hb3) (by exact (((hu.alloc _).alloc _).alloc _).mono hb3) hs).mono ?_; rintro e w4 ⟨q1, rfl, hq1, hb4⟩; replace hb4 := Below.next hb3 hb4; have HB := Lib.hid (block_keep hb4 T3.out); have hc := cell_of HB.out; have hf := frozen_of HB.out))
      have hc2 := cell_set (u := .pointer q1) hc
      exact bodyPost_ret (v := .tuple #[.agg #[.pointer q1], .bool true]) (by simp [results, Try.results20, go_sem, hc2]) rfl ⟨q1, true, rfl, Rep.setCell HB.out hq1, (Below.next hb0 hb4).setCell (by simp <;> omega) _⟩
    | false =>
      rw [hjoin, if_neg (by rw [hlt]; simp)]; clear hjoin
      have hcg : ∀ w', Calls Try.prog 31 #[.string X.1, .string Y.1] w' fun e w'' => ∃ c : Int, 0 ≤ c ∧ e = .returned (.int .i64 c) ∧ w' = w'' := by
        intro w'
        refine (cmp_any _ _ _).mono ?_
        rintro e w'' ⟨rfl, rfl⟩
        refine ⟨_, ?_, rfl, rfl⟩
        unfold cmpK; rw [if_neg (by rw [hlt]; simp)]; split <;> omega
      have HL := Lib.hid hcg; clear hlt hcg
      go_enter Try.func20, Try.ntmps20
      go_wp2_with fail
      go_region_held3 (fun u => u.cell? ⟨w.heap.size, 0, none⟩ = some (.pointer (some a))) (first | exact T1c | exact cell_keep hb1 T1c | exact cell_keep hb2 T1c) (first | (go_at_call 8; refine (size_any t _ _ (by exact Rep.of_heap (by rfl) (((h.alloc _).alloc _).alloc _))).mono ?_; rintro e w1 ⟨rfl, hb1⟩; replace hb1 := Below.ofDrew hb1) | (go_at_call 12; refine (HA1.out _ (by exact (((h.alloc _).alloc _).alloc _).mono hb1)).mono ?_; rintro e w2 ⟨rfl, hb2⟩; replace hb2 := Below.next hb1 hb2))
      have d2 := cell_of (block_keep hb2 T2.out)
      have d1 := cell_of (block_keep hb2 T1.out)
      clear hw1
      go_wp2_with (first | (go_at_call 12; refine (HA2.out _ (by exact (((hu.alloc _).alloc _).alloc _).mono hb2)).mono ?_; rintro e w3 ⟨rfl, hb3⟩; replace hb3 := Below.next hb2 hb3; clear d1 d2; have HB := Lib.hid (block_keep hb3 T3.out); have hc := cell_of HB.out; have hf := frozen_of HB.out) | (go_at_call 31; refine (HL.out _).mono ?_; rintro e w' ⟨c, hc0, rfl, rfl⟩))
      have hc2 := cell_set (u := .pointer none) hc
      exact bodyPost_ret (v := .tuple #[.agg #[.pointer none], .bool false]) (by simp [results, Try.results20, go_sem, hc2]) rfl ⟨none, false, rfl, rfl, (Below.next hb0 hb3).setCell (by simp <;> omega) _⟩
end Go.Proofs.Ytpmcpfmbhebjpaa
