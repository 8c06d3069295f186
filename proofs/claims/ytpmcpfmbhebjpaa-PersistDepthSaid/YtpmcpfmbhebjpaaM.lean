/- Trees made by the methods. -/
import Derived.Test.YtpmcpfmbhebjpaaJ
import Derived.Test.YtpmcpfmbhebjpaaK
namespace Go.Proofs.Ytpmcpfmbhebjpaa
open Go.RowKit

/-- A store into a block of one cell of a tree's own type turns no node. -/
theorem Rep.setCell {w : World} {a : Addr} {v : Value} {c : Array Value} {fr : Nat × Nat} (ha : w.heap[a.block]? = some (.cells c 27 fr)) : ∀ {t : Tr} {p : Option Addr}, Rep w p t → Rep (w.setCell a v) p t
  | .nil, _, h => h
  | .node _ _ _ _, _, ⟨b, pl, pr, hp, hh, hl, hr⟩ => by
    refine ⟨b, pl, pr, hp, ?_, Rep.setCell ha hl, Rep.setCell ha hr⟩
    rw [Below.heap_setCell _ _ _ _ (by rintro rfl; rw [ha] at hh; cases hh)]
    exact hh

/-- What a call says that makes a tree as a value. -/
def MakesT (w : World) (t : Tr) (e : Ending) (w' : World) : Prop := ∃ q, e = .returned (.agg #[.pointer q]) ∧ Rep w' q t ∧ Below w.heap.size w w'

theorem block_keep {w w1 : World} {k : Nat} {o : Obj} (hb : Below w.heap.size w w1) (h : w.heap[k]? = some o) : w1.heap[k]? = some o := by
  rw [hb.block k ?_]; exact h
  rcases Nat.lt_or_ge k w.heap.size with h' | h'
  · exact h'
  · rw [Array.getElem?_eq_none h'] at h; cases h

theorem cell_of {w : World} {k : Nat} {v : Value} {ty : TypeId} {fr : Nat × Nat} (h : w.heap[k]? = some (.cells #[v] ty fr)) : w.cell? ⟨k, 0, none⟩ = some v := by simp [World.cell?, h]
theorem frozen_of {w : World} {k : Nat} {v : Value} {ty : TypeId} (h : w.heap[k]? = some (.cells #[v] ty (0, 0))) : w.frozen? ⟨k, 0, none⟩ = false := by simp [World.frozen?, h]

theorem two_blocks (w : World) (a b : Obj) : ((w.alloc a).alloc b).heap[w.heap.size]? = some a ∧ ((w.alloc a).alloc b).heap[w.heap.size + 1]? = some b := by
  constructor
  · show ((w.heap.push a).push b)[w.heap.size]? = _; simp [Array.getElem?_push]
  · show ((w.heap.push a).push b)[w.heap.size + 1]? = _; rw [show w.heap.size + 1 = (w.heap.push a).size by simp]; exact Array.getElem?_push_size

theorem below2 (w : World) (a b : Obj) : Below w.heap.size w ((w.alloc a).alloc b) := ((Below.refl _ _).alloc (Nat.le_refl _) _).alloc (by simp) _

theorem cell_set {w : World} {a : Addr} {v u : Value} (h : w.cell? a = some v) : (w.setCell a u).cell? a = some u := by
  unfold World.cell? World.setCell at *
  simp only [Array.getElem?_modify, if_true]
  split at h
  · rename_i c e f hh
    rw [hh]
    simp only [Option.map_some]
    split at h
    · cases h
    · rename_i hs
      simp only [hs]
      have : a.off < c.size := by
        rcases Nat.lt_or_ge a.off c.size with h' | h'
        · exact h'
        · rw [Array.getElem?_eq_none h'] at h; cases h
      simp [this]
  · cases h

set_option maxHeartbeats 400000 in
theorem Put_any (k : ByteArray) (v : Int) (t : Tr) (p : Option Addr) (w : World) (h : Rep w p t) (hs : t.size + 1 ≤ 1000000000000) :
    Calls Try.prog 11 #[.agg #[.pointer p], .string k, .int .i64 v] w (MakesT w (Tr.put k v t)) := by
  obtain ⟨t1, t2⟩ := two_blocks w (.cells #[.pointer p] 27) (.cells #[.pointer none] 27)
  have hb0 := below2 w (.cells #[.pointer p] 27) (.cells #[.pointer none] 27)
  have T2 := Lib.hid t2; clear t1 t2
  go_enter Try.func11, Try.ntmps11
  go_wp2_with (go_at_call 24; refine (put_any k v t p _ (by exact (h.alloc _).alloc _) hs).mono ?_; rintro e w1 ⟨q, rfl, hq, hb⟩; have HB := Lib.hid (block_keep hb T2.out); have hc := cell_of HB.out; have hf := frozen_of HB.out)
  have hc2 := cell_set (u := .pointer q) hc
  exact bodyPost_ret (v := .agg #[.pointer q]) (by simp [results, Try.results11, go_sem, hc2]) rfl ⟨q, rfl, Rep.setCell HB.out hq, (Below.next hb0 hb).setCell (by simp) _⟩

set_option maxHeartbeats 800000 in
theorem Delete_any (k : ByteArray) (t : Tr) (p : Option Addr) (w : World) (h : Rep w p t) (hs : t.size ≤ 1000000000000) :
    Calls Try.prog 19 #[.agg #[.pointer p], .string k] w (MakesT w (Tr.delete k t)) := by
  obtain ⟨t1, t2⟩ := two_blocks w (.cells #[.pointer p] 27) (.cells #[.pointer none] 27)
  have hb0 := below2 w (.cells #[.pointer p] 27) (.cells #[.pointer none] 27)
  have T1 := Lib.hid t1; have T2 := Lib.hid t2; clear t1 t2
  have hsp := Tr.size_split k t
  cases hh : Tr.has k t with
  | false =>
    have e : Tr.delete k t = t := by unfold Tr.delete; rw [hh]; rfl
    rw [e]; clear e
    have HH := Lib.hid hh; clear hh
    go_enter Try.func19, Try.ntmps19
    go_wp2_with (go_at_call 29; refine (get_any k t p _ (by exact (h.alloc _).alloc _) hs).mono ?_; rintro e w1 ⟨⟨v, rfl⟩, hb⟩; rw [HH.out]; have HB := Lib.hid (block_keep hb T2.out); have hc := cell_of HB.out; have hf := frozen_of HB.out; have hc1 := cell_of (block_keep hb T1.out))
    have hc2 := cell_set (u := .pointer p) hc
    exact bodyPost_ret (v := .agg #[.pointer p]) (by simp [results, Try.results19, go_sem, hc2]) rfl ⟨p, rfl, Rep.setCell HB.out (((h.alloc _).alloc _).mono hb), (Below.next hb0 hb).setCell (by simp) _⟩
  | true =>
    have e : Tr.delete k t = Tr.concat (Tr.split k t).1 (Tr.split k t).2 := by unfold Tr.delete; rw [hh]; rfl
    rw [e]; clear e
    have HH := Lib.hid hh; clear hh
    go_enter Try.func19, Try.ntmps19
    go_wp2_with (first | (go_at_call 29; refine (get_any k t p _ (by exact (h.alloc _).alloc _) hs).mono ?_; rintro e w1 ⟨⟨v, rfl⟩, hb⟩; rw [HH.out]; have hc1 := cell_of (block_keep hb T1.out)) | (go_at_call 28; refine (split_any k t p _ (by exact ((h.alloc _).alloc _).mono hb) hs).mono ?_; rintro e w2 ⟨q1, q2, rfl, hq1, hq2, hb2⟩) | (go_at_call 30; refine (concat_any _ _ _ _ _ hq1 hq2 (by omega)).mono ?_; rintro e w3 ⟨q, rfl, hq, hb3⟩; have HB := Lib.hid (block_keep hb3 (block_keep hb2 (block_keep hb T2.out))); have hc := cell_of HB.out; have hf := frozen_of HB.out))
    have hc2 := cell_set (u := .pointer q) hc
    exact bodyPost_ret (v := .agg #[.pointer q]) (by simp [results, Try.results19, go_sem, hc2]) rfl ⟨q, rfl, Rep.setCell HB.out hq, (Below.next (Below.next (Below.next hb0 hb) hb2) hb3).setCell (by simp) _⟩
end Go.Proofs.Ytpmcpfmbhebjpaa
