/- The law PersistDepth returns true for every list of operations, and its argument reads behind the call as it read before: no condition. -/
import Derived.Test.YtpmcpfmbhebjpaaNf
import Derived.ProofKit
import Derived.OpenShut
import Derived.ChangeOld
import Derived.Deep.Slices
namespace Go.Proofs.Ytpmcpfmbhebjpaa
open Go.ChangeShapes Go.WideShapes Go.ChangeAt Go.RowKit Go.Deep

theorem Try.own : ownKnob Try.prog.godebug = none := by kernel_rfl
theorem Try.laidOut : laidOutB Try.prog = true := by kernel_rfl
theorem Try.cells30 : Try.prog.cellsOf 30 = 5 := by kernel_rfl
theorem Try.cells5 : Try.prog.cellsOf 5 = 1 := by kernel_rfl
theorem Try.cells9 : Try.prog.cellsOf 9 = 1 := by kernel_rfl
theorem Try.cells3 : Try.prog.cellsOf 3 = 1 := by kernel_rfl

section
variable {H : Type} {enc : TypeId × Value → H} {w : World} {base : Nat} {spare : Nat → Bool} {held : Bool}

theorem open_u8 {n : Nat} {c : Value} {y : DataW H × List MemPlace} (h : DataW.trod enc Try.prog w base spare held n 5 [c] = some y) : ∃ k : Nat, k ≤ 255 ∧ c = .int .u8 (k : Int) := by
  obtain ⟨m, hc, _, hw⟩ := DataW.trod_int Try.underlying5 h
  have hb := bounds_u8 hw
  refine ⟨m.toNat, by omega, ?_⟩
  simp only [List.cons.injEq, and_true] at hc
  rw [hc, Int.toNat_of_nonneg (by omega)]

/-- An operation opened: its five cells. -/
theorem open_op {n : Nat} {cs : List Value} {x : DataW H × List MemPlace} (h : DataW.trod enc Try.prog w base spare held n 30 cs = some x) :
    ∃ d : OpD, d.kind ≤ 255 ∧ d.tree ≤ 255 ∧ d.other ≤ 255 ∧ cs = [.int .u8 (d.kind : Int), .int .u8 (d.tree : Int), .int .u8 (d.other : Int), .string d.key, .int .i64 d.value] := by
  obtain ⟨ys, m, _, _, hlen, hyl, hf⟩ := DataW.trod_struct Try.underlying30 h
  rw [Try.cells30] at hlen
  match cs, hlen with
  | [c0, c1, c2, c3, c4], _ =>
    have hy : ∀ i, i < 5 → ∃ y, ys[i]? = some y := fun i hi => ⟨_, List.getElem?_eq_getElem (by rw [hyl]; exact hi)⟩
    obtain ⟨y0, e0⟩ := hy 0 (by omega)
    obtain ⟨y1, e1⟩ := hy 1 (by omega)
    obtain ⟨y2, e2⟩ := hy 2 (by omega)
    obtain ⟨y3, e3⟩ := hy 3 (by omega)
    obtain ⟨y4, e4⟩ := hy 4 (by omega)
    have f0 : DataW.trod enc Try.prog w base spare held m 5 (List.take (Try.prog.cellsOf 5) (List.drop 0 [c0, c1, c2, c3, c4])) = ys[0]? := hf 0 _ rfl
    rw [Try.cells5, e0] at f0
    replace f0 : DataW.trod enc Try.prog w base spare held m 5 [c0] = some y0 := f0
    have f1 : DataW.trod enc Try.prog w base spare held m 5 (List.take (Try.prog.cellsOf 5) (List.drop 1 [c0, c1, c2, c3, c4])) = ys[1]? := hf 1 _ rfl
    rw [Try.cells5, e1] at f1
    replace f1 : DataW.trod enc Try.prog w base spare held m 5 [c1] = some y1 := f1
    have f2 : DataW.trod enc Try.prog w base spare held m 5 (List.take (Try.prog.cellsOf 5) (List.drop 2 [c0, c1, c2, c3, c4])) = ys[2]? := hf 2 _ rfl
    rw [Try.cells5, e2] at f2
    replace f2 : DataW.trod enc Try.prog w base spare held m 5 [c2] = some y2 := f2
    have f3 : DataW.trod enc Try.prog w base spare held m 9 (List.take (Try.prog.cellsOf 9) (List.drop 3 [c0, c1, c2, c3, c4])) = ys[3]? := hf 3 _ rfl
    rw [Try.cells9, e3] at f3
    replace f3 : DataW.trod enc Try.prog w base spare held m 9 [c3] = some y3 := f3
    have f4 : DataW.trod enc Try.prog w base spare held m 3 (List.take (Try.prog.cellsOf 3) (List.drop 4 [c0, c1, c2, c3, c4])) = ys[4]? := hf 4 _ rfl
    rw [Try.cells3, e4] at f4
    replace f4 : DataW.trod enc Try.prog w base spare held m 3 [c4] = some y4 := f4
    obtain ⟨k0, b0, rfl⟩ := open_u8 f0
    obtain ⟨k1, b1, rfl⟩ := open_u8 f1
    obtain ⟨k2, b2, rfl⟩ := open_u8 f2
    obtain ⟨s, hs, _, _⟩ := DataW.trod_string Try.underlying9 f3
    obtain ⟨v, hv, _, _⟩ := DataW.trod_int Try.underlying3 f4
    simp only [List.cons.injEq, and_true] at hs hv
    subst hs hv
    exact ⟨⟨k0, k1, k2, s, v⟩, b0, b1, b2, rfl⟩
end

instance : Inhabited OpD := ⟨⟨0, 0, 0, ByteArray.empty, 0⟩⟩

set_option maxRecDepth 100000 in
theorem persist_lifted (os : Os) (started : os.Started) (H : Type) (enc : TypeId × Value → H) :
    ReturnsInHanded {} Try.checked os 3 .any (Rows.persistDepthSpec.pre6 enc Try.prog Try.f3 Rows.persistDepthRow.domain false) (Rows.persistDepthSpec.post enc Try.prog Try.f3 false true false false) := by
  refine returnsInHanded_of_change (C := Try.checked) Try.own started (by kernel_rfl) Try.func3
    (ChangeSpec.witness6 (enc := enc) (C := Try.checked) false ⟨#[], #[.slice none 0 0], []⟩ 8 (by kernel_rfl) (by kernel_rfl) (by kernel_rfl) (by kernel_rfl)) ?_
  intro W base args ds gs before hval0 hW hcnd _
  have hval : ∀ (j : Nat) t v, Try.f3.params[j]? = some t → args[j]? = some v → Value.okWide Try.prog W .any base t v := hval0
  have hW' := hW
  obtain ⟨p, q, hA0, hV, rfl, hfz, hnd⟩ := hW
  have hA : DataW.TrodAll enc Try.prog W 0 (fun _ => true) true Try.f3.params.toList args.toList ds p := hA0
  rw [Try.params3] at hA hval
  obtain ⟨v0, vs0, d0, ds0, p0, q0, hargs, rfl, rfl, h0, r0⟩ := trodAll_cons hA
  obtain ⟨rfl, rfl, rfl⟩ := trodAll_nil r0
  obtain rfl : args = #[v0] := by cases args; simp_all
  obtain ⟨rfl, rfl⟩ := trodVars_none hV
  obtain ⟨a0, len0, cap0, rfl⟩ := okWide_slice Try.underlying22 (hval 0 22 v0 rfl rfl)
  have k0 := h0
  have lt0 : ∀ x ∈ p0, x.block < W.heap.size := by obtain ⟨m, hm⟩ := k0; exact DataW.trod_lt m _ _ _ hm
  obtain ⟨D, w0⟩ : ∃ D, IsOps W a0 len0 D := by
    obtain ⟨fuel, hf⟩ := h0
    rcases open_slice Try.underlying22 hf with ⟨hcs, _⟩ | ⟨x, l, c, m, n, Dx, Pl, hcs, _, hl, hm, hmm, _, hel⟩
    · simp [Value.cells] at hcs
      obtain ⟨rfl, rfl, rfl⟩ := hcs
      exact ⟨fun _ => default, .inl rfl⟩
    · simp [Value.cells] at hcs
      obtain ⟨rfl, rfl, rfl⟩ := hcs
      simp only [if_true] at hmm
      subst hmm
      rw [Try.cells30] at hel
      by_cases hz : len0 = 0
      · exact ⟨fun _ => default, .inl hz⟩
      · have spot : x.spot = none := by
          obtain ⟨cs', h1, _⟩ := hel 0 (by omega)
          obtain ⟨_, h2, h3⟩ := World.cells?_some h1
          have h4 := h3 0 (by omega)
          rw [List.getElem?_eq_getElem (by omega)] at h4
          have := World.cell?_spot h4
          simpa [Addr.add] using this
        obtain ⟨b, o, sp⟩ := x
        simp only at spot
        subst spot
        obtain ⟨D, hD⟩ := choose_lt (α := OpD) (n := len0) (p := fun i d => OpAt W b (o + i * 5) d) (fun i hi => by
          obtain ⟨cs', h1, h2⟩ := hel i (by omega)
          obtain ⟨_, h3, h4⟩ := World.cells?_some h1
          obtain ⟨d, b0, b1, b2, rfl⟩ := open_op h2
          have hadd : ∀ j, ((⟨b, o, none⟩ : Addr).add (i * 5)).add j = ⟨b, o + i * 5 + j, none⟩ := fun j => by
            rw [add_add]; unfold Addr.add; split <;> simp_all <;> omega
          have c : ∀ j u, j < 5 → [Value.int .u8 (d.kind : Int), .int .u8 (d.tree : Int), .int .u8 (d.other : Int), .string d.key, .int .i64 d.value][j]? = some u → W.cell? ⟨b, o + i * 5 + j, none⟩ = some u := fun j u hj hu => by
            rw [← hadd, h4 j hj, hu]
          exact ⟨d, b0, b1, b2, c 0 _ (by omega) rfl, c 1 _ (by omega) rfl, c 2 _ (by omega) rfl, c 3 _ (by omega) rfl, c 4 _ (by omega) rfl⟩)
        exact ⟨D, .inr ⟨b, o, rfl, hD⟩⟩
  clear hA0 hval0
  refine (law_any a0 len0 cap0 D W w0).mono fun e W' ⟨he, bel⟩ => ?_
  subst he
  exact ⟨_, rfl, _, _, _, [], _, [], hW', trodAll_mk1 (shut_bool Try.underlying4 _), (trodAll_cons_mk (Below.trod Try.laidOut (by kernel_rfl) (of_decide_eq_true (by kernel_rfl)) k0 bel lt0) trodAll_mk0), rfl, bel.frame _, fun h => by cases h⟩

/-- The statement. -/
theorem persistDepth_holds : Rows.PersistDepthSaid :=
  OpenClaim.holds_of_wide 3 Try.f3 rfl rfl rfl rfl rfl rfl rfl ⟨rfl, rfl, rfl, rfl, rfl⟩ rfl rfl rfl rfl rfl (by kernel_rfl) Try.func3 (by kernel_rfl)
    (of_decide_eq_true (by kernel_rfl)) (by unfold Func.isWrapper; first | (rw [if_pos (by decide +kernel)]; kernel_rfl) | (rw [if_neg (by decide +kernel)]; exact ⟨rfl, rfl⟩))
    (fun os started H enc _ => persist_lifted os started H enc)
#print axioms persistDepth_holds
end Go.Proofs.Ytpmcpfmbhebjpaa
