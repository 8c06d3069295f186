/- Comparing keys; keys put into trees. -/
import Derived.Test.YtpmcpfmbhebjpaaE
namespace Go.Proofs.Ytpmcpfmbhebjpaa
open Go.RowKit

/-- What Compare returns. -/
def cmpK (a b : ByteArray) : Int := if Tr.lt a b = true then -1 else if Tr.lt b a = true then 1 else 0

set_option maxHeartbeats 400000 in
theorem nan_any (a : ByteArray) (w : World) : Calls Try.prog 36 #[.string a] w fun e w' => e = .returned (.bool false) ∧ w = w' := by
  go_enter Try.func36, Try.ntmps36
  go_wp2
  go_ret
  exact ⟨by simp, rfl⟩

set_option maxHeartbeats 400000 in
theorem cmp_any (a b : ByteArray) (w : World) : Calls Try.prog 31 #[.string a, .string b] w fun e w' => e = .returned (.int .i64 (cmpK a b)) ∧ w = w' := by
  by_cases h1 : Tr.lt a b = true
  · have h2 : Op.bytesLess a.toList b.toList = true := h1
    have h3 : cmpK a b = -1 := by unfold cmpK; rw [if_pos h1]
    rw [h3]; clear h3 h1
    go_enter Try.func31, Try.ntmps31
    go_wp2_with (go_at_call 36; refine (nan_any _ _).mono ?_; rintro e w' ⟨rfl, rfl⟩)
    go_ret
    exact ⟨rfl, rfl⟩
  · by_cases h4 : Tr.lt b a = true
    · have h5 : Op.bytesLess b.toList a.toList = true := h4
      have h2 : Op.bytesLess a.toList b.toList = false := by simpa [Tr.lt] using h1
      have h3 : cmpK a b = 1 := by unfold cmpK; rw [if_neg h1, if_pos h4]
      have h6 : (a.toList == b.toList) = false := by
        rw [beq_eq_false_iff_ne]; intro e; rw [e] at h5; have := Tr.lt_irrefl b; unfold Tr.lt at this; rw [this] at h5; cases h5
      rw [h3]; clear h3 h1 h4
      go_enter Try.func31, Try.ntmps31
      go_wp2_with (go_at_call 36; refine (nan_any _ _).mono ?_; rintro e w' ⟨rfl, rfl⟩)
      go_ret
      exact ⟨rfl, rfl⟩
    · have e : a = b := Tr.lt_total (by simpa using h1) (by simpa using h4)
      have h2 : Op.bytesLess a.toList b.toList = false := by simpa [Tr.lt] using h1
      have h3 : cmpK a b = 0 := by unfold cmpK; rw [if_neg h1, if_neg h4]
      rw [h3]; clear h3 h1 h4
      subst e
      go_enter Try.func31, Try.ntmps31
      go_wp2_with (go_at_call 36; refine (nan_any _ _).mono ?_; rintro e w' ⟨rfl, rfl⟩)
      go_ret
      exact ⟨rfl, rfl⟩

theorem cmp_lt (a b : ByteArray) (w : World) (h : Tr.lt a b = true) : Calls Try.prog 31 #[.string a, .string b] w fun e w' => e = .returned (.int .i64 (-1)) ∧ w = w' := by
  have := cmp_any a b w; unfold cmpK at this; rwa [if_pos h] at this
theorem cmp_gt (a b : ByteArray) (w : World) (h : Tr.lt a b = false) (h' : Tr.lt b a = true) : Calls Try.prog 31 #[.string a, .string b] w fun e w' => e = .returned (.int .i64 1) ∧ w = w' := by
  have := cmp_any a b w; unfold cmpK at this; rwa [if_neg (by rw [h]; simp), if_pos h'] at this
theorem cmp_eq (a b : ByteArray) (w : World) (h : Tr.lt a b = false) (h' : Tr.lt b a = false) : Calls Try.prog 31 #[.string a, .string b] w fun e w' => e = .returned (.int .i64 0) ∧ w = w' := by
  have := cmp_any a b w; unfold cmpK at this; rwa [if_neg (by rw [h]; simp), if_neg (by rw [h']; simp)] at this
end Go.Proofs.Ytpmcpfmbhebjpaa
