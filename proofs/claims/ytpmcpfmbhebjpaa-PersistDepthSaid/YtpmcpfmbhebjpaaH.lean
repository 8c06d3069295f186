/- Trees linked. -/
import Derived.Test.YtpmcpfmbhebjpaaG
import Derived.Test.YtpmcpfmbhebjpaaU
namespace Go.Proofs.Ytpmcpfmbhebjpaa
open Go.RowKit

set_option maxHeartbeats 1600000 in
theorem link_any (mk : ByteArray) (mv : Int) (x y : Tr) (pm : Option Addr) (n : Nat) : ∀ (l r : Tr) (pl pr : Option Addr) (w : World), l.size + r.size ≤ n → Rep w pl l → Rep w pm (.node mk mv x y) → Rep w pr r → l.size + r.size + 1 ≤ 1000000000000 →
    Calls Try.prog 34 #[.pointer pl, .pointer pm, .pointer pr] w (Makes w (Tr.link mk mv l r)) := by
  induction n with
  | zero =>
    intro l r pl pr w hn hl hm hr hs
    have dl := l.height_le_size
    have dr := r.height_le_size
    rw [Tr.link_here _ _ _ _ (by omega) (by omega)]
    go_enter Try.func34, Try.ntmps34
    go_wp2_with (first | (go_at_call_of 21 pl; refine (height_any pl l _ hl).mono ?_; rintro e w' ⟨rfl, rfl⟩) | (go_at_call_of 21 pr; refine (height_any pr r _ hr).mono ?_; rintro e w' ⟨rfl, rfl⟩) | (go_at_call 32; refine (with_any _ _ _ mk mv _ _ l r _ hm hl hr (by omega)).mono ?_; rintro e w1 ⟨q1, rfl, hq1, hb1⟩))
    go_ret
    exact ⟨_, rfl, hq1, hb1⟩
  | succ n ih =>
    intro l r pl pr w hn hl hm hr hs
    have IH := Lib.hid ih; clear ih
    have dl := l.height_le_size
    have dr := r.height_le_size
    by_cases h1 : r.height + 1 < l.height
    · cases l with
      | nil => simp [Tr.height] at h1
      | node k v ll lr =>
        rw [Tr.link_left _ _ _ _ _ _ _ h1]
        have hsz := Tr.size_link mk mv lr r
        simp only [Tr.size] at hs hn dl
        generalize hH : (Tr.node k v ll lr).height = H at *
        have HH := Lib.hid hH; clear hH
        obtain ⟨b, pll, plr, rfl, hll, hlr, c0, c1, c2, c3, c4, c5⟩ := hl.cells
        clear c0 c1 c4 c5
        go_enter Try.func34, Try.ntmps34
        go_wp2_with (first | (go_at_call_of 21 pr; refine (height_any pr r _ hr).mono ?_; rintro e w' ⟨rfl, rfl⟩) | (go_at_call_of 21 b; refine (height_any _ _ _ hl).mono ?_; rintro e w' ⟨rfl, rfl⟩; rw [HH.out]))
        go_region_held3 (fun u => u.cell? ⟨b, 2, none⟩ = some (.pointer pll) ∧ u.cell? ⟨b, 3, none⟩ = some (.pointer plr)) (first | exact ⟨c2, c3⟩ | exact ⟨cell_keep hb1 c2, cell_keep hb1 c3⟩ | exact ⟨cell_keep hb2 c2, cell_keep hb2 c3⟩ | exact ⟨cell_keep hb3 c2, cell_keep hb3 c3⟩) (first | (go_at_call 34; refine (IH.out lr r _ _ _ (by omega) (by exact hlr.drew) (by exact hm.drew) (by exact hr.drew) (by omega)).mono ?_; rintro e w1 ⟨q1, rfl, hq1, hb1⟩; replace hb1 := Below.ofDrew hb1) | (go_at_call 32; refine (with_any _ _ _ k v _ _ ll _ _ (by exact hl.mono hb1) (by exact hll.mono hb1) hq1 (by omega)).mono ?_; rintro e w2 ⟨q2, rfl, hq2, hb2⟩; replace hb2 := Below.next hb1 hb2) | (go_at_call 33; refine (bal_any _ _ _ _ _ _ hq2 (by omega)).mono ?_; rintro e w3 ⟨q3, rfl, hq3, hb3⟩; replace hb3 := Below.next hb2 hb3))
        go_wp2
        go_ret
        exact ⟨_, rfl, hq3, hb3⟩
    · by_cases h2 : l.height + 1 < r.height
      · cases r with
        | nil => simp [Tr.height] at h2
        | node k v rl rr =>
          rw [Tr.link_right _ _ _ _ _ _ _ h2]
          have hsz := Tr.size_link mk mv l rl
          simp only [Tr.size] at hs hn dr
          generalize hH : (Tr.node k v rl rr).height = H at *
          have HH := Lib.hid hH; clear hH
          obtain ⟨b, prl, prr, rfl, hrl, hrr, c0, c1, c2, c3, c4, c5⟩ := hr.cells
          clear c0 c1 c4 c5
          go_enter Try.func34, Try.ntmps34
          go_wp2_with (first | (go_at_call_of 21 pl; refine (height_any pl l _ hl).mono ?_; rintro e w' ⟨rfl, rfl⟩) | (go_at_call_of 21 b; refine (height_any _ _ _ hr).mono ?_; rintro e w' ⟨rfl, rfl⟩; rw [HH.out]))
          go_region_held3 (fun u => u.cell? ⟨b, 2, none⟩ = some (.pointer prl) ∧ u.cell? ⟨b, 3, none⟩ = some (.pointer prr)) (first | exact ⟨c2, c3⟩ | exact ⟨cell_keep hb1 c2, cell_keep hb1 c3⟩ | exact ⟨cell_keep hb2 c2, cell_keep hb2 c3⟩ | exact ⟨cell_keep hb3 c2, cell_keep hb3 c3⟩) (first | (go_at_call 34; refine (IH.out l rl _ _ _ (by omega) (by exact hl.drew) (by exact hm.drew) (by exact hrl.drew) (by omega)).mono ?_; rintro e w1 ⟨q1, rfl, hq1, hb1⟩; replace hb1 := Below.ofDrew hb1) | (go_at_call 32; refine (with_any _ _ _ k v _ _ _ rr _ (by exact hr.mono hb1) hq1 (by exact hrr.mono hb1) (by omega)).mono ?_; rintro e w2 ⟨q2, rfl, hq2, hb2⟩; replace hb2 := Below.next hb1 hb2) | (go_at_call 33; refine (bal_any _ _ _ _ _ _ hq2 (by omega)).mono ?_; rintro e w3 ⟨q3, rfl, hq3, hb3⟩; replace hb3 := Below.next hb2 hb3))
          go_wp2
          go_ret
          exact ⟨_, rfl, hq3, hb3⟩
      · rw [Tr.link_here _ _ _ _ h1 h2]
        go_enter Try.func34, Try.ntmps34
        go_wp2_with (first | (go_at_call_of 21 pl; refine (height_any pl l _ hl).mono ?_; rintro e w' ⟨rfl, rfl⟩) | (go_at_call_of 21 pr; refine (height_any pr r _ hr).mono ?_; rintro e w' ⟨rfl, rfl⟩) | (go_at_call 32; refine (with_any _ _ _ mk mv _ _ l r _ hm hl hr (by omega)).mono ?_; rintro e w1 ⟨q1, rfl, hq1, hb1⟩))
        go_ret
        exact ⟨_, rfl, hq1, hb1⟩
end Go.Proofs.Ytpmcpfmbhebjpaa
