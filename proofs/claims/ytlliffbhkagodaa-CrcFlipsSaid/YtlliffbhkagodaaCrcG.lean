/- CrcSums: the walk of the statement. -/
import Derived.Test.YtlliffbhkagodaaCrcF
namespace Go.Proofs.Ytlliffbhkagodaa
open Go.RowKit
set_option linter.unusedVariables false

set_option maxHeartbeats 400000 in
theorem sums_walk (A A' : Option Addr) (n c n' c' : Nat) (ls : List (List UInt8)) (l : List UInt8) (w : World) (hp : RdP w w.heap.size A n ls) (hc : n ≤ c) (hn : n ≤ 140737488351232)
    (hr : RdB w w.heap.size A' n' l) (hc' : n' ≤ c') (hcm : c' ≤ maxLen) :
    Calls Try.prog 3 #[.slice A n c, .slice A' n' c'] w fun e w' => e = .returned (.bool true) ∧ Below w.heap.size w w' := by
  have hlen := RdB.len hr
  have hplen := hp.1
  by_cases hG : greatB ls = true
  · have HG := hide hG
    clear hG
    go_enter Try.func3, Try.ntmps3
    go_wp2_with fail
    refine (alive_any _).mono ?_
    rintro e w1 ⟨rfl, hb1⟩
    go_wp2_with fail
    refine (great_any A n c ls _ (hp.next hb1) hn).mono ?_
    rintro e w2 ⟨rfl, rfl⟩
    rw [HG.out]
    go_wp2_with fail
    go_ret
    exact ⟨rfl, hb1⟩
  · have hG : greatB ls = false := by simpa using hG
    have hsm : ls.length ≤ 100 ∧ ls.flatten.length ≤ 3000 := by
      unfold greatB at hG
      have := of_decide_eq_false hG
      omega
    obtain ⟨hs1, hs2⟩ := hsm
    have HG := hide hG
    clear hG
    by_cases h3 : 3000 < n'
    · go_enter Try.func3, Try.ntmps3
      go_wp2_with fail
      refine (alive_any _).mono ?_
      rintro e w1 ⟨rfl, hb1⟩
      go_wp2_with fail
      refine (great_any A n c ls _ (hp.next hb1) hn).mono ?_
      rintro e w2 ⟨rfl, rfl⟩
      rw [HG.out]
      go_wp2_with fail
      go_ret
      exact ⟨rfl, hb1⟩
    · go_enter Try.func3, Try.ntmps3
      go_wp2_with fail
      refine (alive_any _).mono ?_
      rintro e w1 ⟨rfl, hb1⟩
      go_wp2_with fail
      refine (great_any A n c ls _ (hp.next hb1) hn).mono ?_
      rintro e w2 ⟨rfl, rfl⟩
      rw [HG.out]
      have p1 := hp.next hb1
      have r1 := Rd.next hr hb1
      clear hp hr
      go_wp2_with fail
      refine (join_any A n c ls _ p1 hn (by omega)).mono ?_
      rintro e w2 ⟨v2, rfl, own2, hb2⟩
      obtain ⟨F, HF⟩ : ∃ F, Hid (ls.flatten = F) := ⟨_, rfl⟩
      rw [HF.out] at own2 hs2
      have p2 := p1.next hb2
      have r2 := Rd.next r1 hb2
      have B2 := hb1.trans (hb2.mono hb1.size)
      clear p1 r1 hb1 hb2
      obtain ⟨A2, c2, rfl, hc2, hm2, rr2⟩ := own2.form
      clear own2
      go_wp2_with fail
      refine (copyBytes_any A' n' c' l _ r2 (by omega)).mono ?_
      rintro e w3 ⟨v3, rfl, own3, hb3⟩
      have p3 := p2.next hb3
      have r3 := Rd.next r2 hb3
      have q3 := Rd.next rr2 hb3
      have B3 := B2.trans (hb3.mono B2.size)
      clear p2 r2 rr2 hb3 B2
      obtain ⟨A3, c3, rfl, hc3, hm3, o3⟩ := own3.form
      clear own3
      go_wp2_with fail
      refine (open_any A3 n' c3 l _ o3 hc3 hm3 (by omega)).mono ?_
      rintro e w4 ⟨v4, rfl, own4, hb4⟩
      have p4 := p3.next hb4
      have r4 := Rd.next r3 hb4
      have q4 := Rd.next q3 hb4
      have o4 := Rd.next o3 hb4
      have B4 := B3.trans (hb4.mono B3.size)
      clear p3 r3 q3 o3 hb4 B3
      obtain ⟨A4, c4, rfl, hc4, hm4, s4⟩ := own4.form
      clear own4
      go_wp2_with fail
      refine (refOpen_any A' n' c' l _ r4 hc' hcm (by omega)).mono ?_
      rintro e w5 ⟨v5, rfl, own5, hb5⟩
      have p5 := p4.next hb5
      have r5 := Rd.next r4 hb5
      have q5 := Rd.next q4 hb5
      have o5 := Rd.next o4 hb5
      have s5 := Rd.next s4 hb5
      have B5 := B4.trans (hb5.mono B4.size)
      clear p4 r4 q4 o4 s4 hb5 B4
      obtain ⟨A5, c5, rfl, hc5, hm5, t5⟩ := own5.form
      clear own5
      go_wp2_with fail
      refine (crcSum_any A n c ls _ p5 (by simp only [maxLen]; omega)).mono ?_
      rintro e w6 ⟨rfl, rfl⟩
      rw [HF.out]
      go_wp2_with fail
      refine (refSum_any A2 F.length c2 F _ q5 (by omega)).mono ?_
      rintro e w6 ⟨rfl, rfl⟩
      go_wp2_with fail
      refine (seal_any A n c ls _ p5 hc hn (by rw [HF.out]; omega)).mono ?_
      rintro e w6 ⟨v6, rfl, own6, hb6⟩
      rw [HF.out] at own6
      have r6 := Rd.next r5 hb6
      have q6 := Rd.next q5 hb6
      have o6 := Rd.next o5 hb6
      have s6 := Rd.next s5 hb6
      have t6 := Rd.next t5 hb6
      have B6 := B5.trans (hb6.mono B5.size)
      clear p5 r5 q5 o5 s5 t5 hb6 B5
      obtain ⟨A6, c6, rfl, hc6, hm6, u6⟩ := own6.form
      clear own6
      go_wp2_with fail
      refine (refSeal_any A2 F.length c2 F _ q6 (by omega)).mono ?_
      rintro e w7 ⟨v7, rfl, own7, hb7⟩
      have r7 := Rd.next r6 hb7
      have o7 := Rd.next o6 hb7
      have s7 := Rd.next s6 hb7
      have t7 := Rd.next t6 hb7
      have u7 := Rd.next u6 hb7
      have B7 := B6.trans (hb7.mono B6.size)
      clear r6 q6 o6 s6 t6 u6 hb7 B6
      obtain ⟨A7, c7, rfl, hc7, hm7, x7⟩ := own7.form
      clear own7
      go_wp2_with fail
      refine (sameBytes_any A6 A7 _ _ _ _ _ _ _ u7 x7 (by simp only [maxLen]; omega)).mono ?_
      rintro e w8 ⟨rfl, nq, rfl⟩
      rw [decide_eq_true rfl]
      go_wp2_with fail
      refine (sameBytes_any A4 A5 _ _ _ _ _ _ _ (s7.drewN nq) (t7.drewN nq) (by omega)).mono ?_
      rintro e w9 ⟨rfl, nq2, rfl⟩
      rw [decide_eq_true rfl]
      go_wp2_with fail
      refine (sameBytes_any A3 A' _ _ _ _ _ _ _ (o7.drewN _) (r7.drewN _) (by simp only [maxLen]; omega)).mono ?_
      rintro e w10 ⟨rfl, nq3, rfl⟩
      rw [decide_eq_true rfl]
      go_wp2_with fail
      go_ret
      exact ⟨rfl, below_drewN B7 _⟩
end Go.Proofs.Ytlliffbhkagodaa
