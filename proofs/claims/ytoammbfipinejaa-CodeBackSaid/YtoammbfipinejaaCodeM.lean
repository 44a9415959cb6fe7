/- CodeBack. -/
import Derived.Test.YtoammbfipinejaaCodeL
namespace Go.Proofs.Ytoammbfipinejaa
open Go.ChangeShapes Go.WideShapes Go.ChangeAt Go.RowKit Go.Deep
set_option linter.unusedVariables false
set_option linter.unusedSimpArgs false

theorem encTs_len : ∀ (l : List ByteArray) (q : Nat), (∀ x ∈ l, x.size ≤ q) → (encTs l).length ≤ (10 + q) * l.length
  | [], q, _ => by simp [encTs]
  | x :: r, q, h => by
    have h1 := encTs_len r q (fun y hy => h y (List.mem_cons_of_mem _ hy))
    have h2 := encT_len x
    have h3 := h x (by simp)
    have h4 : encTs (x :: r) = encT x ++ encTs r := by simp [encTs]
    rw [h4, List.length_append, List.length_cons, Nat.mul_succ]
    omega
set_option maxHeartbeats 1000000 in
set_option maxRecDepth 100000 in
theorem back_walk (A B C : Option Addr) (n m p cn cm cp : Nat) (cut : Int) (a : List Nat) (b : List Int) (c : List ByteArray) (w : World)
    (ha : Rd w w.heap.size 1 A n (a.map u64v)) (hb : Rd w w.heap.size 1 B m (b.map i64v)) (hc : Rd w w.heap.size 1 C p (c.map strv))
    (na : n ≤ 140737488351232) (nb : m ≤ 140737488351232) (nc : p ≤ 140737488351232) (ct1 : -9223372036854775808 ≤ cut) (ct2 : cut ≤ 9223372036854775807)
    (la : ∀ x ∈ a, x < 18446744073709551616) (lb : ∀ x ∈ b, -9223372036854775808 ≤ x ∧ x ≤ 9223372036854775807) (lc : ∀ x ∈ c, x.size ≤ 140737488351232) :
    Calls Try.prog 5 #[.slice A n cn, .slice B m cm, .slice C p cp, .int .i64 cut] w fun e w' => e = .returned (.bool true) ∧ Below w.heap.size w w' := by
  obtain ⟨i0, hi0, hz0, hz1, hz2⟩ := info_parts Try.info8
  have HNA := hide ha.len
  have HNB := hide hb.len
  have HNC := hide hc.len
  have HLA := hide la
  have HLB := hide lb
  have HLC := hide lc
  clear la lb lc
  by_cases hg : 100 < n + m + p
  · go_enter Try.func5, Try.ntmps5
    go_wp2_with fail
    refine (alive_any _).mono ?_
    rintro e w1 ⟨rfl, hb1⟩
    go_wp2_with fail
    go_ret
    exact ⟨rfl, hb1⟩
  go_enter Try.func5, Try.ntmps5
  go_wp2_with fail
  refine (alive_any _).mono ?_
  rintro e w1 ⟨rfl, B1⟩
  go_wp2_with fail
  go_loopw [8, 9] (fun _ i wr => ∃ k : Nat, k ≤ p ∧ i = .int .i64 k ∧ wr = w1 ∧ Hid (∀ j x, j < k → c[j]? = some x → x.size ≤ 300)) (fun _ i _ => p - (intOf i).toNat)
  case atStart => exact ⟨0, Nat.zero_le _, rfl, rfl, hide (fun j x hj => by omega)⟩
  case round =>
    obtain ⟨k, hk, rfl, rfl, HJ⟩ := hrel
    by_cases hk1 : k < p
    · obtain ⟨ba, off, rfl, hbb, x, hx, hcell⟩ := hc.get hk1
      have hc' := (B1.cell (p := ⟨ba, off + k, none⟩) hbb).trans hcell
      unfold strv at hc'
      have HX := hide hx
      have hxl := HLC.out x (List.mem_of_getElem? hx)
      clear hx hcell
      by_cases hbig : 300 < x.size
      · go_wp2_with fail
        go_ret
        exact ⟨rfl, B1⟩
      · go_wp2_with fail
        go_roundw
        case rel =>
          refine ⟨k + 1, by omega, by go_num, trivial, hide (fun j y hj hy => ?_)⟩
          rcases Nat.lt_succ_iff_lt_or_eq.1 hj with h | h
          · exact HJ.out j y h hy
          · subst h
            rw [HX.out] at hy
            injection hy with hy
            subst hy
            omega
        case measure => simp [intOf]; omega
    · have HCL := hide (show ∀ x ∈ c, x.size ≤ 300 from by
        intro x hx
        obtain ⟨j, hj, he⟩ := List.getElem_of_mem hx
        exact HJ.out j x (by have := HNC.out; omega) (by rw [List.getElem?_eq_getElem hj, he]))
      clear HJ
      go_wp2_with fail
      refine (uints_any A n cn a _ ((ha.below B1).more B1.size) (by omega) HLA.out).mono ?_
      rintro e w2 ⟨v2, rfl, own2, hb2⟩
      have B2 := B1.trans (hb2.mono B1.size)
      have L2 := hide hb2
      clear hb2
      go_wp2_with fail
      refine (ints_any B m cm b _ ((hb.below B2).more B2.size) (by omega) HLB.out).mono ?_
      rintro e w3 ⟨v3, rfl, own3, hb3⟩
      have B3 := B2.trans (hb3.mono B2.size)
      have own2' := own2.next hb3
      obtain ⟨A3, c3, rfl, _, _, r3⟩ := own3.form
      have HEA := hide (show (encs a).length ≤ 1000 by have := encs_len a; have := HNA.out; omega)
      have HEB := hide (show (encs (b.map turnN)).length ≤ 1000 by have := encs_len (b.map turnN); have := HNB.out; simp only [List.length_map] at *; omega)
      have HEC := hide (show (encTs c).length ≤ 31000 by have := encTs_len c 300 HCL.out; have := HNC.out; have : (10 + 300) * c.length ≤ 310 * 100 := Nat.mul_le_mul_left _ (by omega); omega)
      have hws := hide (L2.out.size)
      have hws3 := hide (hb3.size)
      clear own2 own3
      go_wp2_with (at_builtin; refine wpList_append_ow _ rfl (.tmp 36) (.tmp 38) _ rfl wr.heap.size 5 i0 _ 1 1 Try.underlying46 hi0 hz0 hz1 hz2 rfl (by omega) _ _ _ rfl own2' w3.heap.size A3 _ c3 _ rfl r3 (bvs_one _) (by have := HEA.out; have := HEB.out; simp only [maxLen]; omega) (by have := HEA.out; have := HEB.out; omega) (by have := hws.out; have := hws3.out; omega) ?_; intro v4 w4 own4 hg4 hat4 hnn4)
      have B4 := B3.grown hg4 B3.size (fun g hg => by have := own2'.lt g hg; have := B1.size; omega)
      have hs4 := hide hg4.size
      rw [← List.map_append, ← List.length_append] at own4
      clear own2' r3 hg4 hat4 hnn4 B3 B2 hb3
      refine (texts_any C p cp 0 c _ ((hc.below B4).more B4.size) (by omega) (fun x hx => by have := HCL.out x hx; omega)).mono ?_
      rintro e w5 ⟨v5, rfl, own5, hb5⟩
      have B5 := B4.trans (hb5.mono B4.size)
      have own4' := own4.next hb5
      obtain ⟨A5, c5, rfl, _, _, r5⟩ := own5.form
      have hs5 := hide (hb5.size)
      clear own4 own5 hb5 B4
      go_wp2_with (at_builtin; refine wpList_append_ow _ rfl (.tmp 39) (.tmp 41) _ rfl wr.heap.size 5 i0 _ 1 1 Try.underlying46 hi0 hz0 hz1 hz2 rfl (by omega) _ _ _ rfl own4' w5.heap.size A5 _ c5 _ rfl r5 (bvs_one _) (by have := HEA.out; have := HEB.out; have := HEC.out; simp only [maxLen, List.length_append]; omega) (by have := HEA.out; have := HEB.out; have := HEC.out; simp only [List.length_append]; omega) (by have := hws.out; have := hws3.out; have := hs4.out; have := hs5.out; omega) ?_; intro v6 w6 own6 hg6 hat6 hnn6)
      have B6 := B5.grown hg6 B5.size (fun g hg => by have := own4'.lt g hg; have := B1.size; omega)
      rw [← List.map_append, ← List.length_append] at own6
      have hqb : (encs a ++ encs (b.map turnN) ++ encTs c).length ≤ 40000 := by have := HEA.out; have := HEB.out; have := HEC.out; simp only [List.length_append]; omega
      have hs6 := hide (show wr.heap.size ≤ w6.heap.size by have := hws.out; have := hws3.out; have := hs4.out; have := hs5.out; have := hg6.size; omega)
      have HTA := hide (told_all HLA.out HLB.out HCL.out)
      have HTC := hide (fun k hk => told_cut HLA.out HLB.out HCL.out (k := k) hk)
      unfold encAll at HTA HTC
      generalize encs a ++ encs (b.map turnN) ++ encTs c = ALL at own6 hqb HTA HTC
      obtain ⟨A6, c6, rfl, hc6, hm6, r6⟩ := own6.form
      generalize hq : ALL.length = q at *
      clear own4' r5 hg6 hat6 hnn6 B5 own6 HEA HEB HEC hws hws3 hs4 hs5 L2
      go_wp2_with fail
      refine (copyBytes_any A6 q c6 ALL _ r6 (by omega)).mono ?_
      rintro e w7 ⟨v7, rfl, own7, hb7⟩
      have B7 := B6.trans (hb7.mono B6.size)
      obtain ⟨A7, c7, rfl, hc7, hm7, r7⟩ := own7.form
      have r67 := r6.next hb7
      clear own7 r6 hb7 B6
      go_wp2_with fail
      refine (newR_any A7 q c7 ALL _ r7 (by omega)).mono ?_
      rintro e w8 ⟨g8, rfl, hg8, hr8, hb8⟩
      have B8 := B7.trans (hb8.mono B7.size)
      have r68 := r67.below hb8
      have h78 := hb8.size
      have hlt8 := hr8.lt
      have hwg : w.heap.size ≤ g8 := by have := B7.size; omega
      have hg8' := hg8
      clear r7 r67 hb8 B7
      go_wp2_with fail
      refine (told_any A B C n m p cn cm cp g8 ALL a b c w8 hwg (ha.below B8) (hb.below B8) (hc.below B8) hr8 (by omega) (by omega) (by omega)).mono ?_
      rintro e w9 ⟨rfl, _, hg9⟩
      rw [HTA.out]
      have B9 := B8.grown hg9 B8.size (fun q hq => by cases hq; exact hwg)
      have r69 := (r68.grown hg9 h78 (fun q hq => by cases hq; exact hg8)).more (Nat.le_trans h78 hg9.size)
      clear r68 hr8 B8 hg9 hg8 hlt8 hwg
      by_cases hcut : cut < 0
      · go_wp2_with fail
        go_ret
        exact ⟨rfl, B9⟩
      by_cases hcut2 : (q : Int) ≤ cut
      · go_wp2_with fail
        go_ret
        exact ⟨rfl, B9⟩
      obtain ⟨k1, rfl⟩ : ∃ k1 : Nat, cut = k1 := ⟨cut.toNat, by omega⟩
      have r610 := r69.take (k := k1) (by omega)
      rw [Nat.mul_one, ← List.map_take] at r610
      have HTC1 := hide (HTC.out k1 (by omega))
      go_wp2_with fail
      refine (copyBytes_any A6 k1 c6 (ALL.take k1) _ r610 (by omega)).mono ?_
      rintro e w11 ⟨v11, rfl, own11, hb11⟩
      have B11 := B9.trans (hb11.mono B9.size)
      obtain ⟨A11, c11, rfl, _, _, r11⟩ := own11.form
      clear own11 r69 r610 hb11 B9
      go_wp2_with fail
      refine (newR_any A11 k1 c11 (ALL.take k1) _ r11 (by omega)).mono ?_
      rintro e w12 ⟨g12, rfl, hg12, hr12, hb12⟩
      have B12 := B11.trans (hb12.mono B11.size)
      have hwg : w.heap.size ≤ g12 := by have := B11.size; omega
      clear r11 hb12 B11
      go_wp2_with fail
      refine (told_any A B C n m p cn cm cp g12 (ALL.take k1) a b c w12 hwg (ha.below B12) (hb.below B12) (hc.below B12) hr12 (by omega) (by omega) (by omega)).mono ?_
      rintro e w13 ⟨rfl, ⟨l13, e13, hr13, he13⟩, hg13⟩
      rw [told_bad HTC1.out]
      have he : e13 = 15 := by
        rw [he13]
        unfold endE tkE
        rw [HTC1.out]
        split <;> simp
      subst he
      have B13 := B12.grown hg13 B12.size (fun q hq => by cases hq; exact hwg)
      clear he13 hr12 hg13 B12
      go_wp2_with fail
      refine (err_any g12 15 l13 _ hr13).mono ?_
      rintro e w14 ⟨rfl, rfl⟩
      go_wp2_with fail
      go_ret
      exact ⟨rfl, B13⟩

set_option maxRecDepth 100000 in
theorem back_law (H : Type) (enc : TypeId × Value → H) : LawWalk H enc Try.prog 5 Try.f5 := by
  intro W base args ds p hval hA hwt
  rw [Try.params5] at hA hval hwt
  obtain ⟨v0, vs0, d0, ds0, p0, q0, hargs, rfl, rfl, h0, r0⟩ := trodAll_cons hA
  obtain ⟨v1, vs1, d1, ds1, p1, q1, rfl, rfl, rfl, h1, r1⟩ := trodAll_cons r0
  obtain ⟨v2, vs2, d2, ds2, p2, q2, rfl, rfl, rfl, h2, r2⟩ := trodAll_cons r1
  obtain ⟨v3, vs3, d3, ds3, p3, q3, rfl, rfl, rfl, h3, r3⟩ := trodAll_cons r2
  obtain ⟨rfl, rfl, rfl⟩ := trodAll_nil r3
  obtain rfl : args = #[v0, v1, v2, v3] := by cases args; simp_all
  simp only [DataW.weightsEach, List.all_append, Bool.and_eq_true] at hwt
  obtain ⟨w0, w1, w2, w3, _⟩ := hwt
  obtain ⟨AA, nA, cA, lA, rfl, hrA, hcA, hmA, hwA⟩ := open_u64s Try.underlying43 Try.underlying48 (by kernel_rfl) (by decide +kernel) (hval 0 _ _ rfl rfl) h0 w0
  obtain ⟨AB, nB, cB, lB, rfl, hrB, hcB, hmB, hwB⟩ := open_nums Try.underlying44 Try.underlying2 (by kernel_rfl) (by decide +kernel) (hval 1 _ _ rfl rfl) h1 w1
  obtain ⟨AC, nC, cC, lC, rfl, hrC, hcC, hmC, hwC⟩ := open_texts Try.underlying45 Try.underlying9 (by kernel_rfl) (by decide +kernel) (hval 2 _ _ rfl rfl) h2 w2
  obtain ⟨kD, rfl, rfl, rfl, wfkD⟩ := open_int Try.underlying3 (hval 3 _ _ rfl rfl) h3
  exact back_walk AA AB AC nA nB nC cA cB cC kD lA lB lC W hrA hrB hrC (by omega) (by omega) (by omega) (bounds_i64 wfkD).1 (bounds_i64 wfkD).2 hwA (fun x hx => bounds_i64 (hwB x hx)) hwC
set_option maxRecDepth 100000 in
theorem back_lifted (os : Os) (started : os.Started) (H : Type) (enc : TypeId × Value → H) :
    ReturnsInHanded {} Try.checked os 5 .any (Rows.codeBackSpec.pre6 enc Try.prog Try.f5 Rows.codeBackRow.domain false) (Rows.codeBackSpec.post enc Try.prog Try.f5 false true false false) :=
  lift_law (C := Try.checked) (s := Rows.codeBackSpec) laidOut own started (by kernel_rfl) Try.func5 (by kernel_rfl) Try.underlying4 (by kernel_rfl) rfl
      (fun ds hd => by rw [Try.params5] at hd; match ds, hd with | [_, _, _, _], _ => rfl)
      (ChangeSpec.witness6 (enc := enc) (C := Try.checked) false ⟨#[], #[.slice none 0 0, .slice none 0 0, .slice none 0 0, .int .i64 0], []⟩ 8 (by kernel_rfl) (by kernel_rfl) (by kernel_rfl) (by kernel_rfl))
      (back_law H enc)
theorem back_holds : Rows.CodeBackSaid :=
  OpenClaim.holds_of_wide 5 Try.f5 rfl rfl rfl rfl rfl rfl rfl ⟨rfl, rfl, rfl, rfl, rfl⟩ rfl rfl rfl rfl rfl (by kernel_rfl) Try.func5 (by kernel_rfl)
    (of_decide_eq_true (by kernel_rfl)) (by unfold Func.isWrapper; first | (rw [if_pos (by decide +kernel)]; kernel_rfl) | (rw [if_neg (by decide +kernel)]; exact ⟨rfl, rfl⟩))
    (fun os started H enc _ => back_lifted os started H enc)
#print axioms back_holds
end Go.Proofs.Ytoammbfipinejaa
