/- CrcFlips: bytes of which up to 32 bits side by side are others have another sum; sealed, they aren't opened. -/
import Derived.Test.YtlliffbhkagodaaCrcI
import Derived.Test.YtlliffbhkagodaaCrcFlipPlain
namespace Go.Proofs.Ytlliffbhkagodaa
open Go.ChangeShapes Go.WideShapes Go.ChangeAt Go.RowKit Go.Deep
set_option linter.unusedVariables false

theorem flips_early (A : Option Addr) (n c : Nat) (at_ f : Int) (w : World) (h : 2000 < n ∨ (¬ 2000 < n ∧ f = 0) ∨ (¬ 2000 < n ∧ f ≠ 0 ∧ at_ < 0) ∨ (¬ 2000 < n ∧ f ≠ 0 ∧ ¬ at_ < 0 ∧ 16000 < at_)) :
    Calls Try.prog 5 #[.slice A n c, .int .i64 at_, .int .u32 f] w fun e w' => e = .returned (.bool true) ∧ Below w.heap.size w w' := by
  rcases h with h1 | ⟨h1, rfl⟩ | ⟨h1, h2, h3⟩ | ⟨h1, h2, h3, h4⟩
  · go_enter Try.func5, Try.ntmps5
    go_wp2_with fail
    refine (alive_any _).mono ?_
    rintro e w1 ⟨rfl, hb1⟩
    go_wp2_with fail
    go_ret
    exact ⟨rfl, hb1⟩
  · go_enter Try.func5, Try.ntmps5
    go_wp2_with fail
    refine (alive_any _).mono ?_
    rintro e w1 ⟨rfl, hb1⟩
    go_wp2_with fail
    go_ret
    exact ⟨rfl, hb1⟩
  · have hf : (f == 0) = false := by simpa using h2
    clear h2
    go_enter Try.func5, Try.ntmps5
    go_wp2_with fail
    refine (alive_any _).mono ?_
    rintro e w1 ⟨rfl, hb1⟩
    go_wp2_with fail
    go_ret
    exact ⟨rfl, hb1⟩
  · have hf : (f == 0) = false := by simpa using h2
    clear h2
    go_enter Try.func5, Try.ntmps5
    go_wp2_with fail
    refine (alive_any _).mono ?_
    rintro e w1 ⟨rfl, hb1⟩
    go_wp2_with fail
    go_ret
    exact ⟨rfl, hb1⟩

set_option maxHeartbeats 400000 in
theorem flips_main (A : Option Addr) (n c : Nat) (a f : Nat) (l : List UInt8) (w : World) (hr : RdB w w.heap.size A n l) (hc : n ≤ c) (hcm : c ≤ 140737488351232) (hn : n ≤ 2000) (ha : a ≤ 16000) (hf0 : f ≠ 0) (hf : f < 4294967296) :
    Calls Try.prog 5 #[.slice A n c, .int .i64 a, .int .u32 f] w fun e w' => e = .returned (.bool true) ∧ Below w.heap.size w w' := by
  have hlen := RdB.len hr
  have hfb : ((f : Int) == 0) = false := by simpa using hf0
  have HF0 := hide hf0
  clear hf0
  go_enter Try.func5, Try.ntmps5
  go_wp2_with fail
  refine (alive_any _).mono ?_
  rintro e w1 ⟨rfl, hb1⟩
  have r1 := Rd.next hr hb1
  go_wp2_with fail
  refine (seal_any _ 1 1 [l] _ (RdP.one (c := c) _ r1 hc (by omega)) (by omega) (by omega) (by simp; omega)).mono ?_
  rintro e w2 ⟨v2, rfl, own2, hb2⟩
  rw [show ([l] : List (List UInt8)).flatten = l from by simp, hlen] at own2
  have r2 := Rd.next (Rd.alloc' r1 _) hb2
  have B2 : Below w.heap.size w w2 := (hb1.alloc hb1.size _).trans (hb2.mono (by have := hb1.size; simp; omega))
  obtain ⟨A2, c2, rfl, hc2, hm2, s2⟩ := own2.form
  have hr0 := hr
  clear own2 hb1 hb2 r1 hr
  go_wp2_with fail
  refine (copyBytes_any A n c l _ r2 (by omega)).mono ?_
  rintro e w3 ⟨v3, rfl, own3, hb3⟩
  have r3 := Rd.next r2 hb3
  have s3 := Rd.next s2 hb3
  have B3 := B2.trans (hb3.mono B2.size)
  clear r2 s2 hb3
  go_wp2_with fail
  refine (copyBytes_any A2 (n + 4) c2 (sealL l) _ s3 (by omega)).mono ?_
  rintro e w4 ⟨v4, rfl, own4, hb4⟩
  have t4 := own3.next hb4
  have B4 := B3.trans (hb4.mono B3.size)
  have hdis : ∀ k, v3.ownBlock = some k → ∀ j, v4.ownBlock = some j → 0 < n → k < j := by
    intro k hk j hj h0
    obtain ⟨g, og, cg, rfl, _, hlt, _⟩ := own3.open_ h0
    have := own4.lt j hj
    simp only [Value.ownBlock, Option.some.injEq] at hk
    omega
  have t5 := t4.less B2.size
  have u5 := own4.less B3.size
  have r4 : RdB w w.heap.size A n l := hr0
  clear own3 t4 own4 s3 hb4 B3 r3 hr0
  obtain ⟨A3, c3, rfl, hc3, hm3, _⟩ := t5.form
  obtain ⟨A4, c4, rfl, hc4, hm4, _⟩ := u5.form
  unfold maxLen at hm3 hm4
  go_wp2_with fail
  go_loopw [6, 10, 11, 12] (fun _ i _ _ wr => ∃ k : Nat, k ≤ 32 ∧ i = .int .i64 k ∧ Ow wr w.heap.size 5 1 (.slice A3 n c3) n ((flipL l a f k).map bv) ∧ Ow wr w.heap.size 5 1 (.slice A4 (n + 4) c4) (n + 4) ((flipL l a f k ++ le4 (sumN l)).map bv) ∧
      Below w.heap.size w wr ∧ Hid (∀ j, j < k → f / 2 ^ j % 2 ≠ 0 → (a + j) / 8 < n)) (fun _ i _ _ _ => 32 - (intOf i).toNat)
  case atStart => exact ⟨0, by omega, rfl, t5, u5, B4, hide (fun j hj => by omega)⟩
  case round =>
    clear t5 u5 B4
    obtain ⟨k, hk, rfl, t5, u5, B5, HJ⟩ := hrel
    by_cases hk1 : k < 32
    · have hmodd : ((f : Int) / 2 ^ k).tmod 2 = ((f / 2 ^ k % 2 : Nat) : Int) := by
        have e : ((f : Int) / 2 ^ k) = ((f / 2 ^ k : Nat) : Int) := by simp
        rw [e]; rfl
      by_cases hz : f / 2 ^ k % 2 = 0
      · have hb : (((f : Int) / 2 ^ k).tmod 2 == 0) = true := by rw [hmodd, hz]; rfl
        have HZ := hide hz
        clear hz hmodd
        have hfl : flipL l a f (k + 1) = flipL l a f k := by rw [flipL, if_pos HZ.out]
        have HFL := hide hfl
        clear hfl
        go_wp2_with fail
        go_roundw
        case rel => exact ⟨k + 1, by omega, by go_num, by rw [HFL.out]; exact t5, by rw [HFL.out]; exact u5, B5, hide (fun j hj hne => by
          rcases Nat.lt_succ_iff_lt_or_eq.1 hj with h | h
          · exact HJ.out j h hne
          · subst h; exact absurd HZ.out hne)⟩
        case measure => simp [intOf]; omega
      · have hb : (((f : Int) / 2 ^ k).tmod 2 == 0) = false := by rw [hmodd, show f / 2 ^ k % 2 = 1 from by omega]; rfl
        have HZ := hide hz
        clear hz hmodd
        by_cases hK : (a + k) / 8 < n
        · obtain ⟨g3, o3, cc, he, hg3, _⟩ := t5.open_ (by omega)
          injection he with he1 _ he3
          subst he1; subst he3
          obtain ⟨g4, o4, cc, he, hg4, _⟩ := u5.open_ (by omega)
          injection he with he1 _ he3
          subst he1; subst he3
          have hne : g3 ≠ g4 := by have := hdis g3 rfl g4 rfl (by omega); omega
          clear hdis
          have HLL := hide (flipL_len l a f k)
          obtain ⟨x, hx⟩ := flipL_get (at_ := a) (f := f) (i := k) (hlen.symm ▸ hK)
          obtain ⟨hxi, hxv⟩ := List.getElem?_eq_some_iff.1 hx
          obtain ⟨hc3', hf3⟩ := t5.get (k := (a + k) / 8) (u := bv x) (by rw [List.getElem?_map, hx]; rfl)
          have hfl : flipL l a f (k + 1) = (flipL l a f k).set ((a + k) / 8) (x ^^^ bitOf (a + k)) := by
            rw [flipL, if_neg HZ.out, modify_set _ _ _ hxi, hxv]
          have hsp : bits BinOp.xor IntKind.u8 (x.toNat : Int) (2 ^ ((a + k) % 8) % 256) = (((x ^^^ bitOf (a + k)).toNat : Nat) : Int) := by
            have hx := x.toNat_lt
            have hy := (bitOf (a + k)).toNat_lt
            have := u8_xor_nat x.toNat (bitOf (a + k)).toNat (by omega) (by omega)
            rw [UInt8.toNat_xor, ← this]
            congr 1
          have HFL := hide hfl
          clear hfl hxv
          have hxl := x.toNat_lt
          generalize x ^^^ bitOf (a + k) = y at hsp HFL
          have hyl := y.toNat_lt
          have t6 := t5.store1 hK (bv y)
          have u6 := u5.setFar (p := ⟨g3, o3 + (a + k) / 8, none⟩) (by intro q hq; simp only [Value.ownBlock, Option.some.injEq] at hq; subst hq; exact fun e => hne e.symm) (bv y)
          obtain ⟨hc6, hf6⟩ := u6.get (k := (a + k) / 8) (u := bv x) (by rw [List.getElem?_map, List.getElem?_append_left hxi, hx]; rfl)
          have u7 := u6.store1 (k := (a + k) / 8) (by omega) (bv y)
          have t7 := t6.setFar (p := ⟨g4, o4 + (a + k) / 8, none⟩) (by intro q hq; simp only [Value.ownBlock, Option.some.injEq] at hq; subst hq; exact hne) (bv y)
          have B7 := (B5.setCell (p := ⟨g3, o3 + (a + k) / 8, none⟩) hg3 (bv y)).setCell (p := ⟨g4, o4 + (a + k) / 8, none⟩) hg4 (bv y)
          have HX := hide hxi
          clear hx hxi t5 u5 t6 u6 B5
          simp only [bv] at hc3' hc6 hf6
          go_wp2_with fail
          go_roundw
          case rel =>
            refine ⟨k + 1, by omega, by go_num, ?_, ?_, B7, hide (fun j hj hne => ?_)⟩
            · rw [HFL.out, List.map_set]; exact t7
            · rw [HFL.out, ← List.set_append_left _ _ HX.out, List.map_set]; exact u7
            · rcases Nat.lt_succ_iff_lt_or_eq.1 hj with h | h
              · exact HJ.out j h hne
              · subst h; exact hK
          case measure => simp [intOf]; omega
        · go_wp2_with fail
          go_ret
          exact ⟨rfl, B5⟩
    · obtain rfl : k = 32 := by omega
      have HV := hide (flipL_val l a f 32 (by rw [hlen]; exact HJ.out))
      have HL := hide (flipL_len l a f 32)
      have hat : a ≤ 8 * n := by
        rcases Nat.lt_or_ge (8 * n) a with h | h
        · exfalso
          apply HF0.out
          have h32 : f % 2 ^ 32 = f := Nat.mod_eq_of_lt (by omega)
          rw [← h32]
          apply Nat.eq_of_testBit_eq
          intro j
          rw [Nat.zero_testBit, Nat.testBit_mod_two_pow]
          by_cases hj : j < 32
          · have : f / 2 ^ j % 2 = 0 := by
              rcases Nat.mod_two_eq_zero_or_one (f / 2 ^ j) with h0 | h0
              · exact h0
              · have := HJ.out j hj (by omega); omega
            rw [Nat.testBit_eq_decide_div_mod_eq, this]; simp
          · simp [hj]
        · exact h
      have hne : sumN (flipL l a f 32) ≠ sumN l := sum_ne HL.out HF0.out hf (by rw [hlen]; exact hat) (by rw [HV.out, Nat.mod_eq_of_lt (by omega)])
      have HNE := hide hne
      have HL2 := hide (flipL_len l a f 32)
      clear hne HV HL hat HJ
      generalize flipL l a f 32 = l' at t5 u5 HNE HL2
      have hok : openOk (l' ++ le4 (sumN l)) = false := by
        unfold openOk
        apply decide_eq_false
        rintro ⟨_, hd⟩
        have hl4 : (l' ++ le4 (sumN l)).length - 4 = l'.length := by simp [le4]
        rw [hl4, List.drop_left, List.take_left] at hd
        have h1 := val4_iff (UInt8.ofNat (sumN l)) (UInt8.ofNat (sumN l / 256)) (UInt8.ofNat (sumN l / 65536)) (UInt8.ofNat (sumN l / 16777216)) (sumN l) (sumN_lt l)
        have h2 := val4_iff (UInt8.ofNat (sumN l)) (UInt8.ofNat (sumN l / 256)) (UInt8.ofNat (sumN l / 65536)) (UInt8.ofNat (sumN l / 16777216)) (sumN l') (sumN_lt l')
        have e1 := h1.2 rfl
        have e2 := h2.2 hd
        exact HNE.out (e2.symm.trans e1)
      have herr : openErr (l' ++ le4 (sumN l)) = 14 := by
        unfold openErr
        rw [hok, if_neg (by simp [le4])]
        rfl
      have hbody : openBody (l' ++ le4 (sumN l)) = [] := by unfold openBody; rw [hok]; rfl
      have HERR := hide herr
      have HBODY := hide hbody
      have hlen2 : (l' ++ le4 (sumN l)).length = n + 4 := by rw [List.length_append, HL2.out, hlen]; simp [le4]
      clear herr hbody hok hlen2
      have uu := u5.rd
      have tt := t5.rd
      have rr := Rd.more (Rd.below r4 B5) B5.size
      clear t5 u5
      go_wp2_with fail
      refine (open_any A4 (n + 4) c4 (l' ++ le4 (sumN l)) _ uu hc4 (by simp only [maxLen]; omega) (by omega)).mono ?_
      rintro e w6 ⟨v6, rfl, own6, hb6⟩
      rw [HERR.out]
      rw [HBODY.out] at own6
      have t6 := Rd.next tt hb6
      have r6 := Rd.next rr hb6
      have B6 := B5.trans (hb6.mono B5.size)
      obtain ⟨A6, c6, rfl, hc6, hm6, _⟩ := own6.form
      clear own6 tt rr B5 uu hb6
      go_wp2_with fail
      refine (crcSum_any _ 1 1 [l'] _ (RdP.one (c := c3) _ t6 hc3 (by omega)) (by simp [maxLen])).mono ?_
      rintro e w7 ⟨rfl, rfl⟩
      rw [show ([l'] : List (List UInt8)).flatten = l' from by simp]
      have r7 := Rd.alloc' r6 (.cells #[.slice A3 n c3] 23)
      go_wp2_with fail
      refine (crcSum_any _ 1 1 [l] _ (RdP.one' (c := c) _ r7 hc (by omega) _ (by simp)) (by simp [maxLen])).mono ?_
      rintro e w7 ⟨rfl, rfl⟩
      rw [show ([l] : List (List UInt8)).flatten = l from by simp]
      have hneb : (((sumN l' : Nat) : Int) != ((sumN l : Nat) : Int)) = true := by
        have := HNE.out
        simp; omega
      go_wp2_with fail
      go_ret
      exact ⟨rfl, (B6.alloc B6.size _).alloc (by have := B6.size; simp; omega) _⟩

theorem flips_walk (A : Option Addr) (n c : Nat) (a f : Int) (l : List UInt8) (w : World) (hr : RdB w w.heap.size A n l) (hc : n ≤ c) (hcm : c ≤ 140737488351232) (_ha : -9223372036854775808 ≤ a ∧ a ≤ 9223372036854775807) (hf : 0 ≤ f ∧ f ≤ 4294967295) :
    Calls Try.prog 5 #[.slice A n c, .int .i64 a, .int .u32 f] w fun e w' => e = .returned (.bool true) ∧ Below w.heap.size w w' := by
  by_cases h : 2000 < n ∨ (¬ 2000 < n ∧ f = 0) ∨ (¬ 2000 < n ∧ f ≠ 0 ∧ a < 0) ∨ (¬ 2000 < n ∧ f ≠ 0 ∧ ¬ a < 0 ∧ 16000 < a)
  · exact flips_early A n c a f w h
  · obtain ⟨F, rfl⟩ := Int.eq_ofNat_of_zero_le hf.1
    obtain ⟨K, rfl⟩ := Int.eq_ofNat_of_zero_le (show 0 ≤ a by omega)
    exact flips_main A n c K F l w hr hc hcm (by omega) (by omega) (by omega) (by omega)
theorem flips_law (H : Type) (enc : TypeId × Value → H) : LawWalk H enc Try.prog 5 Try.f5 := by
  intro W base args ds p hval hA hwt
  rw [Try.params5] at hA hval hwt
  obtain ⟨v0, vs0, d0, ds0, p0, q0, hargs, rfl, rfl, h0, r0⟩ := trodAll_cons hA
  obtain ⟨v1, vs1, d1, ds1, p1, q1, rfl, rfl, rfl, h1, r1⟩ := trodAll_cons r0
  obtain ⟨v2, vs2, d2, ds2, p2, q2, rfl, rfl, rfl, h2, r2⟩ := trodAll_cons r1
  obtain ⟨rfl, rfl, rfl⟩ := trodAll_nil r2
  obtain rfl : args = #[v0, v1, v2] := by cases args; simp_all
  simp only [DataW.weightsEach, List.all_append, Bool.and_eq_true] at hwt
  obtain ⟨w0, w1, w2, _⟩ := hwt
  obtain ⟨A, n, c, l, rfl, hr, hc, hm⟩ := open_bytes Try.underlying23 Try.underlying5 (by kernel_rfl) (by kernel_rfl) (hval 0 _ _ rfl rfl) h0 w0
  obtain ⟨a, rfl, rfl, rfl, wfa⟩ := open_int Try.underlying3 (hval 1 _ _ rfl rfl) h1
  obtain ⟨f, rfl, rfl, rfl, wff⟩ := open_int Try.underlying31 (hval 2 _ _ rfl rfl) h2
  exact flips_walk A n c a f l W hr hc hm (bounds_i64 wfa) (bounds_u32 wff)
set_option maxRecDepth 100000 in
theorem flips_lifted (os : Os) (started : os.Started) (H : Type) (enc : TypeId × Value → H) :
    ReturnsInHanded {} Try.checked os 5 .any (Rows.crcFlipsSpec.pre6 enc Try.prog Try.f5 Rows.crcFlipsRow.domain false) (Rows.crcFlipsSpec.post enc Try.prog Try.f5 false true false false) :=
  lift_law (C := Try.checked) (s := Rows.crcFlipsSpec) laidOut own started (by kernel_rfl) Try.func5 (by kernel_rfl) Try.underlying4 (by kernel_rfl) rfl
      (fun ds hd => by rw [Try.params5] at hd; match ds, hd with | [_, _, _], _ => rfl)
      (ChangeSpec.witness6 (enc := enc) (C := Try.checked) false ⟨#[], #[.slice none 0 0, .int .i64 0, .int .u32 0], []⟩ 8 (by kernel_rfl) (by kernel_rfl) (by kernel_rfl) (by kernel_rfl))
      (flips_law H enc)
theorem flips_holds : Rows.CrcFlipsSaid :=
  OpenClaim.holds_of_wide 5 Try.f5 rfl rfl rfl rfl rfl rfl rfl ⟨rfl, rfl, rfl, rfl, rfl⟩ rfl rfl rfl rfl rfl (by kernel_rfl) Try.func5 (by kernel_rfl)
    (of_decide_eq_true (by kernel_rfl)) (by unfold Func.isWrapper; first | (rw [if_pos (by decide +kernel)]; kernel_rfl) | (rw [if_neg (by decide +kernel)]; exact ⟨rfl, rfl⟩))
    (fun os started H enc _ => flips_lifted os started H enc)
#print axioms flips_holds
end Go.Proofs.Ytlliffbhkagodaa
