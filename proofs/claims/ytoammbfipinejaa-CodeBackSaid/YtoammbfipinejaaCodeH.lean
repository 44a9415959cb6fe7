/- CodeOne. -/
import Derived.Test.YtoammbfipinejaaCodeG
namespace Go.Proofs.Ytoammbfipinejaa
open Go.ChangeShapes Go.WideShapes Go.ChangeAt Go.RowKit Go.Deep
set_option linter.unusedVariables false
set_option linter.unusedSimpArgs false

theorem ptr_nil_ne (w : World) (g : Nat) : True := trivial
set_option maxHeartbeats 1000000 in
set_option maxRecDepth 100000 in
theorem one_walk (A : Option Addr) (n c : Nat) (l : List UInt8) (w : World) (hr : RdB w w.heap.size A n l) (hn : n ≤ 140737488351232) :
    Calls Try.prog 6 #[.slice A n c] w fun e w' => e = .returned (.bool true) ∧ Below w.heap.size w w' := by
  have hlen := RdB.len hr
  by_cases h100 : 100 < n
  · go_enter Try.func6, Try.ntmps6
    go_wp2_with fail
    refine (alive_any _).mono ?_
    rintro e w1 ⟨rfl, hb1⟩
    go_wp2_with fail
    go_ret
    exact ⟨rfl, hb1⟩
  have HLEN := hide hlen
  clear hlen
  have hd := dec_bounds l 0 0 (dec l).1 (dec l).2.1 (dec l).2.2 (by omega) (by simp) rfl
  have hone : (dec l).2.2 = 0 → l.drop (dec l).2.1 = [] → enc (dec l).1 = l ∧ l.length ≤ 10 := by
    intro h0 h1
    obtain ⟨u, hv, h2, h3, h4, h5, h6, h7⟩ := enc_of_dec l 0 0 (dec l).1 (dec l).2.1 (by omega) (by have : dec l = ((dec l).1, (dec l).2.1, (dec l).2.2) := rfl; rw [h0] at this; exact this)
    have hs : l.length ≤ (dec l).2.1 := List.drop_eq_nil_iff.1 h1
    simp only [Nat.sub_zero, Nat.zero_add, Nat.pow_zero, Nat.mul_one] at hv h5
    rw [List.take_of_length_le hs] at h5
    subst hv
    exact ⟨h5, by omega⟩
  have HONE := hide hone
  have HD := hide hd
  clear hone hd
  have HU := hide (fun (g : Nat) (w : World) (h : Rdr w g l 0) => uint_any g 0 l w h)
  have hk : tkE 0 (dec l).2.2 = (dec l).2.2 := rfl
  rw [hk] at HU
  clear hk
  by_cases her : (dec l).2.2 = 0
  · by_cases hnil : l.drop (dec l).2.1 = []
    · have h1 := (HONE.out her hnil).1
      have h2 := (HONE.out her hnil).2
      have hl : tkL l 0 (dec l).2.1 (dec l).2.2 = [] := by rw [tkL, if_pos ⟨rfl, her⟩]; exact hnil
      have hv : uV l 0 = (dec l).1 := by rw [uV, if_pos ⟨rfl, her⟩]
      rw [hl, her, hv] at HU
      have hv64 : (dec l).1 < 18446744073709551616 := HD.out.1
      have HE := hide h1
      have H10 := hide h2
      clear h1 h2 hl hv her hnil HONE HD
      generalize (dec l).1 = v at *
      have HV := hide hv64
      clear hv64
      have hn10 : n ≤ 10 := by have := H10.out; have := HLEN.out; omega
      go_enter Try.func6, Try.ntmps6
      go_wp2_with fail
      refine (alive_any _).mono ?_
      rintro e w1 ⟨rfl, hb1⟩
      have r1 := Rd.next hr hb1
      go_wp2_with fail
      refine (copyBytes_any A n c l _ r1 (by omega)).mono ?_
      rintro e w2 ⟨v2, rfl, own2, hb2⟩
      have B2 := hb1.trans (hb2.mono hb1.size)
      obtain ⟨A2, c2, rfl, _, _, q2⟩ := own2.form
      clear own2 hb1 hb2 r1
      go_wp2_with fail
      refine (newR_any A2 n c2 l _ q2 (by omega)).mono ?_
      rintro e w3 ⟨g, rfl, hg, hrd, hb3⟩
      have hg0 : w.heap.size ≤ g := Nat.le_trans B2.size hg
      have B3 := B2.trans (hb3.mono B2.size)
      clear q2 B2 hb3
      go_wp2_with fail
      refine (HU.out g w3 hrd).mono ?_
      rintro e w4 ⟨rfl, hrd4, hg4⟩
      have B4 := B3.grown hg4 B3.size (fun q hq => by cases hq; exact hg0)
      go_wp2_with fail
      refine (end_any g 0 [] _ hrd4).mono ?_
      rintro e w5 ⟨rfl, hrd5, hg5⟩
      rw [show endE [] 0 = 0 from rfl]
      go_wp2_with fail
      have B5 := B4.grown hg5 B4.size (fun q hq => by cases hq; exact hg0)
      refine (uints_any (some ⟨w5.heap.size, 0, none⟩) 1 1 [v] _ (Rd.litv w5 ([v].map u64v) 48 1 rfl _ (by simp)) (by omega) (by intro x hx; rw [List.mem_singleton] at hx; subst hx; exact HV.out)).mono ?_
      rintro e w6 ⟨v6, rfl, own6, hb6⟩
      rw [encs_one, HE.out, HLEN.out] at own6
      have B6 := (B5.alloc B5.size _).trans (hb6.mono (by have := B5.size; simp; omega))
      obtain ⟨A6, c6, rfl, _, _, q6⟩ := own6.form
      clear own6
      go_wp2_with fail
      refine (sameBytes_any A6 A n c6 n c l l _ q6 ((hr.below B6).more B6.size) (by simp only [maxLen]; omega)).mono ?_
      rintro e w7 ⟨rfl, nq, rfl⟩
      rw [decide_eq_true rfl]
      go_wp2_with fail
      go_ret
      exact ⟨ret_bool (decide_eq_true (by omega)), below_drewN B6 _⟩
    · have hl : tkL l 0 (dec l).2.1 (dec l).2.2 = l.drop (dec l).2.1 := by rw [tkL, if_pos ⟨rfl, her⟩]
      have he : endE (l.drop (dec l).2.1) 0 = 10 := by unfold endE; rw [if_neg hnil]; rfl
      rw [hl, her] at HU
      have HE := hide he
      clear hl he hnil HONE HD her
      generalize l.drop (dec l).2.1 = l' at *
      generalize uV l 0 = v at *
      have hn0 : ((n : Int) == 0) = false ∨ ((n : Int) == 0) = true := by cases ((n : Int) == 0) <;> simp
      go_enter Try.func6, Try.ntmps6
      go_wp2_with fail
      refine (alive_any _).mono ?_
      rintro e w1 ⟨rfl, hb1⟩
      have r1 := Rd.next hr hb1
      clear hr
      go_wp2_with fail
      refine (copyBytes_any A n c l _ r1 (by omega)).mono ?_
      rintro e w2 ⟨v2, rfl, own2, hb2⟩
      have B2 := hb1.trans (hb2.mono hb1.size)
      obtain ⟨A2, c2, rfl, _, _, q2⟩ := own2.form
      clear own2 hb1 hb2 r1
      go_wp2_with fail
      refine (newR_any A2 n c2 l _ q2 (by omega)).mono ?_
      rintro e w3 ⟨g, rfl, hg, hrd, hb3⟩
      have hg0 : w.heap.size ≤ g := Nat.le_trans B2.size hg
      have B3 := B2.trans (hb3.mono B2.size)
      clear q2 B2 hb3
      go_wp2_with fail
      refine (HU.out g w3 hrd).mono ?_
      rintro e w4 ⟨rfl, hrd4, hg4⟩
      have B4 := B3.grown hg4 B3.size (fun q hq => by cases hq; exact hg0)
      clear hrd hg4 B3
      go_wp2_with fail
      refine (end_any g _ _ _ hrd4).mono ?_
      rintro e w5 ⟨rfl, hrd5, hg5⟩
      have B5 := B4.grown hg5 B4.size (fun q hq => by cases hq; exact hg0)
      clear hrd4 hg5 B4
      rw [HE.out] at hrd5 ⊢
      rcases hn0 with hn0 | hn0
      · go_wp2_with (go_at_call 34; refine (err_any g 10 _ _ hrd5).mono ?_; rintro e w5 ⟨rfl, rfl⟩)
        go_ret
        exact ⟨rfl, B5⟩
      · go_wp2_with (go_at_call 34; refine (err_any g 10 _ _ hrd5).mono ?_; rintro e w5 ⟨rfl, rfl⟩)
        go_ret
        exact ⟨rfl, B5⟩
  · have hl : tkL l 0 (dec l).2.1 (dec l).2.2 = l := by rw [tkL, if_neg (fun h => her h.2)]
    rw [hl] at HU
    have he : endE l (dec l).2.2 = (dec l).2.2 := by unfold endE tkE; split <;> simp [her]
    have h1015 : (dec l).2.2 = 10 ∨ (dec l).2.2 = 15 := by have := HD.out.2.2.1; omega
    have HE := hide he
    clear hl he HONE HD her
    generalize uV l 0 = v at *
    have hn0 : ((n : Int) == 0) = false ∨ ((n : Int) == 0) = true := by cases ((n : Int) == 0) <;> simp
    rcases h1015 with hr0 | hr0
    all_goals
      rw [hr0] at HU HE
      clear hr0
      go_enter Try.func6, Try.ntmps6
      go_wp2_with fail
      refine (alive_any _).mono ?_
      rintro e w1 ⟨rfl, hb1⟩
      have r1 := Rd.next hr hb1
      clear hr
      go_wp2_with fail
      refine (copyBytes_any A n c l _ r1 (by omega)).mono ?_
      rintro e w2 ⟨v2, rfl, own2, hb2⟩
      have B2 := hb1.trans (hb2.mono hb1.size)
      obtain ⟨A2, c2, rfl, _, _, q2⟩ := own2.form
      clear own2 hb1 hb2 r1
      go_wp2_with fail
      refine (newR_any A2 n c2 l _ q2 (by omega)).mono ?_
      rintro e w3 ⟨g, rfl, hg, hrd, hb3⟩
      have hg0 : w.heap.size ≤ g := Nat.le_trans B2.size hg
      have B3 := B2.trans (hb3.mono B2.size)
      clear q2 B2 hb3
      go_wp2_with fail
      refine (HU.out g w3 hrd).mono ?_
      rintro e w4 ⟨rfl, hrd4, hg4⟩
      have B4 := B3.grown hg4 B3.size (fun q hq => by cases hq; exact hg0)
      clear hrd hg4 B3
      go_wp2_with fail
      refine (end_any g _ _ _ hrd4).mono ?_
      rintro e w5 ⟨rfl, hrd5, hg5⟩
      have B5 := B4.grown hg5 B4.size (fun q hq => by cases hq; exact hg0)
      clear hrd4 hg5 B4
      rw [HE.out] at hrd5 ⊢
      rcases hn0 with hn0 | hn0
      · go_wp2_with (go_at_call 34; refine (err_any g _ _ _ hrd5).mono ?_; rintro e w5 ⟨rfl, rfl⟩)
        go_ret
        exact ⟨rfl, B5⟩
      · go_wp2_with (go_at_call 34; refine (err_any g _ _ _ hrd5).mono ?_; rintro e w5 ⟨rfl, rfl⟩)
        go_ret
        exact ⟨rfl, B5⟩
set_option maxRecDepth 100000 in
theorem one_law (H : Type) (enc : TypeId × Value → H) : LawWalk H enc Try.prog 6 Try.f6 := by
  intro W base args ds p hval hA hwt
  rw [Try.params6] at hA hval hwt
  obtain ⟨v0, vs0, d0, ds0, p0, q0, hargs, rfl, rfl, h0, r0⟩ := trodAll_cons hA
  obtain ⟨rfl, rfl, rfl⟩ := trodAll_nil r0
  obtain rfl : args = #[v0] := by cases args; simp_all
  simp only [DataW.weightsEach, List.all_append, Bool.and_eq_true] at hwt
  obtain ⟨w0, _⟩ := hwt
  obtain ⟨A, n, c, l, rfl, hr, hc, hm⟩ := open_bytes Try.underlying46 Try.underlying5 (by kernel_rfl) (by kernel_rfl) (hval 0 _ _ rfl rfl) h0 w0
  exact one_walk A n c l W hr (by omega)
set_option maxRecDepth 100000 in
theorem one_lifted (os : Os) (started : os.Started) (H : Type) (enc : TypeId × Value → H) :
    ReturnsInHanded {} Try.checked os 6 .any (Rows.codeOneSpec.pre6 enc Try.prog Try.f6 Rows.codeOneRow.domain false) (Rows.codeOneSpec.post enc Try.prog Try.f6 false true false false) :=
  lift_law (C := Try.checked) (s := Rows.codeOneSpec) laidOut own started (by kernel_rfl) Try.func6 (by kernel_rfl) Try.underlying4 (by kernel_rfl) rfl
      (fun ds hd => by rw [Try.params6] at hd; match ds, hd with | [_], _ => rfl)
      (ChangeSpec.witness6 (enc := enc) (C := Try.checked) false ⟨#[], #[.slice none 0 0], []⟩ 8 (by kernel_rfl) (by kernel_rfl) (by kernel_rfl) (by kernel_rfl))
      (one_law H enc)
theorem one_holds : Rows.CodeOneSaid :=
  OpenClaim.holds_of_wide 6 Try.f6 rfl rfl rfl rfl rfl rfl rfl ⟨rfl, rfl, rfl, rfl, rfl⟩ rfl rfl rfl rfl rfl (by kernel_rfl) Try.func6 (by kernel_rfl)
    (of_decide_eq_true (by kernel_rfl)) (by unfold Func.isWrapper; first | (rw [if_pos (by decide +kernel)]; kernel_rfl) | (rw [if_neg (by decide +kernel)]; exact ⟨rfl, rfl⟩))
    (fun os started H enc _ => one_lifted os started H enc)
#print axioms one_holds
end Go.Proofs.Ytoammbfipinejaa
