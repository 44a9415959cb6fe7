/- Parts FrSp, Laid of the proof, put together. -/
import Derived.Test.YtfbfpnfgabamfaaM14
import Derived.Test.YtfbfpnfgabamfaaChecked
import Derived.Test.YtfbfpnfgabamfaaRows
/- FrameSpoilt, by conditions. -/
namespace Go.Proofs.Ytfbfpnfgabamfaa
set_option linter.unusedSimpArgs false
open Go.RowKit
set_option maxRecDepth 100000
set_option linter.unusedVariables false
theorem great_ok {f : Fr} (h : in64F f) (hg : greatF f = false) : FrOk f := by
  obtain ⟨⟨a1, a2, a3, a4, a5⟩, ⟨b1, b2, b3, b4, b5⟩, _⟩ := h
  obtain ⟨g1, g2, g3, g4⟩ := great_no9 hg
  exact ⟨a1, a2, a3, a4, a5, b1, b2, b3, b4, b5, by omega, fun x hx => by have := g4 x hx; omega, by omega⟩
theorem flip_val (x : UInt8) (a : Nat) (z : Int) (hz : z = ((a % 8 : Nat) : Int)) : IntKind.u8.wrap (((BitVec.ofInt IntKind.u8.bits (x.toNat : Int) ^^^ BitVec.ofInt IntKind.u8.bits (IntKind.u8.wrap (1 * 2 ^ min z.toNat IntKind.u8.bits))).toNat : Nat) : Int) = ((x ^^^ bitOf a).toNat : Int) := by
  subst hz
  have hm : a % 8 < 8 := Nat.mod_lt _ (by decide)
  unfold bitOf
  generalize a % 8 = m at hm
  have h1 : BitVec.ofInt 8 (x.toNat : Int) = x.toBitVec := by
    apply BitVec.eq_of_toNat_eq
    have := x.toNat_lt
    rw [BitVec.toNat_ofInt]
    show ((x.toNat : Int) % 256).toNat = x.toNat
    omega
  have h2 : BitVec.ofInt 8 (IntKind.u8.wrap (1 * 2 ^ min ((m : Nat) : Int).toNat IntKind.u8.bits)) = (UInt8.ofNat (2 ^ m)).toBitVec := by
    have : m = 0 ∨ m = 1 ∨ m = 2 ∨ m = 3 ∨ m = 4 ∨ m = 5 ∨ m = 6 ∨ m = 7 := by omega
    rcases this with rfl | rfl | rfl | rfl | rfl | rfl | rfl | rfl <;> decide
  show IntKind.u8.wrap (((BitVec.ofInt 8 (x.toNat : Int) ^^^ BitVec.ofInt 8 (IntKind.u8.wrap (1 * 2 ^ min ((m : Nat) : Int).toNat IntKind.u8.bits))).toNat : Nat) : Int) = _
  rw [h1, h2, ← UInt8.toBitVec_xor]
  generalize x ^^^ UInt8.ofNat (2 ^ m) = y
  have := y.toNat_lt
  show ((y.toNat : Int)) % 256 = y.toNat
  omega
set_option maxHeartbeats 8000000 in
theorem spoilt_sat (f : Fr) (at_ : Int) (cut : Bool) (h64 : in64F f) (ha : in64 at_) : Sat Try.prog 3 [.d (frD f), iA at_, bA cut] [] (bA true) [] := by
  have a1 := alive9
  have g1 := great9_sat f
  cases hg : greatF f with
  | true =>
    rw [hg] at g1
    refine sat_of_vc (T := tiOf Try.prog) (E := E0) Try.func3 rfl rfl hE0 hm0 rfl ?_
    conv => whnf
    iterate 4
      repeat' (first | exact True.intro | ((first | refine And.intro (fun _ => ?_) tf | refine And.intro ft (fun _ => ?_) | refine And.intro (by kernel_rfl) ?_ | refine And.intro (by decide) ?_ | refine And.intro (fun _ => ?_) (fun h => absurd h (by decide)) | refine And.intro (fun h => absurd h (by decide)) (fun _ => ?_) | refine ⟨_, _, a1.pu rfl rfl, ?_⟩ | refine ⟨_, _, g1.pu rfl rfl, ?_⟩ | fail); conv => whnf) | (refine And.intro (fun _ => ?_) (fun _ => ?_) <;> conv => whnf) | fail)
      all_goals try (refine Or.inl ?_; conv => whnf)
    all_goals refine ⟨[], ?_⟩
    repeat (any_goals (first | exact True.intro | exact rfl | with_reducible_and_instances rfl | exact (by kernel_rfl) | refine And.intro ?_ ?_))
    all_goals conv => whnf
  | false =>
  rw [hg] at g1
  have hf := great_ok h64 hg
  cases hr : rightF f with
  | false =>
    have e1 := encode_bad f hf hr
    refine sat_of_vc (T := tiOf Try.prog) (E := E0) Try.func3 rfl rfl hE0 hm0 rfl ?_
    conv => whnf
    iterate 5
      repeat' (first | exact True.intro | ((first | refine And.intro (fun _ => ?_) tf | refine And.intro ft (fun _ => ?_) | refine And.intro (by kernel_rfl) ?_ | refine And.intro (by decide) ?_ | refine And.intro (fun _ => ?_) (fun h => absurd h (by decide)) | refine And.intro (fun h => absurd h (by decide)) (fun _ => ?_) | refine ⟨_, _, a1.pu rfl rfl, ?_⟩ | refine ⟨_, _, g1.pu rfl rfl, ?_⟩ | refine ⟨_, _, e1.pu rfl rfl, ?_⟩ | fail); conv => whnf) | (refine And.intro (fun _ => ?_) (fun _ => ?_) <;> conv => whnf) | fail)
      all_goals try (refine Or.inl ?_; conv => whnf)
    all_goals refine ⟨[], ?_⟩
    repeat (any_goals (first | exact True.intro | exact rfl | with_reducible_and_instances rfl | exact (by kernel_rfl) | refine And.intro ?_ ?_))
    all_goals conv => whnf
  | true =>
  by_cases hL : (encodeT f).length ≤ 65536
  case neg =>
    have e1 := encode_big f hf h64.2.2 hr (by omega)
    refine sat_of_vc (T := tiOf Try.prog) (E := E0) Try.func3 rfl rfl hE0 hm0 rfl ?_
    conv => whnf
    iterate 5
      repeat' (first | exact True.intro | ((first | refine And.intro (fun _ => ?_) tf | refine And.intro ft (fun _ => ?_) | refine And.intro (by kernel_rfl) ?_ | refine And.intro (by decide) ?_ | refine And.intro (fun _ => ?_) (fun h => absurd h (by decide)) | refine And.intro (fun h => absurd h (by decide)) (fun _ => ?_) | refine ⟨_, _, a1.pu rfl rfl, ?_⟩ | refine ⟨_, _, g1.pu rfl rfl, ?_⟩ | refine ⟨_, _, e1.pu rfl rfl, ?_⟩ | fail); conv => whnf) | (refine And.intro (fun _ => ?_) (fun _ => ?_) <;> conv => whnf) | fail)
      all_goals try (refine Or.inl ?_; conv => whnf)
    all_goals refine ⟨[], ?_⟩
    repeat (any_goals (first | exact True.intro | exact rfl | with_reducible_and_instances rfl | exact (by kernel_rfl) | refine And.intro ?_ ?_))
    all_goals conv => whnf
  have e1 := encode_ok f hf h64.2.2 hr hL
  have hm : ((encodeT f).map bR).length = (encodeT f).length := List.length_map _
  have hw : IntKind.i64.wrap (8 * (((encodeT f).map bR).length : Int)) = 8 * ((encodeT f).length : Int) := by rw [hm, wi (by omega) (by omega)]
  by_cases hin : 0 ≤ at_ ∧ at_ < 8 * ((encodeT f).length : Int)
  case neg =>
    have hneg : ¬ (decide (at_ < 0) = false ∧ decide (at_ ≥ IntKind.i64.wrap (8 * (((encodeT f).map bR).length : Int))) = false) := by
      rintro ⟨p1, p2⟩
      have p1 := of_decide_eq_false p1
      have p2 := of_decide_eq_false p2
      rw [hw] at p2
      exact hin ⟨by omega, by omega⟩
    refine sat_of_vc (T := tiOf Try.prog) (E := E0) Try.func3 rfl rfl hE0 hm0 rfl ?_
    conv => whnf
    iterate 5
      repeat' (first | exact True.intro | ((first | refine (fun (_ : True) => (hneg ⟨‹_›, ‹_›⟩).elim) ?_ | refine And.intro (fun _ => ?_) tf | refine And.intro ft (fun _ => ?_) | refine And.intro (by kernel_rfl) ?_ | refine And.intro (by decide) ?_ | refine And.intro (fun _ => ?_) (fun h => absurd h (by decide)) | refine And.intro (fun h => absurd h (by decide)) (fun _ => ?_) | refine ⟨_, _, a1.pu rfl rfl, ?_⟩ | refine ⟨_, _, g1.pu rfl rfl, ?_⟩ | refine ⟨_, _, e1.nw rfl, ?_⟩ | fail); conv => whnf) | (refine And.intro (fun _ => ?_) (fun _ => ?_) <;> conv => whnf) | fail)
      all_goals try (refine Or.inl ?_; conv => whnf)
    all_goals refine ⟨[], ?_⟩
    repeat (any_goals (first | exact True.intro | exact rfl | with_reducible_and_instances rfl | exact (by kernel_rfl) | refine And.intro ?_ ?_))
    all_goals conv => whnf
  obtain ⟨a, rfl⟩ : ∃ a : Nat, at_ = a := ⟨at_.toNat, by omega⟩
  have hk : a / 8 < (encodeT f).length := by omega
  have q1 : decide ((a : Int) < 0) = false := decide_eq_false (by omega)
  have q2 : decide ((a : Int) ≥ IntKind.i64.wrap (8 * (((encodeT f).map bR).length : Int))) = false := decide_eq_false (by rw [hw]; omega)
  have ek : IntKind.i64.wrap ((a : Int).tdiv 8) = ((a / 8 : Nat) : Int) := by
    have : (a : Int).tdiv 8 = ((a / 8 : Nat) : Int) := rfl
    rw [this, wi (by omega) (by omega)]
  have em : IntKind.u64.wrap ((a : Int).tmod 8) = ((a % 8 : Nat) : Int) := by
    have h1 : (a : Int).tmod 8 = ((a % 8 : Nat) : Int) := rfl
    have h2 : IntKind.u64.wrap ((a % 8 : Nat) : Int) = ((a % 8 : Nat) : Int) % 18446744073709551616 := rfl
    rw [h1, h2]; omega
  cases cut with
  | true =>
    have dO := decodeO_sat ((encodeT f).take (a / 8))
    have hgo := decodeF_ok ((encodeT f).take (a / 8))
    have hcut := decode_cut (f := f) hk
    have sm := same_sat f _ hf hgo
    rw [List.map_take] at dO
    generalize decodeF ((encodeT f).take (a / 8)) = G at *
    obtain ⟨gf, ge⟩ := G
    simp only at dO sm hcut
    by_cases he : ge = 0
    · rw [he] at dO
      rw [hcut he] at sm
      refine sat_of_vc (T := tiOf Try.prog) (E := E0) Try.func3 rfl rfl hE0 hm0 rfl ?_
      conv => whnf
      iterate 7
        repeat' (first | exact True.intro | ((first | rw [ek] | refine And.intro (fun _ => ?_) tf | refine And.intro ft (fun _ => ?_) | refine And.intro (by kernel_rfl) ?_ | refine And.intro (by decide) ?_ | refine And.intro (fun _ => ?_) (fun h => absurd h (by decide)) | refine And.intro (fun h => absurd h (by decide)) (fun _ => ?_) | refine ⟨_, _, a1.pu rfl rfl, ?_⟩ | refine ⟨_, _, g1.pu rfl rfl, ?_⟩ | refine ⟨_, _, e1.nw rfl, ?_⟩ | refine ⟨_, _, upto_o (hi := a / 8) 1 1 (by kernel_rfl) rfl (by rw [hm]; omega), ?_⟩ | refine ⟨_, _, dO.at1 2 rfl rfl rfl, ?_⟩ | refine ⟨_, _, sm.pu rfl rfl, ?_⟩ | fail); conv => whnf) | (refine And.intro (fun _ => ?_) (fun _ => ?_) <;> conv => whnf) | fail)
        all_goals try (refine Or.inl ?_; conv => whnf)
      all_goals refine ⟨[], ?_⟩
      repeat (any_goals (first | exact True.intro | exact rfl | with_reducible_and_instances rfl | exact (by kernel_rfl) | refine And.intro ?_ ?_))
      all_goals conv => whnf
    · have d1 := ne0 he
      refine sat_of_vc (T := tiOf Try.prog) (E := E0) Try.func3 rfl rfl hE0 hm0 rfl ?_
      conv => whnf
      iterate 7
        repeat' (first | exact True.intro | ((first | rw [ek] | refine And.intro (fun _ => ?_) tf | refine And.intro ft (fun _ => ?_) | refine And.intro (by kernel_rfl) ?_ | refine And.intro (by decide) ?_ | refine And.intro (fun _ => ?_) (fun h => absurd h (by decide)) | refine And.intro (fun h => absurd h (by decide)) (fun _ => ?_) | refine ⟨_, _, a1.pu rfl rfl, ?_⟩ | refine ⟨_, _, g1.pu rfl rfl, ?_⟩ | refine ⟨_, _, e1.nw rfl, ?_⟩ | refine ⟨_, _, upto_o (hi := a / 8) 1 1 (by kernel_rfl) rfl (by rw [hm]; omega), ?_⟩ | refine ⟨_, _, dO.at1 2 rfl rfl rfl, ?_⟩ | refine ⟨_, _, sm.pu rfl rfl, ?_⟩ | fail); conv => whnf) | (refine And.intro (fun _ => ?_) (fun _ => ?_) <;> conv => whnf) | fail)
        all_goals try (refine Or.inl ?_; conv => whnf)
      all_goals try exact (bnl d1 ‹_›).elim
      all_goals refine ⟨[], ?_⟩
      repeat (any_goals (first | exact True.intro | exact rfl | with_reducible_and_instances rfl | exact (by kernel_rfl) | refine And.intro ?_ ?_))
      all_goals conv => whnf
  | false =>
    have hgx : ((encodeT f).map bR)[a / 8]? = some (bR (encodeT f)[a / 8]) := by rw [List.getElem?_map, List.getElem?_eq_getElem hk]; rfl
    have dF := decodeO_sat ((encodeT f).set (a / 8) ((encodeT f)[a / 8] ^^^ bitOf a))
    have hdf : decodeF ((encodeT f).set (a / 8) ((encodeT f)[a / 8] ^^^ bitOf a)) = (frO, 14) := decode_flip (l := frT f f.k.toNat) (a := a) hk hL _ rfl
    rw [hdf, List.map_set] at dF
    have sF := same_pre frO frO frO_ok frO_ok nil_frO
    have hso : sameB frO frO = true := sameB_iff.2 rfl
    rw [hso] at sF
    refine sat_of_vc (T := tiOf Try.prog) (E := E0) Try.func3 rfl rfl hE0 hm0 rfl ?_
    conv => whnf
    iterate 7
      repeat' (first | exact True.intro | ((first | refine ⟨a / 8, ek, (by rw [hm]; exact hk), ?_⟩ | refine ⟨bR (encodeT f)[a / 8], hgx, ?_⟩ | refine And.intro (by rw [em]; omega) ?_ | refine And.intro (Nat.le_refl 1) ?_ | refine ⟨bR (encodeT f)[a / 8], bR ((encodeT f)[a / 8] ^^^ bitOf a), hgx, congrArg (fun z => [D.v (.int .u8 z)]) (flip_val _ a _ em), ?_⟩ | refine And.intro (fun _ => ?_) tf | refine And.intro ft (fun _ => ?_) | refine And.intro (by kernel_rfl) ?_ | refine And.intro (by decide) ?_ | refine And.intro (fun _ => ?_) (fun h => absurd h (by decide)) | refine And.intro (fun h => absurd h (by decide)) (fun _ => ?_) | refine ⟨_, _, a1.pu rfl rfl, ?_⟩ | refine ⟨_, _, g1.pu rfl rfl, ?_⟩ | refine ⟨_, _, e1.nw rfl, ?_⟩ | refine ⟨_, _, dF.at1 1 rfl rfl rfl, ?_⟩ | refine ⟨_, _, sF.pu rfl rfl, ?_⟩ | fail); conv => whnf) | (refine And.intro (fun _ => ?_) (fun _ => ?_) <;> conv => whnf) | fail)
      all_goals try (refine Or.inl ?_; conv => whnf)
    all_goals try exact (bnl ‹_› q2).elim
    all_goals refine ⟨[], ?_⟩
    repeat (any_goals (first | exact True.intro | exact rfl | with_reducible_and_instances rfl | exact (by kernel_rfl) | refine And.intro ?_ ?_))
    all_goals conv => whnf
end Go.Proofs.Ytfbfpnfgabamfaa
/- Two closed facts on the program that every law's statement asks. -/
namespace Go.Proofs.Ytfbfpnfgabamfaa
set_option linter.unusedSimpArgs false
set_option linter.unusedVariables false
open Go.RowKit
theorem own : ownKnob Try.prog.godebug = none := by kernel_rfl
theorem laidOut : laidOutB Try.prog = true := by kernel_rfl
end Go.Proofs.Ytfbfpnfgabamfaa
