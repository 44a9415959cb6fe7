/- Parts CdE, CdF, CeL, CeM, CeP, CeW of the proof, put together. -/
import Derived.Test.YtbjmdnemeidpjaaM13
/- Bytes of one cell. -/
namespace Go.Proofs.Ytbjmdnemeidpjaa
set_option linter.unusedSimpArgs false
set_option linter.unusedVariables false
open Go.RowKit
set_option maxRecDepth 100000
def hMM : List Int := [2, 0, 0, 2, 0, 1] ++ List.replicate 59 0
def cM : Cel := ⟨5, 13, -1, 9, 0, 0, hMM⟩
theorem hMM_len : hMM.length = 65 := by decide
theorem cM_ok : CelOK cM where
  n := by decide
  s := by decide
  mn := by decide
  mx := by decide
  ce := by decide
  po := by decide
  hl := hMM_len
  hx := by decide
theorem cM_right : rightC cM = true := by decide +kernel
def prM : Nat → List Nat
  | 0 => []
  | 1 => [0, 2]
  | 2 => [0, 2, 3, 2]
  | _ => [0, 2, 3, 2, 5, 1]
abbrev b20 : List UInt8 := [5, 0, 0, 1, 18, 16] ++ b13
abbrev bM : List UInt8 := b20 ++ [3] ++ [0, 2, 3, 2, 5, 1]
theorem hMM_at : ∀ b, b < 65 → hMM[b]? = if b = 0 then some 2 else if b = 3 then some 2 else if b = 5 then some 1 else some 0 := by decide
theorem hMM_next {y b : Nat} {v : Int} (hy : y ≤ b) (hb : b < 65) (hv : hMM[b]? = some v) (h0 : v ≠ 0) (hz : ∀ j, y ≤ j → j < b → hMM[j]? = some 0) : (y = 0 → b = 0 ∧ v = 2) ∧ (y = 1 → b = 3 ∧ v = 2) ∧ (y = 4 → b = 5 ∧ v = 1) ∧ y ≠ 6 := by
  have e0 : hMM[0]? = some 2 := by decide
  have e3 : hMM[3]? = some 2 := by decide
  have e5 : hMM[5]? = some 1 := by decide
  rw [hMM_at b hb] at hv
  have hb3 : b = 0 ∧ v = 2 ∨ b = 3 ∧ v = 2 ∨ b = 5 ∧ v = 1 := by
    split at hv
    · injection hv with hv; exact .inl ⟨by assumption, hv.symm⟩
    · split at hv
      · injection hv with hv; exact .inr (.inl ⟨by assumption, hv.symm⟩)
      · split at hv
        · injection hv with hv; exact .inr (.inr ⟨by assumption, hv.symm⟩)
        · injection hv with hv; exact absurd hv.symm h0
  have n0 : y ≤ 0 → b ≤ 0 := fun h => by
    by_cases q : 0 < b
    · have := hz 0 h q; rw [e0] at this; simp at this
    · omega
  have n3 : y ≤ 3 → b ≤ 3 := fun h => by
    by_cases q : 3 < b
    · have := hz 3 h q; rw [e3] at this; simp at this
    · omega
  omega
theorem hMM_end {y : Nat} (hz : ∀ j, y ≤ j → j < 65 → hMM[j]? = some 0) : y ≠ 0 ∧ y ≠ 1 ∧ y ≠ 4 := by
  have e3 : hMM[3]? = some 2 := by decide
  have e5 : hMM[5]? = some 1 := by decide
  refine ⟨fun h => ?_, fun h => ?_, fun h => ?_⟩
  · have := hz 3 (by omega) (by omega); rw [e3] at this; simp at this
  · have := hz 3 (by omega) (by omega); rw [e3] at this; simp at this
  · have := hz 5 (by omega) (by omega); rw [e5] at this; simp at this
set_option maxHeartbeats 8000000 in
theorem bytesM : Sat Try.prog 26 [.d (cD cM)] [] (.d (bsD bM)) [] := by
  have hl : cM.h.length = 65 := hMM_len
  have r1 := right_sat_c cM cM_ok
  rw [cM_right] at r1
  have u1 := uints_sat [5, 0, 0] (by decide) (by decide) (by decide)
  have i1 := ints_sat [-1, 9] (by decide) (by decide) (by decide)
  have f1 := full_sat cM.h
  refine sat_of_vc (T := tiOf Try.prog) (E := E0) Try.func26 rfl rfl hE0 hm0 rfl ?_
  conv => whnf
  have u2 := uints_sat [3] (by decide) (by decide) (by decide)
  have u3 := uints_sat [0, 2, 3, 2, 5, 1] (by decide) (by decide) (by decide)
  have t1 := texts_sat [⟨b13.toArray⟩] (by decide) (by decide) (by decide)
  have w1 := wbytes13
  iterate 6
    repeat (any_goals (first
      | exact True.intro
      | (refine ⟨_, drop_id, ?_⟩; conv => whnf)
      | (refine ⟨_, _, at_n, ?_⟩; conv => whnf)
      | (refine ⟨_, _, at_hi, ?_⟩; conv => whnf)
      | (refine ⟨_, _, at_lo, ?_⟩; conv => whnf)
      | (refine ⟨_, _, at_mn, ?_⟩; conv => whnf)
      | (refine ⟨_, _, at_mx, ?_⟩; conv => whnf)
      | (refine ⟨_, _, at_ce, ?_⟩; conv => whnf)
      | (refine ⟨_, _, at_po, ?_⟩; conv => whnf)
      | (refine ⟨_, whole_z sC, clenz sC, ?_⟩; conv => whnf)
      | (refine ⟨_, setzC, ?_⟩; conv => whnf)
      | (refine And.intro (clenz sC) ?_; conv => whnf)
      | (refine And.intro fitzC ?_; conv => whnf)
      | (refine ⟨_, whole_cell sC hl, clen sC hl, ?_⟩; conv => whnf)
      | (refine And.intro (clen sC hl) ?_; conv => whnf)
      | (refine And.intro (fitC hl) ?_; conv => whnf)
      | (refine ⟨_, setC hl, ?_⟩; conv => whnf)
      | (refine ⟨_, whole_z sF, clenz sF, ?_⟩; conv => whnf)
      | (refine ⟨_, setzF, ?_⟩; conv => whnf)
      | (refine And.intro (clenz sF) ?_; conv => whnf)
      | (refine And.intro fitzF ?_; conv => whnf)
      | (refine ⟨_, whole_cell sF hl, clen sF hl, ?_⟩; conv => whnf)
      | (refine And.intro (clen sF hl) ?_; conv => whnf)
      | (refine And.intro (fitF hl) ?_; conv => whnf)
      | (refine ⟨_, setF hl, ?_⟩; conv => whnf)
      | (refine And.intro (fit1 hl (by decide)) ?_; conv => whnf)
      | (refine And.intro (fit1 rfl (by decide)) ?_; conv => whnf)
      | (refine ⟨_, sum_cell s25, rfl, ?_⟩; conv => whnf)
      | (refine ⟨_, set_n _, ?_⟩; conv => whnf)
      | (refine ⟨_, set_mn _, ?_⟩; conv => whnf)
      | (refine ⟨_, set_mx _, ?_⟩; conv => whnf)
      | (refine ⟨_, set_ce _, ?_⟩; conv => whnf)
      | (refine ⟨_, set_po _, ?_⟩; conv => whnf)
      | (refine ⟨_, set_s _, ?_⟩; conv => whnf)
      | (refine ⟨_, set_hi _, ?_⟩; conv => whnf)
      | (refine ⟨_, set_lo _, ?_⟩; conv => whnf)
      | (refine ⟨_, hist_cell s69 hl, whole_len s69 hl, ?_⟩; conv => whnf)
      | (refine And.intro (fun _ => ?_) tf; conv => whnf)
      | (refine And.intro ft (fun _ => ?_); conv => whnf)
      | (refine And.intro (by kernel_rfl) ?_; conv => whnf)
      | (refine And.intro (by decide) ?_; conv => whnf)
      | (refine And.intro (fun _ => ?_) (fun h => absurd h (by decide)); conv => whnf)
      | (refine And.intro (fun h => absurd h (by decide)) (fun _ => ?_); conv => whnf)
      | (refine And.intro (fun _ => ?_) (fun _ => ?_) <;> conv => whnf)
      | (refine ⟨_, _, r1.pu rfl rfl, ?_⟩; conv => whnf)
      | (refine ⟨_, _, lendON u1 rfl (bR_flats _), ?_⟩; conv => whnf)
      | (refine ⟨_, _, lendON i1 rfl (bR_flats _), ?_⟩; conv => whnf)
      | (refine ⟨_, _, ap 1 1 (by kernel_rfl) rfl rfl (by decide), ?_⟩; conv => whnf)
      | (refine ⟨_, _, w1.nw rfl, ?_⟩; conv => whnf)
      | (refine ⟨_, _, str_o b13 rfl, ?_⟩; conv => whnf)
      | (refine ⟨_, _, lendON t1 rfl (bR_flats _), ?_⟩; conv => whnf)
      | (refine ⟨_, _, f1.nw rfl, ?_⟩; conv => whnf)))
    all_goals try (refine Or.inl ?_; conv => whnf)
  refine ⟨Nat, Nat, fun y z => (y = 0 ∧ z = 0) ∨ (y = 1 ∧ z = 1) ∨ (y = 4 ∧ z = 2) ∨ (y = 6 ∧ z = 3), fun z => [.row (cR cM), .dead, .dead, .dead, .dead, .dead, .dead, .dead, .dead, .dead, .sl 1 (b20.map bR), .cells [.own 13], .row (hR hMM), .sl 1 ((prM z).map uR)], [(39, .fn (.func 80) [] [.ptr 12 0]), (4, .ptr 11 0), (3, .own 10), (1, .ptr 0 0)], 13, _, _, _, [.dead, .dead, .dead, .dead, .dead, .dead, .dead, .dead, .dead, .dead, .dead, .dead, .row (hR hMM)], 0, _, _, ⟨0, .inl ⟨rfl, rfl⟩, ?_⟩, rfl, rfl, fullN hMM_len rfl, ?_, ?_, ?_, ?_⟩
  · all_goals refine ⟨[], ?_⟩
    repeat (any_goals (first | exact True.intro | exact rfl | with_reducible_and_instances rfl | exact (by kernel_rfl) | refine And.intro ?_ ?_))
    all_goals conv => whnf
  · rintro y x y' ⟨b, v, _, rfl⟩; rfl
  · rintro y z _; exact ⟨⟨rfl, trivial⟩, by show 13 ≤ 14; omega⟩
  · rintro y z x y' hyz ⟨b, v, ⟨hyb, hb, hbv, hv0, hz, rfl⟩, rfl⟩
    have nx := hMM_next hyb hb hbv hv0 hz
    rcases hyz with ⟨rfl, rfl⟩ | ⟨rfl, rfl⟩ | ⟨rfl, rfl⟩ | ⟨rfl, rfl⟩
    · obtain ⟨rfl, rfl⟩ := nx.1 rfl
      conv => whnf
      iterate 4
        repeat (any_goals (first
          | exact True.intro
          | (refine And.intro (fun _ => ?_) tf; conv => whnf)
          | (refine And.intro ft (fun _ => ?_); conv => whnf)
          | (refine And.intro (by kernel_rfl) ?_; conv => whnf)
          | (refine And.intro (by decide) ?_; conv => whnf)
          | (refine And.intro (fun _ => ?_) (fun h => absurd h (by decide)); conv => whnf)
          | (refine And.intro (fun h => absurd h (by decide)) (fun _ => ?_); conv => whnf)
          | (refine And.intro (fun _ => ?_) (fun _ => ?_) <;> conv => whnf)
          | (refine ⟨_, _, ap 1 8 (by kernel_rfl) rfl rfl (by decide), ?_⟩; conv => whnf)))
        all_goals try (refine Or.inl ?_; conv => whnf)
      refine ⟨1, .inr (.inl ⟨rfl, rfl⟩), ?_⟩
      all_goals refine ⟨[(13, 15)], ?_⟩
      repeat (any_goals (first | exact True.intro | exact rfl | with_reducible_and_instances rfl | exact (by kernel_rfl) | refine And.intro ?_ ?_))
      all_goals conv => whnf
    · obtain ⟨rfl, rfl⟩ := nx.2.1 rfl
      conv => whnf
      iterate 4
        repeat (any_goals (first
          | exact True.intro
          | (refine And.intro (fun _ => ?_) tf; conv => whnf)
          | (refine And.intro ft (fun _ => ?_); conv => whnf)
          | (refine And.intro (by kernel_rfl) ?_; conv => whnf)
          | (refine And.intro (by decide) ?_; conv => whnf)
          | (refine And.intro (fun _ => ?_) (fun h => absurd h (by decide)); conv => whnf)
          | (refine And.intro (fun h => absurd h (by decide)) (fun _ => ?_); conv => whnf)
          | (refine And.intro (fun _ => ?_) (fun _ => ?_) <;> conv => whnf)
          | (refine ⟨_, _, ap 1 8 (by kernel_rfl) rfl rfl (by decide), ?_⟩; conv => whnf)))
        all_goals try (refine Or.inl ?_; conv => whnf)
      refine ⟨2, .inr (.inr (.inl ⟨rfl, rfl⟩)), ?_⟩
      all_goals refine ⟨[(13, 15)], ?_⟩
      repeat (any_goals (first | exact True.intro | exact rfl | with_reducible_and_instances rfl | exact (by kernel_rfl) | refine And.intro ?_ ?_))
      all_goals conv => whnf
    · obtain ⟨rfl, rfl⟩ := nx.2.2.1 rfl
      conv => whnf
      iterate 4
        repeat (any_goals (first
          | exact True.intro
          | (refine And.intro (fun _ => ?_) tf; conv => whnf)
          | (refine And.intro ft (fun _ => ?_); conv => whnf)
          | (refine And.intro (by kernel_rfl) ?_; conv => whnf)
          | (refine And.intro (by decide) ?_; conv => whnf)
          | (refine And.intro (fun _ => ?_) (fun h => absurd h (by decide)); conv => whnf)
          | (refine And.intro (fun h => absurd h (by decide)) (fun _ => ?_); conv => whnf)
          | (refine And.intro (fun _ => ?_) (fun _ => ?_) <;> conv => whnf)
          | (refine ⟨_, _, ap 1 8 (by kernel_rfl) rfl rfl (by decide), ?_⟩; conv => whnf)))
        all_goals try (refine Or.inl ?_; conv => whnf)
      refine ⟨3, .inr (.inr (.inr ⟨rfl, rfl⟩)), ?_⟩
      all_goals refine ⟨[(13, 15)], ?_⟩
      repeat (any_goals (first | exact True.intro | exact rfl | with_reducible_and_instances rfl | exact (by kernel_rfl) | refine And.intro ?_ ?_))
      all_goals conv => whnf
    · exact absurd rfl nx.2.2.2
  · rintro y z ⟨hy, hz⟩ hyz
    have hz := hMM_end hz
    have hz3 : z = 3 := by omega
    subst hz3
    clear hyz
    conv => whnf
    iterate 5
      repeat (any_goals (first
        | exact True.intro
        | (refine And.intro (fun _ => ?_) tf; conv => whnf)
        | (refine And.intro ft (fun _ => ?_); conv => whnf)
        | (refine And.intro (by kernel_rfl) ?_; conv => whnf)
        | (refine And.intro (by decide) ?_; conv => whnf)
        | (refine And.intro (fun _ => ?_) (fun h => absurd h (by decide)); conv => whnf)
        | (refine And.intro (fun h => absurd h (by decide)) (fun _ => ?_); conv => whnf)
        | (refine And.intro (fun _ => ?_) (fun _ => ?_) <;> conv => whnf)
        | (refine ⟨_, _, lendON u2 rfl (bR_flats _), ?_⟩; conv => whnf)
        | (refine ⟨_, _, lendON u3 rfl (bR_flats _), ?_⟩; conv => whnf)
        | (refine ⟨_, _, ap 1 1 (by kernel_rfl) rfl rfl (by decide), ?_⟩; conv => whnf)))
      all_goals try (refine Or.inl ?_; conv => whnf)
    all_goals refine ⟨[], ?_⟩
    repeat (any_goals (first | exact True.intro | exact rfl | with_reducible_and_instances rfl | exact (by kernel_rfl) | refine And.intro ?_ ?_))
    all_goals conv => whnf
end Go.Proofs.Ytbjmdnemeidpjaa
/- Back of these bytes. -/
namespace Go.Proofs.Ytbjmdnemeidpjaa
set_option linter.unusedSimpArgs false
set_option linter.unusedVariables false
open Go.RowKit
set_option maxRecDepth 100000
theorem uint_at (l l' : List UInt8) (u s : Nat) (hn : l.length ≤ 65536) (hd : dec l = (u, s, 0)) (hl : l.drop s = l') : Sat Try.prog 64 [.ptr 0 0] [rdO l 0] (uN u) [rdO l' 0] := by
  have := uint_sat l hn (by rw [hd])
  rw [hd] at this
  rw [← hl]
  exact this
theorem int_at (l l' : List UInt8) (u s : Nat) (z : Int) (hn : l.length ≤ 65536) (hd : dec l = (u, s, 0)) (hu : u < 18446744073709551616) (hz : unturnZ u = z) (hl : l.drop s = l') : Sat Try.prog 65 [.ptr 0 0] [rdO l 0] (iA z) [rdO l' 0] := by
  have := int_sat l hn (by rw [hd]) (by rw [hd]; exact hu)
  rw [hd] at this
  rw [← hl, ← hz]
  exact this
theorem count_at (l l' : List UInt8) (n s : Nat) (most : Int) (hm : in64 most) (hn : l.length ≤ 65536) (hd : cnt l most = (n, s, 0)) (hl : l.drop s = l') : Sat Try.prog 67 [.ptr 0 0, iA most] [rdO l 0] (iA n) [rdO l' 0] := by
  have := countM_sat l most hm hn (by rw [hd])
  rw [hd] at this
  rw [← hl]
  exact this
def lf (k : Nat) : List UInt8 := bM.drop k
def prD : Nat → List (List D)
  | 0 => []
  | 1 => [[uZ 0, uZ 2]]
  | 2 => [[uZ 0, uZ 2], [uZ 3, uZ 2]]
  | _ => [[uZ 0, uZ 2], [uZ 3, uZ 2], [uZ 5, uZ 1]]
def hk : Nat → List Int
  | 0 => z65
  | 1 => [2] ++ List.replicate 64 0
  | 2 => [2, 0, 0, 2] ++ List.replicate 61 0
  | _ => hMM
theorem build_c3 (a b c : Int) : sets (sets (sets (List.map D.v (tiOf Try.prog 29).zero) 0 [iD a]) 5 [iD b]) 6 [iD c] = cR ⟨a, 0, 0, 0, b, c, z65⟩ := by rw [zeC]; rfl
set_option maxHeartbeats 16000000 in
theorem backM : Sat Try.prog 25 [.d (bsD bM)] [] (.tup [.d (cD cM), iA 0]) [] := by
  have hl : cM.h.length = 65 := hMM_len
  have r1 := right_sat_c cM cM_ok
  rw [cM_right] at r1
  have n1 := newR_sat bM (by decide) (by decide)
  have n1 : Sat Try.prog 63 [.d (bsD bM)] [] (.ptr 1 0) [.dead, rdO (lf 0) 0] := n1
  have c0 := uint_at (lf 0) (lf 1) 5 1 (by decide) (by decide) (by decide)
  have c1 := uint_at (lf 1) (lf 2) 0 1 (by decide) (by decide) (by decide)
  have c2 := uint_at (lf 2) (lf 3) 0 1 (by decide) (by decide) (by decide)
  have c3 := int_at (lf 3) (lf 4) 1 1 (-1) (by decide) (by decide) (by decide) (by decide) (by decide)
  have c4 := int_at (lf 4) (lf 5) 18 1 9 (by decide) (by decide) (by decide) (by decide) (by decide)
  have c5 := text_sat (lf 5) 16 16 1 (by decide) (by decide) (by decide) (by decide)
  have c5 : Sat Try.prog 66 [.ptr 0 0, iA 16] [rdO (lf 5) 0] (.d (strD ⟨b13.toArray⟩)) [rdO (lf 22) 0] := c5
  have c6 := count_at (lf 22) (lf 23) 3 1 65 (by decide) (by decide) (by decide) (by decide)
  refine sat_of_vc (T := tiOf Try.prog) (E := E0) Try.func25 rfl rfl hE0 hm0 rfl ?_
  conv => whnf
  iterate 5
    repeat (any_goals (first
      | exact True.intro
      | (refine And.intro (fun _ => ?_) tf; conv => whnf)
      | (refine And.intro ft (fun _ => ?_); conv => whnf)
      | (refine And.intro (by kernel_rfl) ?_; conv => whnf)
      | (refine And.intro (by decide) ?_; conv => whnf)
      | (refine And.intro (fun _ => ?_) (fun h => absurd h (by decide)); conv => whnf)
      | (refine And.intro (fun h => absurd h (by decide)) (fun _ => ?_); conv => whnf)
      | (refine And.intro (fun _ => ?_) (fun _ => ?_) <;> conv => whnf)
      | (refine ⟨_, _, n1.nw rfl, ?_⟩; conv => whnf)
      | (refine ⟨_, _, c0.at1 2 rfl rfl rfl, ?_⟩; conv => whnf)
      | (refine ⟨_, _, c1.at1 2 rfl rfl rfl, ?_⟩; conv => whnf)
      | (refine ⟨_, _, c2.at1 2 rfl rfl rfl, ?_⟩; conv => whnf)
      | (refine ⟨_, _, c3.at1 2 rfl rfl rfl, ?_⟩; conv => whnf)
      | (refine ⟨_, _, c4.at1 2 rfl rfl rfl, ?_⟩; conv => whnf)
      | (refine ⟨_, _, c5.at1 2 rfl rfl rfl, ?_⟩; conv => whnf)
      | (refine ⟨_, _, c6.at1 2 rfl rfl rfl, ?_⟩; conv => whnf)))
    all_goals try (refine Or.inl ?_; conv => whnf)
  have d0 := uint_at (lf 23) (lf 24) 0 1 (by decide) (by decide) (by decide)
  have d1 := uint_at (lf 24) (lf 25) 2 1 (by decide) (by decide) (by decide)
  have d2 := uint_at (lf 25) (lf 26) 3 1 (by decide) (by decide) (by decide)
  have d3 := uint_at (lf 26) (lf 27) 2 1 (by decide) (by decide) (by decide)
  have d4 := uint_at (lf 27) (lf 28) 5 1 (by decide) (by decide) (by decide)
  have d5 := uint_at (lf 28) (lf 29) 1 1 (by decide) (by decide) (by decide)
  refine ⟨Nat, fun k => k ≤ 3, fun k => ([(35, iA k), (34, iA 3), (9, .own 4), (8, .d (strD ⟨b13.toArray⟩)), (7, iA 9), (6, iA (-1)), (5, .ptr 3 0), (4, .ptr 2 0), (2, .ptr 0 0)], [.row (cR zC), .dead, rdO (lf (23 + 2 * k)) 0, .cells [uN 5, uN 0, uN 0], .sl 2 (prD k)]), fun k => 3 - k, ⟨0, by decide, ?_⟩, ?_⟩
  · all_goals refine ⟨[], ?_⟩
    repeat (any_goals (first | exact True.intro | exact rfl | with_reducible_and_instances rfl | exact (by kernel_rfl) | refine And.intro ?_ ?_))
    all_goals conv => whnf
  intro k hk3
  have hk3 : k = 0 ∨ k = 1 ∨ k = 2 ∨ k = 3 := by have : k ≤ 3 := hk3; omega
  rcases hk3 with rfl | rfl | rfl | rfl
  · conv => whnf
    iterate 4
      repeat (any_goals (first
        | exact True.intro
        | (refine And.intro (fun _ => ?_) tf; conv => whnf)
        | (refine And.intro ft (fun _ => ?_); conv => whnf)
        | (refine And.intro (by kernel_rfl) ?_; conv => whnf)
        | (refine And.intro (by decide) ?_; conv => whnf)
        | (refine And.intro (fun _ => ?_) (fun h => absurd h (by decide)); conv => whnf)
        | (refine And.intro (fun h => absurd h (by decide)) (fun _ => ?_); conv => whnf)
        | (refine And.intro (fun _ => ?_) (fun _ => ?_) <;> conv => whnf)
        | (refine ⟨_, _, d0.at1 2 rfl rfl rfl, ?_⟩; conv => whnf)
        | (refine ⟨_, _, d1.at1 2 rfl rfl rfl, ?_⟩; conv => whnf)
        | (refine ⟨_, _, ap 2 16 (by kernel_rfl) rfl rfl (by decide), ?_⟩; conv => whnf)))
      all_goals try (refine Or.inl ?_; conv => whnf)
    refine ⟨1, by decide, by decide, ?_⟩
    all_goals refine ⟨[(4, 6)], ?_⟩
    repeat (any_goals (first | exact True.intro | exact rfl | with_reducible_and_instances rfl | exact (by kernel_rfl) | refine And.intro ?_ ?_))
    all_goals conv => whnf
  · conv => whnf
    iterate 4
      repeat (any_goals (first
        | exact True.intro
        | (refine And.intro (fun _ => ?_) tf; conv => whnf)
        | (refine And.intro ft (fun _ => ?_); conv => whnf)
        | (refine And.intro (by kernel_rfl) ?_; conv => whnf)
        | (refine And.intro (by decide) ?_; conv => whnf)
        | (refine And.intro (fun _ => ?_) (fun h => absurd h (by decide)); conv => whnf)
        | (refine And.intro (fun h => absurd h (by decide)) (fun _ => ?_); conv => whnf)
        | (refine And.intro (fun _ => ?_) (fun _ => ?_) <;> conv => whnf)
        | (refine ⟨_, _, d2.at1 2 rfl rfl rfl, ?_⟩; conv => whnf)
        | (refine ⟨_, _, d3.at1 2 rfl rfl rfl, ?_⟩; conv => whnf)
        | (refine ⟨_, _, ap 2 16 (by kernel_rfl) rfl rfl (by decide), ?_⟩; conv => whnf)))
      all_goals try (refine Or.inl ?_; conv => whnf)
    refine ⟨2, by decide, by decide, ?_⟩
    all_goals refine ⟨[(4, 6)], ?_⟩
    repeat (any_goals (first | exact True.intro | exact rfl | with_reducible_and_instances rfl | exact (by kernel_rfl) | refine And.intro ?_ ?_))
    all_goals conv => whnf
  · conv => whnf
    iterate 4
      repeat (any_goals (first
        | exact True.intro
        | (refine And.intro (fun _ => ?_) tf; conv => whnf)
        | (refine And.intro ft (fun _ => ?_); conv => whnf)
        | (refine And.intro (by kernel_rfl) ?_; conv => whnf)
        | (refine And.intro (by decide) ?_; conv => whnf)
        | (refine And.intro (fun _ => ?_) (fun h => absurd h (by decide)); conv => whnf)
        | (refine And.intro (fun h => absurd h (by decide)) (fun _ => ?_); conv => whnf)
        | (refine And.intro (fun _ => ?_) (fun _ => ?_) <;> conv => whnf)
        | (refine ⟨_, _, d4.at1 2 rfl rfl rfl, ?_⟩; conv => whnf)
        | (refine ⟨_, _, d5.at1 2 rfl rfl rfl, ?_⟩; conv => whnf)
        | (refine ⟨_, _, ap 2 16 (by kernel_rfl) rfl rfl (by decide), ?_⟩; conv => whnf)))
      all_goals try (refine Or.inl ?_; conv => whnf)
    refine ⟨3, by decide, by decide, ?_⟩
    all_goals refine ⟨[(4, 6)], ?_⟩
    repeat (any_goals (first | exact True.intro | exact rfl | with_reducible_and_instances rfl | exact (by kernel_rfl) | refine And.intro ?_ ?_))
    all_goals conv => whnf
  conv => whnf
  have e1 : Sat Try.prog 68 [.ptr 0 0] [rdO (lf 29) 0] (iA 0) [rdO [] 0] := end_sat
  iterate 4
    repeat (any_goals (first
      | exact True.intro
      | (refine And.intro (fun _ => ?_) tf; conv => whnf)
      | (refine And.intro ft (fun _ => ?_); conv => whnf)
      | (refine And.intro (by kernel_rfl) ?_; conv => whnf)
      | (refine And.intro (by decide) ?_; conv => whnf)
      | (refine And.intro (fun _ => ?_) (fun h => absurd h (by decide)); conv => whnf)
      | (refine And.intro (fun h => absurd h (by decide)) (fun _ => ?_); conv => whnf)
      | (refine And.intro (fun _ => ?_) (fun _ => ?_) <;> conv => whnf)
      | (refine ⟨_, _, e1.at1 2 rfl rfl rfl, ?_⟩; conv => whnf)))
    all_goals try (refine Or.inl ?_; conv => whnf)
  have l130 : (tiOf Try.prog 130).len = 3 := by kernel_rfl
  refine ⟨Nat, fun k => k ≤ 3, fun k => ([(53, iA k), (52, .d (.agg [uZ 5, uZ 0, uZ 0])), (9, .own 4), (8, .d (strD ⟨b13.toArray⟩)), (7, iA 9), (6, iA (-1)), (5, .ptr 3 0), (4, .ptr 2 0), (2, .ptr 0 0)], [.row (cR zC), .dead, .dead, .cells [uN 5, uN 0, uN 0], .sl 2 (prD 3)]), fun k => 3 - k, ⟨0, by decide, ?_⟩, ?_⟩
  · all_goals refine ⟨[], ?_⟩
    repeat (any_goals (first | exact True.intro | exact rfl | with_reducible_and_instances rfl | exact (by kernel_rfl) | refine And.intro ?_ ?_))
    all_goals conv => whnf
  intro k hk3
  have hk3 : k = 0 ∨ k = 1 ∨ k = 2 ∨ k = 3 := by have : k ≤ 3 := hk3; omega
  rcases hk3 with rfl | rfl | rfl | rfl
  · conv => whnf
    iterate 4
      repeat (any_goals (first
        | exact True.intro
        | (refine ⟨0, _, rfl, Nat.lt_of_lt_of_eq (by decide) l130.symm, rfl, ?_⟩; conv => whnf)
        | (refine And.intro (fun _ => ?_) tf; conv => whnf)
        | (refine And.intro ft (fun _ => ?_); conv => whnf)
        | (refine And.intro (by kernel_rfl) ?_; conv => whnf)
        | (refine And.intro (by decide) ?_; conv => whnf)
        | (refine And.intro (fun _ => ?_) (fun h => absurd h (by decide)); conv => whnf)
        | (refine And.intro (fun h => absurd h (by decide)) (fun _ => ?_); conv => whnf)
        | (refine And.intro (fun _ => ?_) (fun _ => ?_) <;> conv => whnf)))
      all_goals try (exfalso; simp only [decide_eq_true_eq, decide_eq_false_iff_not, Bool.not_eq_true', Bool.not_eq_false', Bool.not_eq_true, Bool.not_eq_false, beq_iff_eq, bne_iff_ne, beq_eq_false_iff_ne, bne_eq_false_iff_eq, ne_eq, Decidable.not_not] at *; first | omega | contradiction | (simp_all; done) | (simp_all; omega))
      all_goals try (refine Or.inl ?_; conv => whnf)
    refine ⟨1, by decide, by decide, ?_⟩
    all_goals refine ⟨[], ?_⟩
    repeat (any_goals (first | exact True.intro | exact rfl | with_reducible_and_instances rfl | exact (by kernel_rfl) | refine And.intro ?_ ?_))
    all_goals conv => whnf
  · conv => whnf
    iterate 4
      repeat (any_goals (first
        | exact True.intro
        | (refine ⟨1, _, rfl, Nat.lt_of_lt_of_eq (by decide) l130.symm, rfl, ?_⟩; conv => whnf)
        | (refine And.intro (fun _ => ?_) tf; conv => whnf)
        | (refine And.intro ft (fun _ => ?_); conv => whnf)
        | (refine And.intro (by kernel_rfl) ?_; conv => whnf)
        | (refine And.intro (by decide) ?_; conv => whnf)
        | (refine And.intro (fun _ => ?_) (fun h => absurd h (by decide)); conv => whnf)
        | (refine And.intro (fun h => absurd h (by decide)) (fun _ => ?_); conv => whnf)
        | (refine And.intro (fun _ => ?_) (fun _ => ?_) <;> conv => whnf)))
      all_goals try (exfalso; simp only [decide_eq_true_eq, decide_eq_false_iff_not, Bool.not_eq_true', Bool.not_eq_false', Bool.not_eq_true, Bool.not_eq_false, beq_iff_eq, bne_iff_ne, beq_eq_false_iff_ne, bne_eq_false_iff_eq, ne_eq, Decidable.not_not] at *; first | omega | contradiction | (simp_all; done) | (simp_all; omega))
      all_goals try (refine Or.inl ?_; conv => whnf)
    refine ⟨2, by decide, by decide, ?_⟩
    all_goals refine ⟨[], ?_⟩
    repeat (any_goals (first | exact True.intro | exact rfl | with_reducible_and_instances rfl | exact (by kernel_rfl) | refine And.intro ?_ ?_))
    all_goals conv => whnf
  · conv => whnf
    iterate 4
      repeat (any_goals (first
        | exact True.intro
        | (refine ⟨2, _, rfl, Nat.lt_of_lt_of_eq (by decide) l130.symm, rfl, ?_⟩; conv => whnf)
        | (refine And.intro (fun _ => ?_) tf; conv => whnf)
        | (refine And.intro ft (fun _ => ?_); conv => whnf)
        | (refine And.intro (by kernel_rfl) ?_; conv => whnf)
        | (refine And.intro (by decide) ?_; conv => whnf)
        | (refine And.intro (fun _ => ?_) (fun h => absurd h (by decide)); conv => whnf)
        | (refine And.intro (fun h => absurd h (by decide)) (fun _ => ?_); conv => whnf)
        | (refine And.intro (fun _ => ?_) (fun _ => ?_) <;> conv => whnf)))
      all_goals try (exfalso; simp only [decide_eq_true_eq, decide_eq_false_iff_not, Bool.not_eq_true', Bool.not_eq_false', Bool.not_eq_true, Bool.not_eq_false, beq_iff_eq, bne_iff_ne, beq_eq_false_iff_ne, bne_eq_false_iff_eq, ne_eq, Decidable.not_not] at *; first | omega | contradiction | (simp_all; done) | (simp_all; omega))
      all_goals try (refine Or.inl ?_; conv => whnf)
    refine ⟨3, by decide, by decide, ?_⟩
    all_goals refine ⟨[], ?_⟩
    repeat (any_goals (first | exact True.intro | exact rfl | with_reducible_and_instances rfl | exact (by kernel_rfl) | refine And.intro ?_ ?_))
    all_goals conv => whnf
  conv => whnf
  have w1 := wback13
  iterate 3
    repeat (any_goals (first
      | exact True.intro
      | (refine ⟨0, rfl, Nat.lt_of_lt_of_eq (by decide) l130.symm, ?_⟩; conv => whnf)
      | (refine ⟨1, rfl, Nat.lt_of_lt_of_eq (by decide) l130.symm, ?_⟩; conv => whnf)
      | (refine ⟨2, rfl, Nat.lt_of_lt_of_eq (by decide) l130.symm, ?_⟩; conv => whnf)
      | (refine ⟨_, build_c3 _ _ _, ?_⟩; conv => whnf)
      | (refine ⟨_, drop_id, ?_⟩; conv => whnf)
      | (refine ⟨_, _, at_n, ?_⟩; conv => whnf)
      | (refine ⟨_, _, at_hi, ?_⟩; conv => whnf)
      | (refine ⟨_, _, at_lo, ?_⟩; conv => whnf)
      | (refine ⟨_, _, at_mn, ?_⟩; conv => whnf)
      | (refine ⟨_, _, at_mx, ?_⟩; conv => whnf)
      | (refine ⟨_, _, at_ce, ?_⟩; conv => whnf)
      | (refine ⟨_, _, at_po, ?_⟩; conv => whnf)
      | (refine ⟨_, whole_z sC, clenz sC, ?_⟩; conv => whnf)
      | (refine ⟨_, setzC, ?_⟩; conv => whnf)
      | (refine And.intro (clenz sC) ?_; conv => whnf)
      | (refine And.intro fitzC ?_; conv => whnf)
      | (refine ⟨_, whole_cell sC rfl, clen sC rfl, ?_⟩; conv => whnf)
      | (refine And.intro (clen sC rfl) ?_; conv => whnf)
      | (refine And.intro (fitC rfl) ?_; conv => whnf)
      | (refine ⟨_, setC rfl, ?_⟩; conv => whnf)
      | (refine ⟨_, whole_z sF, clenz sF, ?_⟩; conv => whnf)
      | (refine ⟨_, setzF, ?_⟩; conv => whnf)
      | (refine And.intro (clenz sF) ?_; conv => whnf)
      | (refine And.intro fitzF ?_; conv => whnf)
      | (refine ⟨_, whole_cell sF rfl, clen sF rfl, ?_⟩; conv => whnf)
      | (refine And.intro (clen sF rfl) ?_; conv => whnf)
      | (refine And.intro (fitF rfl) ?_; conv => whnf)
      | (refine ⟨_, setF rfl, ?_⟩; conv => whnf)
      | (refine And.intro (fit1 rfl (by decide)) ?_; conv => whnf)
      | (refine And.intro (fit1 rfl (by decide)) ?_; conv => whnf)
      | (refine ⟨_, sum_cell s25, rfl, ?_⟩; conv => whnf)
      | (refine ⟨_, set_n _, ?_⟩; conv => whnf)
      | (refine ⟨_, set_mn _, ?_⟩; conv => whnf)
      | (refine ⟨_, set_mx _, ?_⟩; conv => whnf)
      | (refine ⟨_, set_ce _, ?_⟩; conv => whnf)
      | (refine ⟨_, set_po _, ?_⟩; conv => whnf)
      | (refine ⟨_, set_s _, ?_⟩; conv => whnf)
      | (refine ⟨_, set_hi _, ?_⟩; conv => whnf)
      | (refine ⟨_, set_lo _, ?_⟩; conv => whnf)
      | (refine And.intro (fit2 rfl (by decide)) ?_; conv => whnf)
      | (refine And.intro (fun _ => ?_) tf; conv => whnf)
      | (refine And.intro ft (fun _ => ?_); conv => whnf)
      | (refine And.intro (by kernel_rfl) ?_; conv => whnf)
      | (refine And.intro (by decide) ?_; conv => whnf)
      | (refine And.intro (fun _ => ?_) (fun h => absurd h (by decide)); conv => whnf)
      | (refine And.intro (fun h => absurd h (by decide)) (fun _ => ?_); conv => whnf)
      | (refine And.intro (fun _ => ?_) (fun _ => ?_) <;> conv => whnf)
      | (refine ⟨_, _, bytes_s b13 (by decide), ?_⟩; conv => whnf)
      | (refine ⟨_, _, lendO w1 rfl rfl, ?_⟩; conv => whnf)))
    all_goals try (refine Or.inl ?_; conv => whnf)
  have l135 : (tiOf Try.prog 135).len = 2 := by kernel_rfl
  refine ⟨Nat, fun k => k ≤ 3, fun k => ([(87, iA k), (86, iA 3), (85, .own 4), (13, .ptr 5 0), (9, .own 4), (2, .ptr 0 0)], [.row (cR zC), .dead, .dead, .dead, .sl 2 (prD 3), .row (cR ⟨5, 13, -1, 9, 0, 0, hk k⟩)]), fun k => 3 - k, ⟨0, by decide, ?_⟩, ?_⟩
  · all_goals refine ⟨[], ?_⟩
    repeat (any_goals (first | exact True.intro | exact rfl | with_reducible_and_instances rfl | exact (by kernel_rfl) | refine And.intro ?_ ?_))
    all_goals conv => whnf
  intro k hk3
  have hk3 : k = 0 ∨ k = 1 ∨ k = 2 ∨ k = 3 := by have : k ≤ 3 := hk3; omega
  have hh : (hk k).length = 65 := by rcases hk3 with rfl | rfl | rfl | rfl <;> decide
  rcases hk3 with rfl | rfl | rfl | rfl
  · conv => whnf
    iterate 6
      repeat (any_goals (first
        | exact True.intro
        | (refine ⟨0, rfl, (by decide : 0 < (prD 3).length), ?_⟩; conv => whnf)
        | (refine ⟨0, rfl, Nat.lt_of_lt_of_eq (by decide) l135.symm, ?_⟩; conv => whnf)
        | (refine ⟨1, rfl, Nat.lt_of_lt_of_eq (by decide) l135.symm, ?_⟩; conv => whnf)
        | (refine ⟨0, rfl, Nat.lt_of_lt_of_eq (by decide) l27.symm, ?_⟩; conv => whnf)
        | (refine ⟨[_, _], (rfl : _ = some _), ?_⟩; conv => whnf)
        | (refine ⟨_, _, rfl, rfl, ?_⟩; conv => whnf)
        | (refine ⟨cR ⟨5, 13, -1, 9, 0, 0, hk 1⟩, by kernel_rfl, ?_⟩; conv => whnf)
        | (refine ⟨_, drop_id, ?_⟩; conv => whnf)
        | (refine ⟨_, _, at_n, ?_⟩; conv => whnf)
        | (refine ⟨_, _, at_hi, ?_⟩; conv => whnf)
        | (refine ⟨_, _, at_lo, ?_⟩; conv => whnf)
        | (refine ⟨_, _, at_mn, ?_⟩; conv => whnf)
        | (refine ⟨_, _, at_mx, ?_⟩; conv => whnf)
        | (refine ⟨_, _, at_ce, ?_⟩; conv => whnf)
        | (refine ⟨_, _, at_po, ?_⟩; conv => whnf)
        | (refine ⟨_, whole_z sC, clenz sC, ?_⟩; conv => whnf)
        | (refine ⟨_, setzC, ?_⟩; conv => whnf)
        | (refine And.intro (clenz sC) ?_; conv => whnf)
        | (refine And.intro fitzC ?_; conv => whnf)
        | (refine ⟨_, whole_cell sC hh, clen sC hh, ?_⟩; conv => whnf)
        | (refine And.intro (clen sC hh) ?_; conv => whnf)
        | (refine And.intro (fitC hh) ?_; conv => whnf)
        | (refine ⟨_, setC hh, ?_⟩; conv => whnf)
        | (refine ⟨_, whole_z sF, clenz sF, ?_⟩; conv => whnf)
        | (refine ⟨_, setzF, ?_⟩; conv => whnf)
        | (refine And.intro (clenz sF) ?_; conv => whnf)
        | (refine And.intro fitzF ?_; conv => whnf)
        | (refine ⟨_, whole_cell sF hh, clen sF hh, ?_⟩; conv => whnf)
        | (refine And.intro (clen sF hh) ?_; conv => whnf)
        | (refine And.intro (fitF hh) ?_; conv => whnf)
        | (refine ⟨_, setF hh, ?_⟩; conv => whnf)
        | (refine And.intro (fit1 hh (by decide)) ?_; conv => whnf)
        | (refine And.intro (fit1 rfl (by decide)) ?_; conv => whnf)
        | (refine ⟨_, sum_cell s25, rfl, ?_⟩; conv => whnf)
        | (refine ⟨_, set_n _, ?_⟩; conv => whnf)
        | (refine ⟨_, set_mn _, ?_⟩; conv => whnf)
        | (refine ⟨_, set_mx _, ?_⟩; conv => whnf)
        | (refine ⟨_, set_ce _, ?_⟩; conv => whnf)
        | (refine ⟨_, set_po _, ?_⟩; conv => whnf)
        | (refine ⟨_, set_s _, ?_⟩; conv => whnf)
        | (refine ⟨_, set_hi _, ?_⟩; conv => whnf)
        | (refine ⟨_, set_lo _, ?_⟩; conv => whnf)
        | (refine And.intro (fun _ => ?_) tf; conv => whnf)
        | (refine And.intro ft (fun _ => ?_); conv => whnf)
        | (refine And.intro (by kernel_rfl) ?_; conv => whnf)
        | (refine And.intro (by decide) ?_; conv => whnf)
        | (refine And.intro (fun _ => ?_) (fun h => absurd h (by decide)); conv => whnf)
        | (refine And.intro (fun h => absurd h (by decide)) (fun _ => ?_); conv => whnf)
        | (refine And.intro (fun _ => ?_) (fun _ => ?_) <;> conv => whnf)))
      all_goals try (exfalso; simp only [decide_eq_true_eq, decide_eq_false_iff_not, Bool.not_eq_true', Bool.not_eq_false', Bool.not_eq_true, Bool.not_eq_false, beq_iff_eq, bne_iff_ne, beq_eq_false_iff_ne, bne_eq_false_iff_eq, ne_eq, Decidable.not_not] at *; first | omega | contradiction | (simp_all; done) | (simp_all; omega))
      all_goals try (refine Or.inl ?_; conv => whnf)
    refine ⟨1, by decide, by decide, ?_⟩
    all_goals refine ⟨[], ?_⟩
    repeat (any_goals (first | exact True.intro | exact rfl | with_reducible_and_instances rfl | exact (by kernel_rfl) | refine And.intro ?_ ?_))
    all_goals conv => whnf
  · conv => whnf
    iterate 6
      repeat (any_goals (first
        | exact True.intro
        | (refine ⟨1, rfl, (by decide : 1 < (prD 3).length), ?_⟩; conv => whnf)
        | (refine ⟨0, show _ = ((0 : Nat) : Int) from by decide, (by decide : 0 < (prD 3).length), ?_⟩; conv => whnf)
        | (refine ⟨0, rfl, Nat.lt_of_lt_of_eq (by decide) l135.symm, ?_⟩; conv => whnf)
        | (refine ⟨1, rfl, Nat.lt_of_lt_of_eq (by decide) l135.symm, ?_⟩; conv => whnf)
        | (refine ⟨3, rfl, Nat.lt_of_lt_of_eq (by decide) l27.symm, ?_⟩; conv => whnf)
        | (refine ⟨[_, _], (rfl : _ = some _), ?_⟩; conv => whnf)
        | (refine ⟨_, _, rfl, rfl, ?_⟩; conv => whnf)
        | (refine ⟨cR ⟨5, 13, -1, 9, 0, 0, hk 2⟩, by kernel_rfl, ?_⟩; conv => whnf)
        | (refine ⟨_, drop_id, ?_⟩; conv => whnf)
        | (refine ⟨_, _, at_n, ?_⟩; conv => whnf)
        | (refine ⟨_, _, at_hi, ?_⟩; conv => whnf)
        | (refine ⟨_, _, at_lo, ?_⟩; conv => whnf)
        | (refine ⟨_, _, at_mn, ?_⟩; conv => whnf)
        | (refine ⟨_, _, at_mx, ?_⟩; conv => whnf)
        | (refine ⟨_, _, at_ce, ?_⟩; conv => whnf)
        | (refine ⟨_, _, at_po, ?_⟩; conv => whnf)
        | (refine ⟨_, whole_z sC, clenz sC, ?_⟩; conv => whnf)
        | (refine ⟨_, setzC, ?_⟩; conv => whnf)
        | (refine And.intro (clenz sC) ?_; conv => whnf)
        | (refine And.intro fitzC ?_; conv => whnf)
        | (refine ⟨_, whole_cell sC hh, clen sC hh, ?_⟩; conv => whnf)
        | (refine And.intro (clen sC hh) ?_; conv => whnf)
        | (refine And.intro (fitC hh) ?_; conv => whnf)
        | (refine ⟨_, setC hh, ?_⟩; conv => whnf)
        | (refine ⟨_, whole_z sF, clenz sF, ?_⟩; conv => whnf)
        | (refine ⟨_, setzF, ?_⟩; conv => whnf)
        | (refine And.intro (clenz sF) ?_; conv => whnf)
        | (refine And.intro fitzF ?_; conv => whnf)
        | (refine ⟨_, whole_cell sF hh, clen sF hh, ?_⟩; conv => whnf)
        | (refine And.intro (clen sF hh) ?_; conv => whnf)
        | (refine And.intro (fitF hh) ?_; conv => whnf)
        | (refine ⟨_, setF hh, ?_⟩; conv => whnf)
        | (refine And.intro (fit1 hh (by decide)) ?_; conv => whnf)
        | (refine And.intro (fit1 rfl (by decide)) ?_; conv => whnf)
        | (refine ⟨_, sum_cell s25, rfl, ?_⟩; conv => whnf)
        | (refine ⟨_, set_n _, ?_⟩; conv => whnf)
        | (refine ⟨_, set_mn _, ?_⟩; conv => whnf)
        | (refine ⟨_, set_mx _, ?_⟩; conv => whnf)
        | (refine ⟨_, set_ce _, ?_⟩; conv => whnf)
        | (refine ⟨_, set_po _, ?_⟩; conv => whnf)
        | (refine ⟨_, set_s _, ?_⟩; conv => whnf)
        | (refine ⟨_, set_hi _, ?_⟩; conv => whnf)
        | (refine ⟨_, set_lo _, ?_⟩; conv => whnf)
        | (refine And.intro (fun _ => ?_) tf; conv => whnf)
        | (refine And.intro ft (fun _ => ?_); conv => whnf)
        | (refine And.intro (by kernel_rfl) ?_; conv => whnf)
        | (refine And.intro (by decide) ?_; conv => whnf)
        | (refine And.intro (fun _ => ?_) (fun h => absurd h (by decide)); conv => whnf)
        | (refine And.intro (fun h => absurd h (by decide)) (fun _ => ?_); conv => whnf)
        | (refine And.intro (fun _ => ?_) (fun _ => ?_) <;> conv => whnf)))
      all_goals try (exfalso; simp only [decide_eq_true_eq, decide_eq_false_iff_not, Bool.not_eq_true', Bool.not_eq_false', Bool.not_eq_true, Bool.not_eq_false, beq_iff_eq, bne_iff_ne, beq_eq_false_iff_ne, bne_eq_false_iff_eq, ne_eq, Decidable.not_not] at *; first | omega | contradiction | (simp_all; done) | (simp_all; omega))
      all_goals try (refine Or.inl ?_; conv => whnf)
    refine ⟨2, by decide, by decide, ?_⟩
    all_goals refine ⟨[], ?_⟩
    repeat (any_goals (first | exact True.intro | exact rfl | with_reducible_and_instances rfl | exact (by kernel_rfl) | refine And.intro ?_ ?_))
    all_goals conv => whnf
  · conv => whnf
    iterate 6
      repeat (any_goals (first
        | exact True.intro
        | (refine ⟨2, rfl, (by decide : 2 < (prD 3).length), ?_⟩; conv => whnf)
        | (refine ⟨1, show _ = ((1 : Nat) : Int) from by decide, (by decide : 1 < (prD 3).length), ?_⟩; conv => whnf)
        | (refine ⟨0, rfl, Nat.lt_of_lt_of_eq (by decide) l135.symm, ?_⟩; conv => whnf)
        | (refine ⟨1, rfl, Nat.lt_of_lt_of_eq (by decide) l135.symm, ?_⟩; conv => whnf)
        | (refine ⟨5, rfl, Nat.lt_of_lt_of_eq (by decide) l27.symm, ?_⟩; conv => whnf)
        | (refine ⟨[_, _], (rfl : _ = some _), ?_⟩; conv => whnf)
        | (refine ⟨_, _, rfl, rfl, ?_⟩; conv => whnf)
        | (refine ⟨cR ⟨5, 13, -1, 9, 0, 0, hk 3⟩, by kernel_rfl, ?_⟩; conv => whnf)
        | (refine ⟨_, drop_id, ?_⟩; conv => whnf)
        | (refine ⟨_, _, at_n, ?_⟩; conv => whnf)
        | (refine ⟨_, _, at_hi, ?_⟩; conv => whnf)
        | (refine ⟨_, _, at_lo, ?_⟩; conv => whnf)
        | (refine ⟨_, _, at_mn, ?_⟩; conv => whnf)
        | (refine ⟨_, _, at_mx, ?_⟩; conv => whnf)
        | (refine ⟨_, _, at_ce, ?_⟩; conv => whnf)
        | (refine ⟨_, _, at_po, ?_⟩; conv => whnf)
        | (refine ⟨_, whole_z sC, clenz sC, ?_⟩; conv => whnf)
        | (refine ⟨_, setzC, ?_⟩; conv => whnf)
        | (refine And.intro (clenz sC) ?_; conv => whnf)
        | (refine And.intro fitzC ?_; conv => whnf)
        | (refine ⟨_, whole_cell sC hh, clen sC hh, ?_⟩; conv => whnf)
        | (refine And.intro (clen sC hh) ?_; conv => whnf)
        | (refine And.intro (fitC hh) ?_; conv => whnf)
        | (refine ⟨_, setC hh, ?_⟩; conv => whnf)
        | (refine ⟨_, whole_z sF, clenz sF, ?_⟩; conv => whnf)
        | (refine ⟨_, setzF, ?_⟩; conv => whnf)
        | (refine And.intro (clenz sF) ?_; conv => whnf)
        | (refine And.intro fitzF ?_; conv => whnf)
        | (refine ⟨_, whole_cell sF hh, clen sF hh, ?_⟩; conv => whnf)
        | (refine And.intro (clen sF hh) ?_; conv => whnf)
        | (refine And.intro (fitF hh) ?_; conv => whnf)
        | (refine ⟨_, setF hh, ?_⟩; conv => whnf)
        | (refine And.intro (fit1 hh (by decide)) ?_; conv => whnf)
        | (refine And.intro (fit1 rfl (by decide)) ?_; conv => whnf)
        | (refine ⟨_, sum_cell s25, rfl, ?_⟩; conv => whnf)
        | (refine ⟨_, set_n _, ?_⟩; conv => whnf)
        | (refine ⟨_, set_mn _, ?_⟩; conv => whnf)
        | (refine ⟨_, set_mx _, ?_⟩; conv => whnf)
        | (refine ⟨_, set_ce _, ?_⟩; conv => whnf)
        | (refine ⟨_, set_po _, ?_⟩; conv => whnf)
        | (refine ⟨_, set_s _, ?_⟩; conv => whnf)
        | (refine ⟨_, set_hi _, ?_⟩; conv => whnf)
        | (refine ⟨_, set_lo _, ?_⟩; conv => whnf)
        | (refine And.intro (fun _ => ?_) tf; conv => whnf)
        | (refine And.intro ft (fun _ => ?_); conv => whnf)
        | (refine And.intro (by kernel_rfl) ?_; conv => whnf)
        | (refine And.intro (by decide) ?_; conv => whnf)
        | (refine And.intro (fun _ => ?_) (fun h => absurd h (by decide)); conv => whnf)
        | (refine And.intro (fun h => absurd h (by decide)) (fun _ => ?_); conv => whnf)
        | (refine And.intro (fun _ => ?_) (fun _ => ?_) <;> conv => whnf)))
      all_goals try (exfalso; simp only [decide_eq_true_eq, decide_eq_false_iff_not, Bool.not_eq_true', Bool.not_eq_false', Bool.not_eq_true, Bool.not_eq_false, beq_iff_eq, bne_iff_ne, beq_eq_false_iff_ne, bne_eq_false_iff_eq, ne_eq, Decidable.not_not] at *; first | omega | contradiction | (simp_all; done) | (simp_all; omega))
      all_goals try (refine Or.inl ?_; conv => whnf)
    refine ⟨3, by decide, by decide, ?_⟩
    all_goals refine ⟨[], ?_⟩
    repeat (any_goals (first | exact True.intro | exact rfl | with_reducible_and_instances rfl | exact (by kernel_rfl) | refine And.intro ?_ ?_))
    all_goals conv => whnf
  conv => whnf
  have r2 : Sat Try.prog 13 [.d (cD ⟨5, 13, -1, 9, 0, 0, hk 3⟩)] [] (bA true) [] := r1
  iterate 5
    repeat (any_goals (first
      | exact True.intro
      | (refine ⟨_, drop_id, ?_⟩; conv => whnf)
      | (refine ⟨_, _, at_n, ?_⟩; conv => whnf)
      | (refine ⟨_, _, at_hi, ?_⟩; conv => whnf)
      | (refine ⟨_, _, at_lo, ?_⟩; conv => whnf)
      | (refine ⟨_, _, at_mn, ?_⟩; conv => whnf)
      | (refine ⟨_, _, at_mx, ?_⟩; conv => whnf)
      | (refine ⟨_, _, at_ce, ?_⟩; conv => whnf)
      | (refine ⟨_, _, at_po, ?_⟩; conv => whnf)
      | (refine ⟨_, whole_z sC, clenz sC, ?_⟩; conv => whnf)
      | (refine ⟨_, setzC, ?_⟩; conv => whnf)
      | (refine And.intro (clenz sC) ?_; conv => whnf)
      | (refine And.intro fitzC ?_; conv => whnf)
      | (refine ⟨_, whole_cell sC hh, clen sC hh, ?_⟩; conv => whnf)
      | (refine And.intro (clen sC hh) ?_; conv => whnf)
      | (refine And.intro (fitC hh) ?_; conv => whnf)
      | (refine ⟨_, setC hh, ?_⟩; conv => whnf)
      | (refine ⟨_, whole_z sF, clenz sF, ?_⟩; conv => whnf)
      | (refine ⟨_, setzF, ?_⟩; conv => whnf)
      | (refine And.intro (clenz sF) ?_; conv => whnf)
      | (refine And.intro fitzF ?_; conv => whnf)
      | (refine ⟨_, whole_cell sF hh, clen sF hh, ?_⟩; conv => whnf)
      | (refine And.intro (clen sF hh) ?_; conv => whnf)
      | (refine And.intro (fitF hh) ?_; conv => whnf)
      | (refine ⟨_, setF hh, ?_⟩; conv => whnf)
      | (refine And.intro (fit1 hh (by decide)) ?_; conv => whnf)
      | (refine And.intro (fit1 rfl (by decide)) ?_; conv => whnf)
      | (refine ⟨_, sum_cell s25, rfl, ?_⟩; conv => whnf)
      | (refine ⟨_, set_n _, ?_⟩; conv => whnf)
      | (refine ⟨_, set_mn _, ?_⟩; conv => whnf)
      | (refine ⟨_, set_mx _, ?_⟩; conv => whnf)
      | (refine ⟨_, set_ce _, ?_⟩; conv => whnf)
      | (refine ⟨_, set_po _, ?_⟩; conv => whnf)
      | (refine ⟨_, set_s _, ?_⟩; conv => whnf)
      | (refine ⟨_, set_hi _, ?_⟩; conv => whnf)
      | (refine ⟨_, set_lo _, ?_⟩; conv => whnf)
      | (refine And.intro (fun _ => ?_) tf; conv => whnf)
      | (refine And.intro ft (fun _ => ?_); conv => whnf)
      | (refine And.intro (by kernel_rfl) ?_; conv => whnf)
      | (refine And.intro (by decide) ?_; conv => whnf)
      | (refine And.intro (fun _ => ?_) (fun h => absurd h (by decide)); conv => whnf)
      | (refine And.intro (fun h => absurd h (by decide)) (fun _ => ?_); conv => whnf)
      | (refine And.intro (fun _ => ?_) (fun _ => ?_) <;> conv => whnf)
      | (refine ⟨_, _, r2.pu rfl rfl, ?_⟩; conv => whnf)))
    all_goals try (exfalso; simp only [decide_eq_true_eq, decide_eq_false_iff_not, Bool.not_eq_true', Bool.not_eq_false', Bool.not_eq_true, Bool.not_eq_false, beq_iff_eq, bne_iff_ne, beq_eq_false_iff_ne, bne_eq_false_iff_eq, ne_eq, Decidable.not_not] at *; first | omega | contradiction | (simp_all; done) | (simp_all; omega))
    all_goals try (refine Or.inl ?_; conv => whnf)
  all_goals refine ⟨[], ?_⟩
  repeat (any_goals (first | exact True.intro | exact rfl | with_reducible_and_instances rfl | exact (by kernel_rfl) | refine And.intro ?_ ?_))
  all_goals conv => whnf
end Go.Proofs.Ytbjmdnemeidpjaa
/- alive of the law 21. -/
namespace Go.Proofs.Ytbjmdnemeidpjaa
set_option linter.unusedSimpArgs false
set_option linter.unusedVariables false
open Go.RowKit
set_option maxRecDepth 100000
def hc2 : List Int := [1, 0, 0, 1] ++ List.replicate 61 0
def hd3 : List Int := [1, 0, 0, 1, 0, 1] ++ List.replicate 59 0
def c2 : Cel := ⟨2, 2, -1, 3, 0, 0, hc2⟩
def c2n : Cel := ⟨2, 2, -1, 3, 1, 0, hc2⟩
def c3 : Cel := ⟨3, 11, -1, 9, 0, 0, hd3⟩
def c1 : Cel := ⟨1, 0, 0, 0, 0, 0, z65⟩
theorem c2_fold : foldC [3, -1] = c2 := by decide +kernel
theorem c2_ok : CelOK c2 := by rw [← c2_fold]; exact foldC_ok (by decide) (by decide)
theorem c2_right : rightC c2 = true := by decide +kernel
theorem c3_add : addC c2 9 = (c3, 0) := by decide +kernel
theorem c3_ok : CelOK c3 := ⟨by decide, by decide, by decide, by decide, by decide, by decide, by decide, by decide⟩
theorem c1_ok : CelOK c1 := ⟨by decide, by decide, by decide, by decide, by decide, by decide, by decide, by decide⟩
theorem c2_note : noteC c2 true = (c2n, 0) := by decide +kernel
theorem cM_merge : mergeC [c2, c3] = (cM, 0) := by decide +kernel
theorem c1_merge : mergeC [c1] = (zC, 10) := by decide +kernel
set_option maxHeartbeats 16000000 in
theorem alive21 : Sat Try.prog 8 [] [] (bA true) [] := by
  have f1 := fold_sat_c [3, -1] (by decide) (by decide)
  rw [c2_fold] at f1
  have a1 := add_sat_c c2 9 c2_ok (by decide)
  rw [c3_add] at a1
  have r1 := right_sat_c c2 c2_ok
  rw [c2_right] at r1
  have n1 := note_sat c2 true c2_ok (by rw [c2_right]; exact r1)
  rw [c2_note] at n1
  have m1 := merge_sat_c [c2, c3] (by intro c hc; simp at hc; rcases hc with rfl | rfl; exact c2_ok; exact c3_ok) (by decide)
  rw [cM_merge] at m1
  have m2 := merge_sat_c [c1] (by intro c hc; simp at hc; subst hc; exact c1_ok) (by decide)
  rw [c1_merge] at m2
  have t1 := total_sat c2.h c2_ok.hl c2_ok.hx
  have w1 := wof_sat 2 (by decide)
  have w2 := wof_sat 13 (by decide)
  have hl2 : c2.h.length = 65 := c2_ok.hl
  have hl2n : c2n.h.length = 65 := c2_ok.hl
  have hl3 : c3.h.length = 65 := c3_ok.hl
  have hl1 : c1.h.length = 65 := c1_ok.hl
  have hlM : cM.h.length = 65 := hMM_len
  refine sat_of_vc (T := tiOf Try.prog) (E := E0) Try.func8 rfl rfl hE0 hm0 rfl ?_
  conv => whnf
  iterate 3
    repeat (any_goals (first
      | exact True.intro
      | (refine ⟨0, rfl, Nat.lt_of_lt_of_eq (by decide) l27.symm, ?_⟩; conv => whnf)
      | (refine ⟨_, hist_cell s69 hl2, whole_len s69 hl2, ?_⟩; conv => whnf)
      | (refine ⟨_, _, at_h hl2 (by decide : 0 < 65), ?_⟩; conv => whnf)
      | (refine ⟨_, drop_id, ?_⟩; conv => whnf)
      | (refine ⟨_, _, at_n, ?_⟩; conv => whnf)
      | (refine ⟨_, _, at_hi, ?_⟩; conv => whnf)
      | (refine ⟨_, _, at_lo, ?_⟩; conv => whnf)
      | (refine ⟨_, _, at_mn, ?_⟩; conv => whnf)
      | (refine ⟨_, _, at_mx, ?_⟩; conv => whnf)
      | (refine ⟨_, _, at_ce, ?_⟩; conv => whnf)
      | (refine ⟨_, _, at_po, ?_⟩; conv => whnf)
      | (refine ⟨_, whole_z sC, clenz sC, ?_⟩; conv => whnf)
      | (refine ⟨_, setzC, ?_⟩; conv => whnf)
      | (refine And.intro (clenz sC) ?_; conv => whnf)
      | (refine And.intro fitzC ?_; conv => whnf)
      | (refine ⟨_, whole_cell sC hl2, clen sC hl2, ?_⟩; conv => whnf)
      | (refine And.intro (clen sC hl2) ?_; conv => whnf)
      | (refine And.intro (fitC hl2) ?_; conv => whnf)
      | (refine ⟨_, setC hl2, ?_⟩; conv => whnf)
      | (refine ⟨_, whole_cell sC hl2n, clen sC hl2n, ?_⟩; conv => whnf)
      | (refine And.intro (clen sC hl2n) ?_; conv => whnf)
      | (refine And.intro (fitC hl2n) ?_; conv => whnf)
      | (refine ⟨_, setC hl2n, ?_⟩; conv => whnf)
      | (refine ⟨_, whole_cell sC hl3, clen sC hl3, ?_⟩; conv => whnf)
      | (refine And.intro (clen sC hl3) ?_; conv => whnf)
      | (refine And.intro (fitC hl3) ?_; conv => whnf)
      | (refine ⟨_, setC hl3, ?_⟩; conv => whnf)
      | (refine ⟨_, whole_cell sC hl1, clen sC hl1, ?_⟩; conv => whnf)
      | (refine And.intro (clen sC hl1) ?_; conv => whnf)
      | (refine And.intro (fitC hl1) ?_; conv => whnf)
      | (refine ⟨_, setC hl1, ?_⟩; conv => whnf)
      | (refine ⟨_, whole_cell sC hlM, clen sC hlM, ?_⟩; conv => whnf)
      | (refine And.intro (clen sC hlM) ?_; conv => whnf)
      | (refine And.intro (fitC hlM) ?_; conv => whnf)
      | (refine ⟨_, setC hlM, ?_⟩; conv => whnf)
      | (refine ⟨_, whole_z sF, clenz sF, ?_⟩; conv => whnf)
      | (refine ⟨_, setzF, ?_⟩; conv => whnf)
      | (refine And.intro (clenz sF) ?_; conv => whnf)
      | (refine And.intro fitzF ?_; conv => whnf)
      | (refine ⟨_, whole_cell sF hl2, clen sF hl2, ?_⟩; conv => whnf)
      | (refine And.intro (clen sF hl2) ?_; conv => whnf)
      | (refine And.intro (fitF hl2) ?_; conv => whnf)
      | (refine ⟨_, setF hl2, ?_⟩; conv => whnf)
      | (refine ⟨_, whole_cell sF hl2n, clen sF hl2n, ?_⟩; conv => whnf)
      | (refine And.intro (clen sF hl2n) ?_; conv => whnf)
      | (refine And.intro (fitF hl2n) ?_; conv => whnf)
      | (refine ⟨_, setF hl2n, ?_⟩; conv => whnf)
      | (refine ⟨_, whole_cell sF hl3, clen sF hl3, ?_⟩; conv => whnf)
      | (refine And.intro (clen sF hl3) ?_; conv => whnf)
      | (refine And.intro (fitF hl3) ?_; conv => whnf)
      | (refine ⟨_, setF hl3, ?_⟩; conv => whnf)
      | (refine ⟨_, whole_cell sF hl1, clen sF hl1, ?_⟩; conv => whnf)
      | (refine And.intro (clen sF hl1) ?_; conv => whnf)
      | (refine And.intro (fitF hl1) ?_; conv => whnf)
      | (refine ⟨_, setF hl1, ?_⟩; conv => whnf)
      | (refine ⟨_, whole_cell sF hlM, clen sF hlM, ?_⟩; conv => whnf)
      | (refine And.intro (clen sF hlM) ?_; conv => whnf)
      | (refine And.intro (fitF hlM) ?_; conv => whnf)
      | (refine ⟨_, setF hlM, ?_⟩; conv => whnf)
      | (refine And.intro (fit1 hl2 (by decide)) ?_; conv => whnf)
      | (refine And.intro (fit1 hl2n (by decide)) ?_; conv => whnf)
      | (refine And.intro (fit1 hl3 (by decide)) ?_; conv => whnf)
      | (refine And.intro (fit1 hl1 (by decide)) ?_; conv => whnf)
      | (refine And.intro (fit1 hlM (by decide)) ?_; conv => whnf)
      | (refine And.intro (fit1 rfl (by decide)) ?_; conv => whnf)
      | (refine ⟨_, sum_cell s25, rfl, ?_⟩; conv => whnf)
      | (refine ⟨_, set_n _, ?_⟩; conv => whnf)
      | (refine ⟨_, set_mn _, ?_⟩; conv => whnf)
      | (refine ⟨_, set_mx _, ?_⟩; conv => whnf)
      | (refine ⟨_, set_ce _, ?_⟩; conv => whnf)
      | (refine ⟨_, set_po _, ?_⟩; conv => whnf)
      | (refine ⟨_, set_s _, ?_⟩; conv => whnf)
      | (refine ⟨_, set_hi _, ?_⟩; conv => whnf)
      | (refine ⟨_, set_lo _, ?_⟩; conv => whnf)
      | (refine And.intro (fun _ => ?_) tf; conv => whnf)
      | (refine And.intro ft (fun _ => ?_); conv => whnf)
      | (refine And.intro (by kernel_rfl) ?_; conv => whnf)
      | (refine And.intro (by decide) ?_; conv => whnf)
      | (refine And.intro (fun _ => ?_) (fun h => absurd h (by decide)); conv => whnf)
      | (refine And.intro (fun h => absurd h (by decide)) (fun _ => ?_); conv => whnf)
      | (refine And.intro (fun _ => ?_) (fun _ => ?_) <;> conv => whnf)
      | (refine ⟨_, _, lendO f1 rfl rfl, ?_⟩; conv => whnf)
      | (refine ⟨_, _, a1.pu rfl rfl, ?_⟩; conv => whnf)
      | (refine ⟨_, _, n1.pu rfl rfl, ?_⟩; conv => whnf)
      | (refine ⟨_, _, lendO m1 rfl rfl, ?_⟩; conv => whnf)
      | (refine ⟨_, _, lendO m2 rfl rfl, ?_⟩; conv => whnf)
      | (refine ⟨_, _, bytesM.pu rfl rfl, ?_⟩; conv => whnf)
      | (refine ⟨_, _, backM.pu rfl rfl, ?_⟩; conv => whnf)
      | (refine ⟨_, _, r1.pu rfl rfl, ?_⟩; conv => whnf)
      | (refine ⟨_, _, w1.pu rfl rfl, ?_⟩; conv => whnf)
      | (refine ⟨_, _, w2.pu rfl rfl, ?_⟩; conv => whnf)
      | (refine ⟨_, _, t1.pu rfl rfl, ?_⟩; conv => whnf)
      | (refine ⟨_, _, eqS (by kernel_rfl), ?_⟩; conv => whnf)
      | (refine ⟨_, _, eqCC cM_ok cM_ok, ?_⟩; conv => whnf)))
    all_goals try (refine Or.inl ?_; conv => whnf)
  all_goals refine ⟨[], ?_⟩
  repeat (any_goals (first | exact True.intro | exact rfl | with_reducible_and_instances rfl | exact (by kernel_rfl) | refine And.intro ?_ ?_))
  all_goals conv => whnf
end Go.Proofs.Ytbjmdnemeidpjaa
/- CellParts: the cell of values is that of their parts, merged. -/
namespace Go.Proofs.Ytbjmdnemeidpjaa
set_option linter.unusedSimpArgs false
set_option linter.unusedVariables false
open Go.RowKit
set_option maxRecDepth 100000
theorem flat_cD (c : Cel) : flatD (cD c) = true := by
  show flatD (.agg (iD c.n :: iD (hiZ c.s) :: uZ (loZ c.s) :: iD c.mn :: iD c.mx :: iD c.ce :: iD c.po :: hR c.h)) = true
  simp only [flatD, flatDs, flat_hR, Bool.and_true]
theorem flat_cA (c : Cel) : flatA (.d (cD c)) = true := by rw [flatA]; exact flat_cD c
theorem flat_cE (c : Cel) (e : Int) : flatA (.tup [.d (cD c), iA e]) = true := by
  rw [flatA, flatAs, flatAs, flatAs, flat_cA]; rfl
theorem mmin_app {a b : List Int} (ha : a ≠ []) (hb : b ≠ []) : mmin (a ++ b) = min (mmin a) (mmin b) := by
  have hab : a ++ b ≠ [] := fun h => ha (List.append_eq_nil_iff.1 h).1
  obtain ⟨h1, h2⟩ := mmin_mem _ hab
  obtain ⟨h3, h4⟩ := mmin_mem a ha
  obtain ⟨h5, h6⟩ := mmin_mem b hb
  have k1 := h2 _ (List.mem_append_left b h3)
  have k2 := h2 _ (List.mem_append_right a h5)
  rcases List.mem_append.1 h1 with q | q
  · have := h4 _ q; omega
  · have := h6 _ q; omega
theorem mmax_app {a b : List Int} (ha : a ≠ []) (hb : b ≠ []) : mmax (a ++ b) = max (mmax a) (mmax b) := by
  have hab : a ++ b ≠ [] := fun h => ha (List.append_eq_nil_iff.1 h).1
  obtain ⟨h1, h2⟩ := mmax_mem _ hab
  obtain ⟨h3, h4⟩ := mmax_mem a ha
  obtain ⟨h5, h6⟩ := mmax_mem b hb
  have k1 := h2 _ (List.mem_append_left b h3)
  have k2 := h2 _ (List.mem_append_right a h5)
  rcases List.mem_append.1 h1 with q | q
  · have := h4 _ q; omega
  · have := h6 _ q; omega
theorem full_two (c d : Cel) : full [c, d] = (if c.n = 0 then [] else [c]) ++ (if d.n = 0 then [] else [d]) := by
  unfold full
  by_cases h : c.n = 0 <;> by_cases h' : d.n = 0 <;> simp [h, h']
theorem foldC_n {l : List Int} : (foldC l).n = 0 ↔ l = [] := by
  show (l.length : Int) = 0 ↔ _
  rw [← List.length_eq_zero_iff]; omega
theorem merge_folds {a b : List Int} (h : ∀ z ∈ a ++ b, in64 z) (hn : (a ++ b).length ≤ 60000) : mergeC [foldC a, foldC b] = (foldC (a ++ b), 0) := by
  have ha : ∀ z ∈ a, in64 z := fun z hz => h z (List.mem_append_left b hz)
  have hb : ∀ z ∈ b, in64 z := fun z hz => h z (List.mem_append_right a hz)
  have hlen : a.length + b.length ≤ 60000 := by rw [← List.length_append]; exact hn
  have r1 := right_iff.2 (foldC_right ha)
  have r2 := right_iff.2 (foldC_right hb)
  have hs : (a ++ b).sum = a.sum + b.sum := List.sum_append ..
  have hf : fitsC [foldC a, foldC b] = true := by
    rw [fits_iff]
    simp only [Bool.and_eq_true, decide_eq_true_eq]
    refine ⟨⟨⟨?_, ?_⟩, ?_⟩, ?_⟩
    · show (a.length : Int) + ((b.length : Int) + 0) ≤ _; omega
    · show (0 : Int) + (0 + 0) ≤ _; omega
    · show (0 : Int) + (0 + 0) ≤ _; omega
    · have e : sumS [foldC a, foldC b] = (a ++ b).sum := by rw [hs]; show a.sum + (b.sum + 0) = _; omega
      rw [e]
      exact sum_in128 h (by omega)
  unfold mergeC
  rw [if_neg (by simp [r1, r2]), if_neg (by rw [hf]; simp)]
  obtain ⟨m1, m2⟩ := merge_hists a b (by omega)
  have m3 : mergeL [histL a, histL b] = histL (a ++ b) := by unfold mergeR at m2; rw [if_pos m1] at m2; exact m2
  refine congrArg (·, (0 : Int)) (Cel.ext' ?_ ?_ ?_ ?_ rfl rfl m3)
  · show (a.length : Int) + ((b.length : Int) + 0) = ((a ++ b).length : Int); rw [List.length_append]; omega
  · show a.sum + (b.sum + 0) = (a ++ b).sum; omega
  · show mmin ((full [foldC a, foldC b]).map (·.mn)) = mmin (a ++ b)
    rw [full_two]
    by_cases e1 : a = [] <;> by_cases e2 : b = []
    · subst e1 e2; rfl
    · subst e1
      rw [if_pos (foldC_n.2 rfl), if_neg (fun q => e2 (foldC_n.1 q))]; rfl
    · subst e2
      rw [if_neg (fun q => e1 (foldC_n.1 q)), if_pos (foldC_n.2 rfl), List.append_nil, List.append_nil]; rfl
    · rw [if_neg (fun q => e1 (foldC_n.1 q)), if_neg (fun q => e2 (foldC_n.1 q)), mmin_app e1 e2]; rfl
  · show mmax ((full [foldC a, foldC b]).map (·.mx)) = mmax (a ++ b)
    rw [full_two]
    by_cases e1 : a = [] <;> by_cases e2 : b = []
    · subst e1 e2; rfl
    · subst e1
      rw [if_pos (foldC_n.2 rfl), if_neg (fun q => e2 (foldC_n.1 q))]; rfl
    · subst e2
      rw [if_neg (fun q => e1 (foldC_n.1 q)), if_pos (foldC_n.2 rfl), List.append_nil, List.append_nil]; rfl
    · rw [if_neg (fun q => e1 (foldC_n.1 q)), if_neg (fun q => e2 (foldC_n.1 q)), mmax_app e1 e2]; rfl
set_option maxHeartbeats 16000000 in
theorem parts_sat_c (l : List Int) (cut : Int) (hl : ∀ z ∈ l, in64 z) (hcut : in64 cut) : Sat Try.prog 5 [.d (lD l), iA cut] [] (bA true) [] := by
  have hm : (l.map lR).length = l.length := List.length_map _
  by_cases hg : l.length ≤ 200 ∧ 0 ≤ cut ∧ cut ≤ l.length
  case neg =>
    refine sat_of_vc (T := tiOf Try.prog) (E := E0) Try.func5 rfl rfl hE0 hm0 rfl ?_
    conv => whnf
    iterate 5
      repeat (any_goals (first
        | exact True.intro
        | (refine And.intro (fun _ => ?_) tf; conv => whnf)
        | (refine And.intro ft (fun _ => ?_); conv => whnf)
        | (refine And.intro (by kernel_rfl) ?_; conv => whnf)
        | (refine And.intro (by decide) ?_; conv => whnf)
        | (refine And.intro (fun _ => ?_) (fun h => absurd h (by decide)); conv => whnf)
        | (refine And.intro (fun h => absurd h (by decide)) (fun _ => ?_); conv => whnf)
        | (refine And.intro (fun _ => ?_) (fun _ => ?_) <;> conv => whnf)
        | (refine ⟨_, _, alive21.pu rfl rfl, ?_⟩; conv => whnf)))
      all_goals try (exfalso; simp only [decide_eq_true_eq, decide_eq_false_iff_not, Bool.not_eq_true', Bool.not_eq_false', Bool.not_eq_true, Bool.not_eq_false, beq_iff_eq, bne_iff_ne, beq_eq_false_iff_ne, bne_eq_false_iff_eq, ne_eq, Decidable.not_not] at *; first | omega | contradiction | (simp_all; done) | (simp_all; omega))
      all_goals try (refine Or.inl ?_; conv => whnf)
    all_goals refine ⟨[], ?_⟩
    repeat (any_goals (first | exact True.intro | exact rfl | with_reducible_and_instances rfl | exact (by kernel_rfl) | refine And.intro ?_ ?_))
    all_goals conv => whnf
  obtain ⟨k, rfl⟩ := Int.eq_ofNat_of_zero_le hg.2.1
  have hkl : k ≤ l.length := by omega
  have ht : ∀ z ∈ l.take k, in64 z := fun z hz => hl z (List.mem_of_mem_take hz)
  have hd : ∀ z ∈ l.drop k, in64 z := fun z hz => hl z (List.mem_of_mem_drop hz)
  have f1 := fold_sat_c (l.take k) ht (by rw [List.length_take]; omega)
  have f2 := fold_sat_c (l.drop k) hd (by rw [List.length_drop]; omega)
  have f3 := fold_sat_c l hl (by omega)
  rw [show lD (l.take k) = .sl 1 ((l.map lR).take k) from congrArg (D.sl 1) List.map_take] at f1
  rw [show lD (l.drop k) = .sl 1 ((l.map lR).drop k) from congrArg (D.sl 1) List.map_drop] at f2
  have o1 := foldC_ok ht (by rw [List.length_take]; omega)
  have o2 := foldC_ok hd (by rw [List.length_drop]; omega)
  have o3 := foldC_ok hl (by omega)
  have m1 := merge_sat_c [foldC (l.take k), foldC (l.drop k)] (by intro c hc; simp at hc; rcases hc with rfl | rfl; exact o1; exact o2) (by simp)
  rw [merge_folds (by rw [List.take_append_drop]; exact hl) (by rw [List.take_append_drop]; omega), List.take_append_drop] at m1
  have r1 := right_sat_c (foldC l) o3
  rw [right_iff.2 (foldC_right hl)] at r1
  have l1 := o1.hl
  have l2 := o2.hl
  have l3 := o3.hl
  refine sat_of_vc (T := tiOf Try.prog) (E := E0) Try.func5 rfl rfl hE0 hm0 rfl ?_
  conv => whnf
  iterate 5
    repeat (any_goals (first
      | exact True.intro
      | (refine ⟨_, drop_id, ?_⟩; conv => whnf)
      | (refine ⟨_, _, at_n, ?_⟩; conv => whnf)
      | (refine ⟨_, _, at_hi, ?_⟩; conv => whnf)
      | (refine ⟨_, _, at_lo, ?_⟩; conv => whnf)
      | (refine ⟨_, _, at_mn, ?_⟩; conv => whnf)
      | (refine ⟨_, _, at_mx, ?_⟩; conv => whnf)
      | (refine ⟨_, _, at_ce, ?_⟩; conv => whnf)
      | (refine ⟨_, _, at_po, ?_⟩; conv => whnf)
      | (refine ⟨_, whole_z sC, clenz sC, ?_⟩; conv => whnf)
      | (refine ⟨_, setzC, ?_⟩; conv => whnf)
      | (refine And.intro (clenz sC) ?_; conv => whnf)
      | (refine And.intro fitzC ?_; conv => whnf)
      | (refine ⟨_, whole_cell sC l1, clen sC l1, ?_⟩; conv => whnf)
      | (refine And.intro (clen sC l1) ?_; conv => whnf)
      | (refine And.intro (fitC l1) ?_; conv => whnf)
      | (refine ⟨_, setC l1, ?_⟩; conv => whnf)
      | (refine ⟨_, whole_cell sC l2, clen sC l2, ?_⟩; conv => whnf)
      | (refine And.intro (clen sC l2) ?_; conv => whnf)
      | (refine And.intro (fitC l2) ?_; conv => whnf)
      | (refine ⟨_, setC l2, ?_⟩; conv => whnf)
      | (refine ⟨_, whole_cell sC l3, clen sC l3, ?_⟩; conv => whnf)
      | (refine And.intro (clen sC l3) ?_; conv => whnf)
      | (refine And.intro (fitC l3) ?_; conv => whnf)
      | (refine ⟨_, setC l3, ?_⟩; conv => whnf)
      | (refine ⟨_, whole_z sF, clenz sF, ?_⟩; conv => whnf)
      | (refine ⟨_, setzF, ?_⟩; conv => whnf)
      | (refine And.intro (clenz sF) ?_; conv => whnf)
      | (refine And.intro fitzF ?_; conv => whnf)
      | (refine ⟨_, whole_cell sF l1, clen sF l1, ?_⟩; conv => whnf)
      | (refine And.intro (clen sF l1) ?_; conv => whnf)
      | (refine And.intro (fitF l1) ?_; conv => whnf)
      | (refine ⟨_, setF l1, ?_⟩; conv => whnf)
      | (refine ⟨_, whole_cell sF l2, clen sF l2, ?_⟩; conv => whnf)
      | (refine And.intro (clen sF l2) ?_; conv => whnf)
      | (refine And.intro (fitF l2) ?_; conv => whnf)
      | (refine ⟨_, setF l2, ?_⟩; conv => whnf)
      | (refine ⟨_, whole_cell sF l3, clen sF l3, ?_⟩; conv => whnf)
      | (refine And.intro (clen sF l3) ?_; conv => whnf)
      | (refine And.intro (fitF l3) ?_; conv => whnf)
      | (refine ⟨_, setF l3, ?_⟩; conv => whnf)
      | (refine And.intro (fit1 l1 (by decide)) ?_; conv => whnf)
      | (refine And.intro (fit1 l2 (by decide)) ?_; conv => whnf)
      | (refine And.intro (fit1 l3 (by decide)) ?_; conv => whnf)
      | (refine And.intro (fit1 rfl (by decide)) ?_; conv => whnf)
      | (refine ⟨_, sum_cell s25, rfl, ?_⟩; conv => whnf)
      | (refine ⟨_, set_n _, ?_⟩; conv => whnf)
      | (refine ⟨_, set_mn _, ?_⟩; conv => whnf)
      | (refine ⟨_, set_mx _, ?_⟩; conv => whnf)
      | (refine ⟨_, set_ce _, ?_⟩; conv => whnf)
      | (refine ⟨_, set_po _, ?_⟩; conv => whnf)
      | (refine ⟨_, set_s _, ?_⟩; conv => whnf)
      | (refine ⟨_, set_hi _, ?_⟩; conv => whnf)
      | (refine ⟨_, set_lo _, ?_⟩; conv => whnf)
      | (refine And.intro (fun _ => ?_) tf; conv => whnf)
      | (refine And.intro ft (fun _ => ?_); conv => whnf)
      | (refine And.intro (by kernel_rfl) ?_; conv => whnf)
      | (refine And.intro (by decide) ?_; conv => whnf)
      | (refine And.intro (fun _ => ?_) (fun h => absurd h (by decide)); conv => whnf)
      | (refine And.intro (fun h => absurd h (by decide)) (fun _ => ?_); conv => whnf)
      | (refine And.intro (fun _ => ?_) (fun _ => ?_) <;> conv => whnf)
      | (refine ⟨_, _, alive21.pu rfl rfl, ?_⟩; conv => whnf)
      | (refine ⟨_, _, upto_d 1 8 (by kernel_rfl) (by rw [hm]; exact hkl), ?_⟩; conv => whnf)
      | (refine ⟨_, _, from_d 1 8 (by kernel_rfl) (by rw [hm]; exact hkl), ?_⟩; conv => whnf)
      | (refine ⟨_, _, f1.pu rfl rfl, ?_⟩; conv => whnf)
      | (refine ⟨_, _, f2.pu rfl rfl, ?_⟩; conv => whnf)
      | (refine ⟨_, _, lendO m1 rfl (flat_cE _ _), ?_⟩; conv => whnf)))
    all_goals try (exfalso; simp only [decide_eq_true_eq, decide_eq_false_iff_not, Bool.not_eq_true', Bool.not_eq_false', Bool.not_eq_true, Bool.not_eq_false, beq_iff_eq, bne_iff_ne, beq_eq_false_iff_ne, bne_eq_false_iff_eq, ne_eq, Decidable.not_not] at *; first | omega | contradiction | (simp_all; done) | (simp_all; omega))
    all_goals try (refine Or.inl ?_; conv => whnf)
  refine ⟨Nat × Cel, fun y => y.1 ≤ l.length ∧ y.2 = foldC (l.take y.1), fun y => ([(8, iA y.1), (7, .ptr 2 0), (6, iA 0), (5, .ptr 1 0), (0, .d (lD l))], [.dead, .row (cR (foldC l)), .row (cR y.2)]), fun y => l.length - y.1, ⟨(0, zC), ⟨Nat.zero_le _, rfl⟩, ?_⟩, ?_⟩
  · all_goals refine ⟨[], ?_⟩
    repeat (any_goals (first | exact True.intro | exact rfl | with_reducible_and_instances rfl | exact (by kernel_rfl) | refine And.intro ?_ ?_))
    all_goals conv => whnf
  rintro ⟨i, b⟩ ⟨hi, hb⟩
  have hi : i ≤ l.length := hi
  have hb : b = foldC (l.take i) := hb
  have hti : ∀ z ∈ l.take i, in64 z := fun z hz => hl z (List.mem_of_mem_take hz)
  have ob : CelOK b := by rw [hb]; exact foldC_ok hti (by rw [List.length_take]; omega)
  have lb := ob.hl
  conv => whnf
  by_cases hlt : i < l.length
  · have hx : l[i]? = some l[i] := List.getElem?_eq_getElem hlt
    have hti1 : ∀ z ∈ l.take (i + 1), in64 z := fun z hz => hl z (List.mem_of_mem_take hz)
    have hsn := List.take_succ_eq_append_getElem hlt
    have hv := hl _ (List.getElem_mem hlt)
    generalize l[i] = v at hx hsn hv
    have a1 := add_sat_c b v ob hv
    rw [hb, foldC_snoc (by rw [← hsn]; exact hti1) (by rw [List.length_take]; omega), ← hsn, ← hb] at a1
    have oc := foldC_ok hti1 (by rw [List.length_take]; omega)
    have lc := oc.hl
    have r2 := right_sat_c (foldC (l.take (i + 1))) oc
    rw [right_iff.2 (foldC_right hti1)] at r2
    have hne : l.take (i + 1) ≠ [] := by rw [hsn]; simp
    have hmem : v ∈ l.take (i + 1) := by rw [hsn]; simp
    have q1 := (mmin_mem _ hne).2 v hmem
    have q2 := (mmax_mem _ hne).2 v hmem
    change (foldC (l.take (i + 1))).mn ≤ v at q1
    change v ≤ (foldC (l.take (i + 1))).mx at q2
    have hc : foldC (l.take (i + 1)) = foldC (l.take (i + 1)) := rfl
    generalize hcc : foldC (l.take (i + 1)) = c at a1 r2 lc q1 q2
    iterate 5
      repeat (any_goals (first
        | exact True.intro
        | (refine ⟨i, _, rfl, map_lR_get hx, ?_⟩; conv => whnf)
        | (refine And.intro (cell_fit lc lb) ?_; conv => whnf)
        | (refine ⟨_, cell_sets lb lc, ?_⟩; conv => whnf)
        | (refine ⟨_, drop_id, ?_⟩; conv => whnf)
        | (refine ⟨_, _, at_n, ?_⟩; conv => whnf)
        | (refine ⟨_, _, at_hi, ?_⟩; conv => whnf)
        | (refine ⟨_, _, at_lo, ?_⟩; conv => whnf)
        | (refine ⟨_, _, at_mn, ?_⟩; conv => whnf)
        | (refine ⟨_, _, at_mx, ?_⟩; conv => whnf)
        | (refine ⟨_, _, at_ce, ?_⟩; conv => whnf)
        | (refine ⟨_, _, at_po, ?_⟩; conv => whnf)
        | (refine ⟨_, whole_z sC, clenz sC, ?_⟩; conv => whnf)
        | (refine ⟨_, setzC, ?_⟩; conv => whnf)
        | (refine And.intro (clenz sC) ?_; conv => whnf)
        | (refine And.intro fitzC ?_; conv => whnf)
        | (refine ⟨_, whole_cell sC lb, clen sC lb, ?_⟩; conv => whnf)
        | (refine And.intro (clen sC lb) ?_; conv => whnf)
        | (refine And.intro (fitC lb) ?_; conv => whnf)
        | (refine ⟨_, setC lb, ?_⟩; conv => whnf)
        | (refine ⟨_, whole_cell sC lc, clen sC lc, ?_⟩; conv => whnf)
        | (refine And.intro (clen sC lc) ?_; conv => whnf)
        | (refine And.intro (fitC lc) ?_; conv => whnf)
        | (refine ⟨_, setC lc, ?_⟩; conv => whnf)
        | (refine ⟨_, whole_z sF, clenz sF, ?_⟩; conv => whnf)
        | (refine ⟨_, setzF, ?_⟩; conv => whnf)
        | (refine And.intro (clenz sF) ?_; conv => whnf)
        | (refine And.intro fitzF ?_; conv => whnf)
        | (refine ⟨_, whole_cell sF lb, clen sF lb, ?_⟩; conv => whnf)
        | (refine And.intro (clen sF lb) ?_; conv => whnf)
        | (refine And.intro (fitF lb) ?_; conv => whnf)
        | (refine ⟨_, setF lb, ?_⟩; conv => whnf)
        | (refine ⟨_, whole_cell sF lc, clen sF lc, ?_⟩; conv => whnf)
        | (refine And.intro (clen sF lc) ?_; conv => whnf)
        | (refine And.intro (fitF lc) ?_; conv => whnf)
        | (refine ⟨_, setF lc, ?_⟩; conv => whnf)
        | (refine And.intro (fit1 lb (by decide)) ?_; conv => whnf)
        | (refine And.intro (fit1 lc (by decide)) ?_; conv => whnf)
        | (refine And.intro (fit1 rfl (by decide)) ?_; conv => whnf)
        | (refine ⟨_, sum_cell s25, rfl, ?_⟩; conv => whnf)
        | (refine ⟨_, set_n _, ?_⟩; conv => whnf)
        | (refine ⟨_, set_mn _, ?_⟩; conv => whnf)
        | (refine ⟨_, set_mx _, ?_⟩; conv => whnf)
        | (refine ⟨_, set_ce _, ?_⟩; conv => whnf)
        | (refine ⟨_, set_po _, ?_⟩; conv => whnf)
        | (refine ⟨_, set_s _, ?_⟩; conv => whnf)
        | (refine ⟨_, set_hi _, ?_⟩; conv => whnf)
        | (refine ⟨_, set_lo _, ?_⟩; conv => whnf)
        | (refine And.intro (fun _ => ?_) tf; conv => whnf)
        | (refine And.intro ft (fun _ => ?_); conv => whnf)
        | (refine And.intro (by kernel_rfl) ?_; conv => whnf)
        | (refine And.intro (by decide) ?_; conv => whnf)
        | (refine And.intro (fun _ => ?_) (fun h => absurd h (by decide)); conv => whnf)
        | (refine And.intro (fun h => absurd h (by decide)) (fun _ => ?_); conv => whnf)
        | (refine And.intro (fun _ => ?_) (fun _ => ?_) <;> conv => whnf)
        | (refine ⟨_, _, a1.pu rfl rfl, ?_⟩; conv => whnf)
        | (refine ⟨_, _, r2.pu rfl rfl, ?_⟩; conv => whnf)))
      all_goals try (exfalso; simp only [decide_eq_true_eq, decide_eq_false_iff_not, Bool.not_eq_true', Bool.not_eq_false', Bool.not_eq_true, Bool.not_eq_false, beq_iff_eq, bne_iff_ne, beq_eq_false_iff_ne, bne_eq_false_iff_eq, ne_eq, Decidable.not_not] at *; first | omega | contradiction | (simp_all; done) | (simp_all; omega))
      all_goals try (refine Or.inl ?_; conv => whnf)
    refine ⟨(i + 1, c), ⟨hlt, hcc.symm⟩, show l.length - (i + 1) < l.length - i by omega, ?_⟩
    all_goals refine ⟨[], ?_⟩
    repeat (any_goals (first | exact True.intro | exact rfl | with_reducible_and_instances rfl | exact (by kernel_rfl) | refine And.intro ?_ ?_))
    all_goals conv => whnf
    exact wk1 (by omega)
  · have hie : i = l.length := by omega
    subst hie
    rw [List.take_length] at hb
    subst hb
    iterate 3
      repeat (any_goals (first
        | exact True.intro
        | (refine ⟨_, drop_id, ?_⟩; conv => whnf)
        | (refine ⟨_, _, at_n, ?_⟩; conv => whnf)
        | (refine ⟨_, _, at_hi, ?_⟩; conv => whnf)
        | (refine ⟨_, _, at_lo, ?_⟩; conv => whnf)
        | (refine ⟨_, _, at_mn, ?_⟩; conv => whnf)
        | (refine ⟨_, _, at_mx, ?_⟩; conv => whnf)
        | (refine ⟨_, _, at_ce, ?_⟩; conv => whnf)
        | (refine ⟨_, _, at_po, ?_⟩; conv => whnf)
        | (refine ⟨_, whole_z sC, clenz sC, ?_⟩; conv => whnf)
        | (refine ⟨_, setzC, ?_⟩; conv => whnf)
        | (refine And.intro (clenz sC) ?_; conv => whnf)
        | (refine And.intro fitzC ?_; conv => whnf)
        | (refine ⟨_, whole_cell sC l3, clen sC l3, ?_⟩; conv => whnf)
        | (refine And.intro (clen sC l3) ?_; conv => whnf)
        | (refine And.intro (fitC l3) ?_; conv => whnf)
        | (refine ⟨_, setC l3, ?_⟩; conv => whnf)
        | (refine ⟨_, whole_z sF, clenz sF, ?_⟩; conv => whnf)
        | (refine ⟨_, setzF, ?_⟩; conv => whnf)
        | (refine And.intro (clenz sF) ?_; conv => whnf)
        | (refine And.intro fitzF ?_; conv => whnf)
        | (refine ⟨_, whole_cell sF l3, clen sF l3, ?_⟩; conv => whnf)
        | (refine And.intro (clen sF l3) ?_; conv => whnf)
        | (refine And.intro (fitF l3) ?_; conv => whnf)
        | (refine ⟨_, setF l3, ?_⟩; conv => whnf)
        | (refine And.intro (fit1 l3 (by decide)) ?_; conv => whnf)
        | (refine And.intro (fit1 rfl (by decide)) ?_; conv => whnf)
        | (refine ⟨_, sum_cell s25, rfl, ?_⟩; conv => whnf)
        | (refine ⟨_, set_n _, ?_⟩; conv => whnf)
        | (refine ⟨_, set_mn _, ?_⟩; conv => whnf)
        | (refine ⟨_, set_mx _, ?_⟩; conv => whnf)
        | (refine ⟨_, set_ce _, ?_⟩; conv => whnf)
        | (refine ⟨_, set_po _, ?_⟩; conv => whnf)
        | (refine ⟨_, set_s _, ?_⟩; conv => whnf)
        | (refine ⟨_, set_hi _, ?_⟩; conv => whnf)
        | (refine ⟨_, set_lo _, ?_⟩; conv => whnf)
        | (refine And.intro (fun _ => ?_) tf; conv => whnf)
        | (refine And.intro ft (fun _ => ?_); conv => whnf)
        | (refine And.intro (by kernel_rfl) ?_; conv => whnf)
        | (refine And.intro (by decide) ?_; conv => whnf)
        | (refine And.intro (fun _ => ?_) (fun h => absurd h (by decide)); conv => whnf)
        | (refine And.intro (fun h => absurd h (by decide)) (fun _ => ?_); conv => whnf)
        | (refine And.intro (fun _ => ?_) (fun _ => ?_) <;> conv => whnf)
        | (refine ⟨_, _, f3.pu rfl rfl, ?_⟩; conv => whnf)
        | (refine ⟨_, _, r1.pu rfl rfl, ?_⟩; conv => whnf)
        | (refine ⟨_, _, eqCC o3 o3, ?_⟩; conv => whnf)))
      all_goals try (exfalso; simp only [decide_eq_true_eq, decide_eq_false_iff_not, Bool.not_eq_true', Bool.not_eq_false', Bool.not_eq_true, Bool.not_eq_false, beq_iff_eq, bne_iff_ne, beq_eq_false_iff_ne, bne_eq_false_iff_eq, ne_eq, Decidable.not_not] at *; first | omega | contradiction | (simp_all; done) | (simp_all; omega))
      all_goals try (refine Or.inl ?_; conv => whnf)
    all_goals refine ⟨[], ?_⟩
    repeat (any_goals (first | exact True.intro | exact rfl | with_reducible_and_instances rfl | exact (by kernel_rfl) | refine And.intro ?_ ?_))
    all_goals conv => whnf
end Go.Proofs.Ytbjmdnemeidpjaa
/- Cells that are handed in. -/
namespace Go.Proofs.Ytbjmdnemeidpjaa
set_option linter.unusedSimpArgs false
set_option linter.unusedVariables false
open Go.RowKit
set_option maxRecDepth 100000
theorem ty_wideD {m : Nat} {ds : List D} (h : Ty Try.prog (m + 2) 25 ds) : ∃ K, ds = [iD (hiZ K), uZ (loZ K)] ∧ in64 (hiZ K) := by
  have h : TyB (Ty Try.prog (m + 1)) Try.prog 25 ds := h
  unfold TyB at h
  rw [Try.underlying25] at h
  obtain ⟨dss, e0, g3⟩ := h
  obtain ⟨d1, r1, e1, h1, g4⟩ := g3
  obtain ⟨d2, r2, e2, h2, g5⟩ := g4
  have g5 : r2 = [] := g5
  subst e0 e1 e2 g5
  obtain ⟨hi, rfl, hh⟩ := ty_long1 h1 Try.underlying2
  have h2 : TyB (Ty Try.prog m) Try.prog 23 d2 := h2
  unfold TyB at h2
  rw [Try.underlying23] at h2
  obtain ⟨lo, rfl, hl⟩ := h2
  simp only [Lit.wf, Bool.and_eq_true, decide_eq_true_eq] at hl
  have hl : 0 ≤ lo ∧ lo ≤ 18446744073709551615 := hl
  obtain ⟨e1, e2⟩ := wideZ_hi (hi := hi) hl.1 (by unfold word; omega)
  refine ⟨wideZ hi lo, ?_, by rw [e1]; exact hh⟩
  rw [e1, e2]
  rfl
/-- A cell that is handed in. -/
theorem ty_cells {m : Nat} {ds : List D} (h : Ty Try.prog (m + 3) 29 ds) : ∃ c, ds = cR c ∧ CelOK c := by
  have h : TyB (Ty Try.prog (m + 2)) Try.prog 29 ds := h
  unfold TyB at h
  rw [Try.underlying29] at h
  obtain ⟨dss, e0, h⟩ := h
  obtain ⟨d1, r1, e1, h1, h⟩ := h
  obtain ⟨d2, r2, e2, h2, h⟩ := h
  obtain ⟨d3, r3, e3, h3, h⟩ := h
  obtain ⟨d4, r4, e4, h4, h⟩ := h
  obtain ⟨d5, r5, e5, h5, h⟩ := h
  obtain ⟨d6, r6, e6, h6, h⟩ := h
  obtain ⟨d7, r7, e7, h7, h⟩ := h
  obtain rfl : r7 = [] := h
  subst e7 e6 e5 e4 e3 e2 e1 e0
  obtain ⟨n, rfl, g1⟩ := ty_long1 h1 Try.underlying2
  obtain ⟨K, rfl, g2⟩ := ty_wideD h2
  obtain ⟨mn, rfl, g3⟩ := ty_long1 h3 Try.underlying2
  obtain ⟨mx, rfl, g4⟩ := ty_long1 h4 Try.underlying2
  obtain ⟨ce, rfl, g5⟩ := ty_long1 h5 Try.underlying2
  obtain ⟨po, rfl, g6⟩ := ty_long1 h6 Try.underlying2
  obtain ⟨q, rfl, g7, g8⟩ := ty_harr h7 Try.underlying27 Try.underlying2
  refine ⟨⟨n, K, mn, mx, ce, po, q⟩, ?_, ⟨g1, g2, g3, g4, g5, g6, g7, g8⟩⟩
  simp [cR]
theorem ty_cell {x : D} (h : TyV Try.prog 29 x) : ∃ c, x = cD c ∧ CelOK c := by
  unfold TyV at h
  rw [Try.underlying29] at h
  obtain ⟨ds, rfl, g⟩ := h
  obtain ⟨c, rfl, hc⟩ := ty_cells (m := 6) g
  exact ⟨c, rfl, hc⟩
theorem ty_cellss {x : D} (h : TyV Try.prog 47 x) : ∃ l : List Cel, x = .sl 72 (l.map cR) ∧ ∀ c ∈ l, CelOK c := by
  obtain ⟨rows, rfl, h1, _⟩ := ty_slice h Try.underlying47
  obtain ⟨l, rfl, h2⟩ := rows_map (f := cR) (p := CelOK) fun r hr => ty_cells (h1 r hr)
  exact ⟨l, by rw [show Try.prog.cellsOf 29 = 72 from by kernel_rfl], h2⟩
end Go.Proofs.Ytbjmdnemeidpjaa
/- CellFolds: every Fold, Right, Add and Note answers what the document says. -/
namespace Go.Proofs.Ytbjmdnemeidpjaa
set_option linter.unusedSimpArgs false
set_option linter.unusedVariables false
open Go.RowKit
set_option maxRecDepth 100000
theorem zC_ok : CelOK zC := ⟨by decide, by decide, by decide, by decide, by decide, by decide, by decide, by decide⟩
theorem of_sat_c (c : Cel) (hl : c.h.length = 65) : Sat Try.prog 9 [.d (cD c)] [] (.d (cD c)) [] := by
  refine sat_of_vc (T := tiOf Try.prog) (E := E0) Try.func9 rfl rfl hE0 hm0 rfl ?_
  conv => whnf
  iterate 3
    repeat (any_goals (first
      | exact True.intro
      | (refine And.intro (whole_len s69 hl) ?_; conv => whnf)
      | (refine And.intro (whole_len s68 hl) ?_; conv => whnf)
      | (refine ⟨_, hist_cell s69 hl, whole_len s69 hl, ?_⟩; conv => whnf)
      | (refine ⟨_, build_two hl, ?_⟩; conv => whnf)
      | (refine ⟨_, drop_id, ?_⟩; conv => whnf)
      | (refine ⟨_, _, at_n, ?_⟩; conv => whnf)
      | (refine ⟨_, _, at_hi, ?_⟩; conv => whnf)
      | (refine ⟨_, _, at_lo, ?_⟩; conv => whnf)
      | (refine ⟨_, _, at_mn, ?_⟩; conv => whnf)
      | (refine ⟨_, _, at_mx, ?_⟩; conv => whnf)
      | (refine ⟨_, _, at_ce, ?_⟩; conv => whnf)
      | (refine ⟨_, _, at_po, ?_⟩; conv => whnf)
      | (refine ⟨_, whole_z sC, clenz sC, ?_⟩; conv => whnf)
      | (refine ⟨_, setzC, ?_⟩; conv => whnf)
      | (refine And.intro (clenz sC) ?_; conv => whnf)
      | (refine And.intro fitzC ?_; conv => whnf)
      | (refine ⟨_, whole_cell sC hl, clen sC hl, ?_⟩; conv => whnf)
      | (refine And.intro (clen sC hl) ?_; conv => whnf)
      | (refine And.intro (fitC hl) ?_; conv => whnf)
      | (refine ⟨_, setC hl, ?_⟩; conv => whnf)
      | (refine ⟨_, whole_z sF, clenz sF, ?_⟩; conv => whnf)
      | (refine ⟨_, setzF, ?_⟩; conv => whnf)
      | (refine And.intro (clenz sF) ?_; conv => whnf)
      | (refine And.intro fitzF ?_; conv => whnf)
      | (refine ⟨_, whole_cell sF hl, clen sF hl, ?_⟩; conv => whnf)
      | (refine And.intro (clen sF hl) ?_; conv => whnf)
      | (refine And.intro (fitF hl) ?_; conv => whnf)
      | (refine ⟨_, setF hl, ?_⟩; conv => whnf)
      | (refine And.intro (fit1 hl (by decide)) ?_; conv => whnf)
      | (refine And.intro (fit1 rfl (by decide)) ?_; conv => whnf)
      | (refine ⟨_, sum_cell s25, rfl, ?_⟩; conv => whnf)
      | (refine ⟨_, set_n _, ?_⟩; conv => whnf)
      | (refine ⟨_, set_mn _, ?_⟩; conv => whnf)
      | (refine ⟨_, set_mx _, ?_⟩; conv => whnf)
      | (refine ⟨_, set_ce _, ?_⟩; conv => whnf)
      | (refine ⟨_, set_po _, ?_⟩; conv => whnf)
      | (refine ⟨_, set_s _, ?_⟩; conv => whnf)
      | (refine ⟨_, set_hi _, ?_⟩; conv => whnf)
      | (refine ⟨_, set_lo _, ?_⟩; conv => whnf)
      | (refine And.intro (fun _ => ?_) tf; conv => whnf)
      | (refine And.intro ft (fun _ => ?_); conv => whnf)
      | (refine And.intro (by kernel_rfl) ?_; conv => whnf)
      | (refine And.intro (by decide) ?_; conv => whnf)
      | (refine And.intro (fun _ => ?_) (fun h => absurd h (by decide)); conv => whnf)
      | (refine And.intro (fun h => absurd h (by decide)) (fun _ => ?_); conv => whnf)
      | (refine And.intro (fun _ => ?_) (fun _ => ?_) <;> conv => whnf)))
    all_goals try (refine Or.inl ?_; conv => whnf)
  all_goals refine ⟨[], ?_⟩
  repeat (any_goals (first | exact True.intro | exact rfl | with_reducible_and_instances rfl | exact (by kernel_rfl) | refine And.intro ?_ ?_))
  all_goals conv => whnf
theorem addC_okA {c : Cel} {v : Int} (hc : CelOK c) (hv : in64 v) : CelOK (addC c v).1 := by
  by_cases hr : rightC c = true
  · by_cases hn : c.n = big
    · have e : addC c v = (zC, 12) := by unfold addC; rw [if_neg (by rw [hr]; simp), if_pos hn]
      rw [e]; exact zC_ok
    · by_cases hs : in128 (c.s + v)
      · exact addC_ok hc (right_iff.1 hr) hv hn hs
      · have e : addC c v = (zC, 12) := by unfold addC; rw [if_neg (by rw [hr]; simp), if_neg hn, if_pos hs]
        rw [e]; exact zC_ok
  · have e : addC c v = (zC, 10) := by unfold addC; rw [if_pos (by simpa using hr)]
    rw [e]; exact zC_ok
theorem noteC_okA {c : Cel} {b : Bool} (hc : CelOK c) : CelOK (noteC c b).1 := by
  by_cases hr : rightC c = true
  · by_cases hn : (if b then c.ce else c.po) = big
    · have e : noteC c b = (zC, 12) := by unfold noteC; rw [if_neg (by rw [hr]; simp), if_pos hn]
      rw [e]; exact zC_ok
    · exact noteC_ok hc (right_iff.1 hr) hn
  · have e : noteC c b = (zC, 10) := by unfold noteC; rw [if_pos (by simpa using hr)]
    rw [e]; exact zC_ok
theorem addC_merge {c : Cel} {v : Int} (hc : CelOK c) (hv : in64 v) : mergeC [c, foldC [v]] = addC c v := by
  have hv1 : ∀ z ∈ [v], in64 z := fun z hz => by simp at hz; subst hz; exact hv
  have r2 := right_iff.2 (foldC_right hv1)
  by_cases hr : rightC c = true
  case neg =>
    have hr : rightC c = false := by simpa using hr
    unfold mergeC addC
    rw [if_pos (by rw [List.all_cons, hr]; rfl), if_pos hr]
  have hR := right_iff.1 hr
  have hall : [c, foldC [v]].all rightC = true := by rw [List.all_cons, List.all_cons, hr, r2]; rfl
  have e1 : sumN [c, foldC [v]] = c.n + 1 := by show c.n + (((([v] : List Int).length : Nat) : Int) + 0) = c.n + 1; simp
  have e2 : sumCe [c, foldC [v]] = c.ce := by show c.ce + ((0 : Int) + 0) = c.ce; omega
  have e3 : sumPo [c, foldC [v]] = c.po := by show c.po + ((0 : Int) + 0) = c.po; omega
  have e4 : sumS [c, foldC [v]] = c.s + v := by show c.s + ((v + 0) + 0) = c.s + v; omega
  have h1 := hc.n
  have h2 := hc.ce
  have h3 := hc.po
  have hfit : fitsC [c, foldC [v]] = (decide (c.n ≠ big) && decide (in128 (c.s + v))) := by
    rw [fits_iff, e1, e2, e3, e4]
    rw [decide_eq_true (p := c.ce ≤ 9223372036854775807) (by unfold in64 at h2; omega), decide_eq_true (p := c.po ≤ 9223372036854775807) (by unfold in64 at h3; omega)]
    have : decide (c.n + 1 ≤ 9223372036854775807) = decide (c.n ≠ big) := by
      rw [Bool.eq_iff_iff, decide_eq_true_eq, decide_eq_true_eq]
      unfold in64 at h1; unfold big; omega
    rw [this, Bool.and_true, Bool.and_true]
  unfold mergeC
  rw [if_neg (by rw [hall]; simp), hfit]
  by_cases hn : c.n = big
  · rw [if_pos (by simp [hn])]
    unfold addC
    rw [if_neg (by rw [hr]; simp), if_pos hn]
  by_cases hs : in128 (c.s + v)
  case neg =>
    rw [if_pos (by simp [hs])]
    unfold addC
    rw [if_neg (by rw [hr]; simp), if_neg hn, if_pos hs]
  rw [if_neg (by simp [hn, hs]), addC_fine hR hn hs]
  obtain ⟨a1, a2⟩ := hist_fine hc hR hv hn
  obtain ⟨b1, b2⟩ := add_merge c.h v hc.hl hv hc.hx
  have hm : mergeL [c.h, histL [v]] = bump c.h (bkt v) := by
    have q : mergeE [c.h, histL [v]] = 0 := by rw [← b2]; exact a1
    unfold mergeR at b1
    rw [if_pos q] at b1
    rw [← b1]; exact a2
  have n1 : ¬ (foldC [v]).n = 0 := by show ¬ (((([v] : List Int).length : Nat) : Int) = 0); simp
  refine congrArg (·, (0 : Int)) (Cel.ext' e1 e4 ?_ ?_ e2 e3 hm)
  · show mmin ((full [c, foldC [v]]).map (·.mn)) = if c.n = 0 then v else min c.mn v
    rw [full_two, if_neg n1]
    by_cases q : c.n = 0
    · rw [if_pos q, if_pos q]; rfl
    · rw [if_neg q, if_neg q]; rfl
  · show mmax ((full [c, foldC [v]]).map (·.mx)) = if c.n = 0 then v else max c.mx v
    rw [full_two, if_neg n1]
    by_cases q : c.n = 0
    · rw [if_pos q, if_pos q]; rfl
    · rw [if_neg q, if_neg q]; rfl
theorem noCell {c : Cel} (q : (!decide (c = c)) = true) : False := by rw [decide_eq_true rfl] at q; exact Bool.noConfusion q
theorem noBool {b : Bool} (q : (b != b) = true) : False := by cases b <;> simp at q
set_option maxHeartbeats 64000000 in
theorem folds_sat_c (l : List Int) (c : Cel) (v : Int) (b : Bool) (hl : ∀ z ∈ l, in64 z) (hc : CelOK c) (hv : in64 v) : Sat Try.prog 3 [.d (lD l), .d (cD c), iA v, bA b] [] (bA true) [] := by
  have hm : (l.map lR).length = l.length := List.length_map _
  have hlc := hc.hl
  by_cases hg : l.length ≤ 200
  case neg =>
    refine sat_of_vc (T := tiOf Try.prog) (E := E0) Try.func3 rfl rfl hE0 hm0 rfl ?_
    conv => whnf
    iterate 3
      repeat (any_goals (first
        | exact True.intro
        | (refine And.intro (fun _ => ?_) tf; conv => whnf)
        | (refine And.intro ft (fun _ => ?_); conv => whnf)
        | (refine And.intro (by kernel_rfl) ?_; conv => whnf)
        | (refine And.intro (by decide) ?_; conv => whnf)
        | (refine And.intro (fun _ => ?_) (fun h => absurd h (by decide)); conv => whnf)
        | (refine And.intro (fun h => absurd h (by decide)) (fun _ => ?_); conv => whnf)
        | (refine And.intro (fun _ => ?_) (fun _ => ?_) <;> conv => whnf)
        | (refine ⟨_, _, alive21.pu rfl rfl, ?_⟩; conv => whnf)))
      all_goals try (exfalso; simp only [decide_eq_true_eq, decide_eq_false_iff_not, Bool.not_eq_true', Bool.not_eq_false', Bool.not_eq_true, Bool.not_eq_false, beq_iff_eq, bne_iff_ne, beq_eq_false_iff_ne, bne_eq_false_iff_eq, ne_eq, Decidable.not_not] at *; first | omega | contradiction | (simp_all; done) | (simp_all; omega))
      all_goals try (refine Or.inl ?_; conv => whnf)
    all_goals refine ⟨[], ?_⟩
    repeat (any_goals (first | exact True.intro | exact rfl | with_reducible_and_instances rfl | exact (by kernel_rfl) | refine And.intro ?_ ?_))
    all_goals conv => whnf
  have hv1 : ∀ z ∈ [v], in64 z := fun z hz => by simp at hz; subst hz; exact hv
  have k1 := copyL_sat l (by omega)
  have f1 := fold_sat_c l hl (by omega)
  have f2 := refFold_sat l hl (by omega)
  have f3 := refFold_sat [v] hv1 (by simp)
  have o1 := foldC_ok hl (by omega)
  have o2 := foldC_ok hv1 (by simp)
  have g1 := of_sat_c (foldC l) o1.hl
  have g2 := of_sat_c c hlc
  have r1 := right_sat_c c hc
  have r2 := refRight_sat_c c hc
  have a1 := add_sat_c c v hc hv
  have n1 := note_sat c b hc r1
  have n2 := refNote_sat c b hc
  have m1 := refMerge_sat_c [c, foldC [v]] (by intro d hd; simp at hd; rcases hd with rfl | rfl; exact hc; exact o2) (by simp)
  rw [addC_merge hc hv] at m1
  have oa := addC_okA (v := v) hc hv
  have on := noteC_okA (b := b) hc
  have la := oa.hl
  have ln := on.hl
  have l1 := o1.hl
  have l2 := o2.hl
  have g3 := of_sat_c _ la
  have g4 := of_sat_c _ ln
  generalize foldC [v] = w at *
  generalize foldC l = F at *
  generalize (addC c v).2 = ea at *
  generalize (addC c v).1 = A at *
  generalize (noteC c b).2 = en at *
  generalize (noteC c b).1 = N at *
  generalize rightC c = R at *
  refine sat_of_vc (T := tiOf Try.prog) (E := E0) Try.func3 rfl rfl hE0 hm0 rfl ?_
  conv => whnf
  iterate 5
    repeat (any_goals (first
      | exact True.intro
      | (refine ⟨_, drop_id, ?_⟩; conv => whnf)
      | (refine ⟨_, _, at_n, ?_⟩; conv => whnf)
      | (refine ⟨_, _, at_hi, ?_⟩; conv => whnf)
      | (refine ⟨_, _, at_lo, ?_⟩; conv => whnf)
      | (refine ⟨_, _, at_mn, ?_⟩; conv => whnf)
      | (refine ⟨_, _, at_mx, ?_⟩; conv => whnf)
      | (refine ⟨_, _, at_ce, ?_⟩; conv => whnf)
      | (refine ⟨_, _, at_po, ?_⟩; conv => whnf)
      | (refine ⟨_, whole_z sC, clenz sC, ?_⟩; conv => whnf)
      | (refine ⟨_, setzC, ?_⟩; conv => whnf)
      | (refine And.intro (clenz sC) ?_; conv => whnf)
      | (refine And.intro fitzC ?_; conv => whnf)
      | (refine ⟨_, whole_cell sC hlc, clen sC hlc, ?_⟩; conv => whnf)
      | (refine And.intro (clen sC hlc) ?_; conv => whnf)
      | (refine And.intro (fitC hlc) ?_; conv => whnf)
      | (refine ⟨_, setC hlc, ?_⟩; conv => whnf)
      | (refine ⟨_, whole_cell sC la, clen sC la, ?_⟩; conv => whnf)
      | (refine And.intro (clen sC la) ?_; conv => whnf)
      | (refine And.intro (fitC la) ?_; conv => whnf)
      | (refine ⟨_, setC la, ?_⟩; conv => whnf)
      | (refine ⟨_, whole_cell sC ln, clen sC ln, ?_⟩; conv => whnf)
      | (refine And.intro (clen sC ln) ?_; conv => whnf)
      | (refine And.intro (fitC ln) ?_; conv => whnf)
      | (refine ⟨_, setC ln, ?_⟩; conv => whnf)
      | (refine ⟨_, whole_cell sC l1, clen sC l1, ?_⟩; conv => whnf)
      | (refine And.intro (clen sC l1) ?_; conv => whnf)
      | (refine And.intro (fitC l1) ?_; conv => whnf)
      | (refine ⟨_, setC l1, ?_⟩; conv => whnf)
      | (refine ⟨_, whole_cell sC l2, clen sC l2, ?_⟩; conv => whnf)
      | (refine And.intro (clen sC l2) ?_; conv => whnf)
      | (refine And.intro (fitC l2) ?_; conv => whnf)
      | (refine ⟨_, setC l2, ?_⟩; conv => whnf)
      | (refine ⟨_, whole_z sF, clenz sF, ?_⟩; conv => whnf)
      | (refine ⟨_, setzF, ?_⟩; conv => whnf)
      | (refine And.intro (clenz sF) ?_; conv => whnf)
      | (refine And.intro fitzF ?_; conv => whnf)
      | (refine ⟨_, whole_cell sF hlc, clen sF hlc, ?_⟩; conv => whnf)
      | (refine And.intro (clen sF hlc) ?_; conv => whnf)
      | (refine And.intro (fitF hlc) ?_; conv => whnf)
      | (refine ⟨_, setF hlc, ?_⟩; conv => whnf)
      | (refine ⟨_, whole_cell sF la, clen sF la, ?_⟩; conv => whnf)
      | (refine And.intro (clen sF la) ?_; conv => whnf)
      | (refine And.intro (fitF la) ?_; conv => whnf)
      | (refine ⟨_, setF la, ?_⟩; conv => whnf)
      | (refine ⟨_, whole_cell sF ln, clen sF ln, ?_⟩; conv => whnf)
      | (refine And.intro (clen sF ln) ?_; conv => whnf)
      | (refine And.intro (fitF ln) ?_; conv => whnf)
      | (refine ⟨_, setF ln, ?_⟩; conv => whnf)
      | (refine ⟨_, whole_cell sF l1, clen sF l1, ?_⟩; conv => whnf)
      | (refine And.intro (clen sF l1) ?_; conv => whnf)
      | (refine And.intro (fitF l1) ?_; conv => whnf)
      | (refine ⟨_, setF l1, ?_⟩; conv => whnf)
      | (refine ⟨_, whole_cell sF l2, clen sF l2, ?_⟩; conv => whnf)
      | (refine And.intro (clen sF l2) ?_; conv => whnf)
      | (refine And.intro (fitF l2) ?_; conv => whnf)
      | (refine ⟨_, setF l2, ?_⟩; conv => whnf)
      | (refine And.intro (fit1 hlc (by decide)) ?_; conv => whnf)
      | (refine And.intro (fit1 la (by decide)) ?_; conv => whnf)
      | (refine And.intro (fit1 ln (by decide)) ?_; conv => whnf)
      | (refine And.intro (fit1 l1 (by decide)) ?_; conv => whnf)
      | (refine And.intro (fit1 l2 (by decide)) ?_; conv => whnf)
      | (refine And.intro (fit1 rfl (by decide)) ?_; conv => whnf)
      | (refine ⟨_, sum_cell s25, rfl, ?_⟩; conv => whnf)
      | (refine ⟨_, set_n _, ?_⟩; conv => whnf)
      | (refine ⟨_, set_mn _, ?_⟩; conv => whnf)
      | (refine ⟨_, set_mx _, ?_⟩; conv => whnf)
      | (refine ⟨_, set_ce _, ?_⟩; conv => whnf)
      | (refine ⟨_, set_po _, ?_⟩; conv => whnf)
      | (refine ⟨_, set_s _, ?_⟩; conv => whnf)
      | (refine ⟨_, set_hi _, ?_⟩; conv => whnf)
      | (refine ⟨_, set_lo _, ?_⟩; conv => whnf)
      | (refine And.intro (fun _ => ?_) tf; conv => whnf)
      | (refine And.intro ft (fun _ => ?_); conv => whnf)
      | (refine And.intro (by kernel_rfl) ?_; conv => whnf)
      | (refine And.intro (by decide) ?_; conv => whnf)
      | (refine And.intro (fun _ => ?_) (fun h => absurd h (by decide)); conv => whnf)
      | (refine And.intro (fun h => absurd h (by decide)) (fun _ => ?_); conv => whnf)
      | (refine And.intro (fun _ => ?_) (fun _ => ?_) <;> conv => whnf)
      | (refine ⟨_, _, alive21.pu rfl rfl, ?_⟩; conv => whnf)
      | (refine ⟨_, _, k1.nw rfl, ?_⟩; conv => whnf)
      | (refine ⟨_, _, lendO f1 rfl (flat_cA _), ?_⟩; conv => whnf)
      | (refine ⟨_, _, f2.pu rfl rfl, ?_⟩; conv => whnf)
      | (refine ⟨_, _, lendO f3 rfl (flat_cA _), ?_⟩; conv => whnf)
      | (refine ⟨_, _, g1.pu rfl rfl, ?_⟩; conv => whnf)
      | (refine ⟨_, _, g2.pu rfl rfl, ?_⟩; conv => whnf)
      | (refine ⟨_, _, r1.pu rfl rfl, ?_⟩; conv => whnf)
      | (refine ⟨_, _, r2.pu rfl rfl, ?_⟩; conv => whnf)
      | (refine ⟨_, _, a1.pu rfl rfl, ?_⟩; conv => whnf)
      | (refine ⟨_, _, n1.pu rfl rfl, ?_⟩; conv => whnf)
      | (refine ⟨_, _, n2.pu rfl rfl, ?_⟩; conv => whnf)
      | (refine ⟨_, _, lendO m1 rfl (flat_cE _ _), ?_⟩; conv => whnf)
      | (refine ⟨_, _, g3.pu rfl rfl, ?_⟩; conv => whnf)
      | (refine ⟨_, _, g4.pu rfl rfl, ?_⟩; conv => whnf)
      | (refine ⟨_, _, neFF o1 o1, ?_⟩; conv => whnf)
      | (refine ⟨_, _, eqFF oa oa, ?_⟩; conv => whnf)
      | (refine ⟨_, _, eqFF on on, ?_⟩; conv => whnf)
      | (refine ⟨_, _, neB (by kernel_rfl), ?_⟩; conv => whnf)))
    all_goals try (refine Or.inl ?_; conv => whnf)
  all_goals try exact (noCell ‹_›).elim
  all_goals try exact (noBool ‹_›).elim
  all_goals try (exfalso; simp only [decide_eq_true_eq, decide_eq_false_iff_not, Bool.not_eq_true', Bool.not_eq_false', Bool.not_eq_true, Bool.not_eq_false, beq_iff_eq, bne_iff_ne, beq_eq_false_iff_ne, bne_eq_false_iff_eq, ne_eq, Decidable.not_not] at *; first | omega | contradiction | (simp_all; done) | (simp_all; omega))
  all_goals refine ⟨[], ?_⟩
  repeat (any_goals (first | exact True.intro | exact rfl | with_reducible_and_instances rfl | exact (by kernel_rfl) | refine And.intro ?_ ?_))
  all_goals conv => whnf
  exact congrArg bA (beq_self_eq_true en)
theorem folds21_law (H : Type) (enc : TypeId × Value → H) : LawWalk H enc Try.prog 3 Try.f3 :=
  lawWalk_of_sat (by kernel_rfl) fun args h => by
    obtain ⟨a, _, rfl, h1, h⟩ := h
    obtain ⟨b, _, rfl, h2, h⟩ := h
    obtain ⟨d, _, rfl, h3, h⟩ := h
    obtain ⟨e, _, rfl, h4, h⟩ := h
    obtain rfl := h
    obtain ⟨l, rfl, hl⟩ := ty_longs h1 Try.underlying22 Try.underlying2 (by kernel_rfl)
    obtain ⟨c, rfl, hc⟩ := ty_cell h2
    obtain ⟨v, rfl, hv⟩ := ty_i64 h3 Try.underlying2
    obtain ⟨z, rfl⟩ := ty_bool h4 Try.underlying4
    exact folds_sat_c l c v z hl hc hv
end Go.Proofs.Ytbjmdnemeidpjaa
