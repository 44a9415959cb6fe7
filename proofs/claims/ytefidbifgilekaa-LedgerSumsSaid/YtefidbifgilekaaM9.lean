/- Parts LgN, Laid of the proof, put together. -/
import Derived.Test.YtefidbifgilekaaM8
import Derived.Test.YtefidbifgilekaaChecked
import Derived.Test.YtefidbifgilekaaRows
/- LedgerSums, its law: the tally's counts are all verdicts together; the windows' lists are all that count. -/
namespace Go.Proofs.Ytefidbifgilekaa
set_option linter.unusedSimpArgs false
set_option linter.unusedVariables false
open Go.RowKit Go.Sort
set_option maxRecDepth 100000
abbrev eW : Int → D := intD .i64
abbrev eB : Bool → D := fun b => .v (.bool b)
theorem keyW : KeyT Try.prog 2 eW := key_int Try.underlying2
section
variable {ty n i c : Nat} {L : List AObj} {m : WinM} {mx kx vx : Operand}
theorem wn_make : Does Try.prog (.makeMap 58 none) ty L n [] ⟨[], [], [mapO eW eB [] 0]⟩ (.mp n) := mp_make
theorem wn_put (x : Int) (v : Bool) (hi : L[i]? = some (mapO eW eB m c)) : Does Try.prog (.mapUpdate 58 mx kx vx) ty L n [.mp i, .d (eW x), .d (eB v)] ⟨[i], [(i, mapO eW eB (putX x v c m) (clkX x m c))], []⟩ .any :=
  mp_put keyW (fun _ => rfl) Try.underlying58 x v hi
theorem wn_range (hi : L[i]? = some (mapO eW eB m c)) : Does Try.prog (.range 58 mx) ty L n [.mp i] ⟨[i], [], [itO i c [] c]⟩ (.ptr n 0) :=
  mp_range Try.underlying58 hi
end
def sumT (f : Int → Int) : Nat → Int
  | 0 => 0
  | k + 1 => sumT f k + f k
theorem wkz {z z' : Int} (h : z = z') (h1 : -9223372036854775808 ≤ z') (h2 : z' ≤ 9223372036854775807) : (.d (.v (.int .i64 (IntKind.i64.wrap z))) : AV) = iA z' := by
  rw [h]
  exact congrArg (fun z => (.d (.v (.int .i64 z)) : AV)) (wi h1 h2)
theorem perm_sum {l l' : List Nat} (h : l.Perm l') : l.sum = l'.sum := by
  induction h with
  | nil => rfl
  | cons x _ ih => simp [ih]
  | swap x y l => simp; omega
  | trans _ _ h1 h2 => exact h1.trans h2
theorem in_get {m : Led} {c : Nat} (h : Fr m c) {z : Int} {k j : Nat} {x : Id3} (hx : (inK m z j)[k]? = some x) : findX m x = some (0, z) := by
  have hm : x ∈ inK m z j := List.mem_of_getElem? hx
  unfold inK at hm
  rw [List.mem_filter] at hm
  have h1 := ids_mem h (List.mem_of_mem_take hm.1)
  rw [h1, of_decide_eq_true hm.2]
theorem sums_sat (l : List FactP) : Sat Try.prog 5 [.d (.sl 5 (l.map factR))] [] (bA true) [] := by
  have hm : (l.map factR).length = l.length := List.length_map _
  by_cases hlen : l.length ≤ 60
  · have hok := made_ok l
    have ms := made_sat l (by omega)
    generalize (madeM l).1 = m at hok ms
    generalize (madeM l).2 = c at hok ms
    have hml : m.length ≤ 60 := Nat.le_trans hok.ln hlen
    have tl := tally_sat hok.fr (by omega) hok.ok
    have hca := cnt_all hok.ok
    have hcb : ∀ r, 0 ≤ cntR m r ∧ cntR m r ≤ 60 := fun r => by have := cntR_le m r; omega
    have hin := in_sum hok.toFr
    have ht : talR m = [iD (cntR m 0), iD (cntR m 1), iD (cntR m 2), iD (cntR m 3), iD (cntR m 4), iD (cntR m 5), iD (cntR m 6)] := rfl
    rw [ht] at tl
    clear ht
    generalize cntR m = f at tl hca hcb hin
    have al := all_sat m c
    have ls := len_sat m c
    refine sat_of_vc (T := tiOf Try.prog) (E := E0) Try.func5 rfl rfl hE0 hm0 rfl ?_
    conv => whnf
    repeat (any_goals (first
      | exact True.intro
      | (refine And.intro (fun _ => ?_) tf; conv => whnf)
      | (refine And.intro ft (fun _ => ?_); conv => whnf)
      | (refine And.intro (by kernel_rfl) ?_; conv => whnf)
      | (refine And.intro (by decide) ?_; conv => whnf)
      | (refine And.intro (fun _ => ?_) (fun h => absurd h (by decide)); conv => whnf)
      | (refine And.intro (fun h => absurd h (by decide)) (fun _ => ?_); conv => whnf)
      | (refine And.intro (fun _ => ?_) (fun _ => ?_) <;> conv => whnf)
      | (refine ⟨_, _, aliveL_sat.pu rfl rfl, ?_⟩; conv => whnf)
      | (refine ⟨_, _, ms.nw rfl, ?_⟩; conv => whnf)
      | (refine ⟨_, _, eqP (by kernel_rfl), ?_⟩; conv => whnf)
      | (refine ⟨_, _, tl.at2 0 1 rfl rfl rfl rfl rfl, ?_⟩; conv => whnf)))
    all_goals try (refine Or.inl ?_; conv => whnf)
    repeat (any_goals (first
      | exact True.intro
      | (refine And.intro (fun _ => ?_) tf; conv => whnf)
      | (refine And.intro ft (fun _ => ?_); conv => whnf)
      | (refine And.intro (by kernel_rfl) ?_; conv => whnf)
      | (refine And.intro (by decide) ?_; conv => whnf)
      | (refine And.intro (fun _ => ?_) (fun h => absurd h (by decide)); conv => whnf)
      | (refine And.intro (fun h => absurd h (by decide)) (fun _ => ?_); conv => whnf)
      | (refine And.intro (fun _ => ?_) (fun _ => ?_) <;> conv => whnf)
      | (refine ⟨_, _, aliveL_sat.pu rfl rfl, ?_⟩; conv => whnf)
      | (refine ⟨_, _, ms.nw rfl, ?_⟩; conv => whnf)
      | (refine ⟨_, _, eqP (by kernel_rfl), ?_⟩; conv => whnf)
      | (refine ⟨_, _, tl.at2 0 1 rfl rfl rfl rfl rfl, ?_⟩; conv => whnf)))
    all_goals try (refine Or.inl ?_; conv => whnf)
    repeat (any_goals (first
      | exact True.intro
      | (refine And.intro (fun _ => ?_) tf; conv => whnf)
      | (refine And.intro ft (fun _ => ?_); conv => whnf)
      | (refine And.intro (by kernel_rfl) ?_; conv => whnf)
      | (refine And.intro (by decide) ?_; conv => whnf)
      | (refine And.intro (fun _ => ?_) (fun h => absurd h (by decide)); conv => whnf)
      | (refine And.intro (fun h => absurd h (by decide)) (fun _ => ?_); conv => whnf)
      | (refine And.intro (fun _ => ?_) (fun _ => ?_) <;> conv => whnf)
      | (refine ⟨_, _, aliveL_sat.pu rfl rfl, ?_⟩; conv => whnf)
      | (refine ⟨_, _, ms.nw rfl, ?_⟩; conv => whnf)
      | (refine ⟨_, _, eqP (by kernel_rfl), ?_⟩; conv => whnf)
      | (refine ⟨_, _, tl.at2 0 1 rfl rfl rfl rfl rfl, ?_⟩; conv => whnf)))
    all_goals try (exfalso; simp only [decide_eq_true_eq, decide_eq_false_iff_not, Bool.not_eq_true', Bool.not_eq_false', Bool.not_eq_true, Bool.not_eq_false, beq_iff_eq, bne_iff_ne, beq_eq_false_iff_ne, bne_eq_false_iff_eq, ne_eq, Decidable.not_not] at *; first | omega | contradiction | (simp_all; done) | (simp_all; omega))
    all_goals try (refine Or.inl ?_; conv => whnf)
    repeat (any_goals (first
      | exact True.intro
      | (refine And.intro (fun _ => ?_) tf; conv => whnf)
      | (refine And.intro ft (fun _ => ?_); conv => whnf)
      | (refine And.intro (by kernel_rfl) ?_; conv => whnf)
      | (refine And.intro (by decide) ?_; conv => whnf)
      | (refine And.intro (fun _ => ?_) (fun h => absurd h (by decide)); conv => whnf)
      | (refine And.intro (fun h => absurd h (by decide)) (fun _ => ?_); conv => whnf)
      | (refine And.intro (fun _ => ?_) (fun _ => ?_) <;> conv => whnf)
      | (refine ⟨_, _, aliveL_sat.pu rfl rfl, ?_⟩; conv => whnf)
      | (refine ⟨_, _, ms.nw rfl, ?_⟩; conv => whnf)
      | (refine ⟨_, _, eqP (by kernel_rfl), ?_⟩; conv => whnf)
      | (refine ⟨_, _, tl.at2 0 1 rfl rfl rfl rfl rfl, ?_⟩; conv => whnf)))
    all_goals try (refine Or.inl ?_; conv => whnf)
    repeat (any_goals (first
      | exact True.intro
      | (refine And.intro (fun _ => ?_) tf; conv => whnf)
      | (refine And.intro ft (fun _ => ?_); conv => whnf)
      | (refine And.intro (by kernel_rfl) ?_; conv => whnf)
      | (refine And.intro (by decide) ?_; conv => whnf)
      | (refine And.intro (fun _ => ?_) (fun h => absurd h (by decide)); conv => whnf)
      | (refine And.intro (fun h => absurd h (by decide)) (fun _ => ?_); conv => whnf)
      | (refine And.intro (fun _ => ?_) (fun _ => ?_) <;> conv => whnf)))
    refine ⟨Nat × Int, fun y => y.1 ≤ 7 ∧ y.2 = sumT f y.1, fun y => ([(6, iA y.1), (5, iA y.2), (4, .ptr 2 0), (3, .ptr 0 0)], [.cells [.mp 1], mapO eI eV m c, .cells [iA (f 0), iA (f 1), iA (f 2), iA (f 3), iA (f 4), iA (f 5), iA (f 6)]]), fun y => 7 - y.1, ⟨(0, 0), ⟨by omega, rfl⟩, ?_⟩, ?_⟩
    · all_goals refine ⟨[], ?_⟩
      repeat (any_goals (first | exact True.intro | exact rfl | with_reducible_and_instances rfl | exact (by kernel_rfl) | refine And.intro ?_ ?_))
      all_goals conv => whnf
    rintro ⟨k, S⟩ ⟨hk, hS⟩
    replace hk : k ≤ 7 := hk
    replace hS : S = sumT f k := hS
    have h0 := hcb 0; have h1 := hcb 1; have h2 := hcb 2; have h3 := hcb 3; have h4 := hcb 4; have h5 := hcb 5; have h6 := hcb 6
    by_cases hlt : k < 7
    · have hSb : 0 ≤ S ∧ S ≤ 420 ∧ 0 ≤ f k := by
        have : k = 0 ∨ k = 1 ∨ k = 2 ∨ k = 3 ∨ k = 4 ∨ k = 5 ∨ k = 6 := by omega
        subst hS
        rcases this with rfl | rfl | rfl | rfl | rfl | rfl | rfl <;> simp [sumT] <;> omega
      have hS2 : S + f k = sumT f (k + 1) := by subst hS; rfl
      have hfk := hcb k
      clear hS
      have : k = 0 ∨ k = 1 ∨ k = 2 ∨ k = 3 ∨ k = 4 ∨ k = 5 ∨ k = 6 := by omega
      rcases this with rfl | rfl | rfl | rfl | rfl | rfl | rfl
      all_goals conv => whnf
      repeat (any_goals (first
        | exact True.intro
        | (refine ⟨0, rfl, by decide, ?_⟩; conv => whnf)
        | (refine ⟨1, rfl, by decide, ?_⟩; conv => whnf)
        | (refine ⟨2, rfl, by decide, ?_⟩; conv => whnf)
        | (refine ⟨3, rfl, by decide, ?_⟩; conv => whnf)
        | (refine ⟨4, rfl, by decide, ?_⟩; conv => whnf)
        | (refine ⟨5, rfl, by decide, ?_⟩; conv => whnf)
        | (refine ⟨6, rfl, by decide, ?_⟩; conv => whnf)
        | (refine Or.inl ?_; conv => whnf)
        | (refine And.intro (fun _ => ?_) tf; conv => whnf)
        | (refine And.intro ft (fun _ => ?_); conv => whnf)
        | (refine And.intro (by kernel_rfl) ?_; conv => whnf)
        | (refine And.intro (by decide) ?_; conv => whnf)
        | (refine And.intro (fun _ => ?_) (fun h => absurd h (by decide)); conv => whnf)
        | (refine And.intro (fun h => absurd h (by decide)) (fun _ => ?_); conv => whnf)
        | (refine And.intro (fun _ => ?_) (fun _ => ?_) <;> conv => whnf)))
      all_goals try (exfalso; simp only [decide_eq_true_eq, decide_eq_false_iff_not, Bool.not_eq_true', Bool.not_eq_false', Bool.not_eq_true, Bool.not_eq_false, beq_iff_eq, bne_iff_ne, beq_eq_false_iff_ne, bne_eq_false_iff_eq, ne_eq, Decidable.not_not] at *; first | omega | contradiction | (simp_all; done) | (simp_all; omega))
      all_goals refine ⟨(_, S + f _), ⟨?_, hS2⟩, ?_, ?_⟩
      all_goals first
        | (show _ + 1 ≤ 7; omega)
        | (show 7 - (_ + 1) < 7 - _; omega)
        | skip
      all_goals refine ⟨[], ?_⟩
      repeat (any_goals (first | exact True.intro | exact rfl | with_reducible_and_instances rfl | exact (by kernel_rfl) | refine And.intro ?_ ?_))
      all_goals conv => whnf
      all_goals first
        | exact wkz (by omega) (by omega) (by omega)
        | exact wkz rfl (by omega) (by omega)
    · have hk7 : k = 7 := by omega
      subst hk7
      have hSm : S = (m.length : Int) := by
        rw [hS, ← hca]; simp [sumT]
      clear hS
      subst hSm
      conv => whnf
      repeat (any_goals (first
        | exact True.intro
        | (refine Or.inl ?_; conv => whnf)
        | (refine And.intro (fun _ => ?_) tf; conv => whnf)
        | (refine And.intro ft (fun _ => ?_); conv => whnf)
        | (refine And.intro (by kernel_rfl) ?_; conv => whnf)
        | (refine And.intro (by decide) ?_; conv => whnf)
        | (refine And.intro (fun _ => ?_) (fun h => absurd h (by decide)); conv => whnf)
        | (refine And.intro (fun h => absurd h (by decide)) (fun _ => ?_); conv => whnf)
        | (refine And.intro (fun _ => ?_) (fun _ => ?_) <;> conv => whnf)
        | (refine ⟨_, _, wn_make, ?_⟩; conv => whnf)
        | (refine ⟨_, _, al.at2 0 1 rfl rfl rfl rfl rfl, ?_⟩; conv => whnf)))
      all_goals try (exfalso; simp only [decide_eq_true_eq, decide_eq_false_iff_not, Bool.not_eq_true', Bool.not_eq_false', Bool.not_eq_true, Bool.not_eq_false, beq_iff_eq, bne_iff_ne, beq_eq_false_iff_ne, bne_eq_false_iff_eq, ne_eq, Decidable.not_not] at *; first | omega | contradiction | (simp_all; done) | (simp_all; omega))
      have hix : (idsL m).length = m.length := idsL_len m
      refine ⟨WinM × Nat, Nat, fun y s => s = winK m y ∧ y ≤ m.length, fun s => [.cells [.mp 1], mapO eI eV m c, .cells [iA (f 0), iA (f 1), iA (f 2), iA (f 3), iA (f 4), iA (f 5), iA (f 6)], mapO eW eB s.1 s.2, .cells [.mp 3], .cells [.ptr 0 0]], [(42, .fn (.func 41) [] [.ptr 5 0]), (7, .ptr 4 0), (5, iA m.length), (4, .ptr 2 0), (3, .ptr 0 0)], 6, _, _, _, [.cells [.mp 1], mapO eI eV m c, .dead, .dead, .dead, .cells [.ptr 0 0]], 0, _, _, ⟨([], 0), ⟨rfl, Nat.zero_le _⟩, ?_⟩, rfl, by kernel_rfl, allIt (i := 5) (j := 0) (k := 1) hok.fr (by omega) rfl rfl rfl, ?_, ?_, ?_, ?_⟩
      · all_goals refine ⟨[], ?_⟩
        repeat (any_goals (first | exact True.intro | exact rfl | with_reducible_and_instances rfl | exact (by kernel_rfl) | refine And.intro ?_ ?_))
        all_goals conv => whnf
      · rintro y x y' ⟨e, _, rfl⟩; rfl
      · rintro y s _; exact ⟨⟨rfl, rfl, rfl, trivial⟩, Nat.le_refl 6⟩
      · rintro y s vals y' ⟨hs, hy⟩ ⟨⟨a, b, d⟩, ⟨hx, rfl⟩, rfl⟩
        have hlt2 : y < m.length := by have := (List.getElem?_eq_some_iff.1 hx).1; omega
        have hw := winK_succ hx
        rw [← hs] at hw
        unfold winStep at hw
        obtain ⟨⟨r, z⟩, hv⟩ : ∃ v, verL m (a, b, d) = v := ⟨_, rfl⟩
        rw [hv] at hw ⊢
        have hp := fun L i n ty mx kx vx (hi : L[i]? = some (mapO eW eB s.1 s.2)) => wn_put (L := L) (n := n) (ty := ty) (mx := mx) (kx := kx) (vx := vx) z true hi
        by_cases hr : r = 0
        · rw [if_pos hr] at hw
          subst hr
          conv => whnf
          repeat (any_goals (first
            | exact True.intro
            | (refine Or.inl ?_; conv => whnf)
            | (refine And.intro (fun _ => ?_) tf; conv => whnf)
            | (refine And.intro ft (fun _ => ?_); conv => whnf)
            | (refine And.intro (by kernel_rfl) ?_; conv => whnf)
            | (refine And.intro (by decide) ?_; conv => whnf)
            | (refine And.intro (fun _ => ?_) (fun h => absurd h (by decide)); conv => whnf)
            | (refine And.intro (fun h => absurd h (by decide)) (fun _ => ?_); conv => whnf)
            | (refine And.intro (fun _ => ?_) (fun _ => ?_) <;> conv => whnf)
            | (refine ⟨_, _, hp _ _ _ _ _ _ _ rfl, ?_⟩; conv => whnf)))
          all_goals try (exfalso; simp only [decide_eq_true_eq, decide_eq_false_iff_not, Bool.not_eq_true', Bool.not_eq_false', Bool.not_eq_true, Bool.not_eq_false, beq_iff_eq, bne_iff_ne, beq_eq_false_iff_ne, bne_eq_false_iff_eq, ne_eq, Decidable.not_not] at *; first | omega | contradiction | (simp_all; done) | (simp_all; omega))
          refine ⟨(putX z true s.2 s.1, clkX z s.1 s.2), ⟨hw.symm, hlt2⟩, ?_⟩
          all_goals refine ⟨[], ?_⟩
          repeat (any_goals (first | exact True.intro | exact rfl | with_reducible_and_instances rfl | exact (by kernel_rfl) | refine And.intro ?_ ?_))
          all_goals conv => whnf
        · rw [if_neg hr] at hw
          have hrb : (r == 0) = false := by simpa using hr
          conv => whnf
          repeat (any_goals (first
            | exact True.intro
            | (refine Or.inl ?_; conv => whnf)
            | (refine And.intro (fun _ => ?_) tf; conv => whnf)
            | (refine And.intro ft (fun _ => ?_); conv => whnf)
            | (refine And.intro (by kernel_rfl) ?_; conv => whnf)
            | (refine And.intro (by decide) ?_; conv => whnf)
            | (refine And.intro (fun _ => ?_) (fun h => absurd h (by decide)); conv => whnf)
            | (refine And.intro (fun h => absurd h (by decide)) (fun _ => ?_); conv => whnf)
            | (refine And.intro (fun _ => ?_) (fun _ => ?_) <;> conv => whnf)))
          all_goals try (exfalso; rw [hrb] at *; contradiction)
          refine ⟨s, ⟨hw.symm, hlt2⟩, ?_⟩
          all_goals refine ⟨[], ?_⟩
          repeat (any_goals (first | exact True.intro | exact rfl | with_reducible_and_instances rfl | exact (by kernel_rfl) | refine And.intro ?_ ?_))
          all_goals conv => whnf
      · rintro y s hF ⟨hs, _⟩
        have hF : y = m.length := hF
        rw [hF] at hs
        obtain ⟨w1, w2, w3⟩ := winK_ok m m.length (by omega)
        rw [← hs] at w1 w2 w3 hin
        obtain ⟨W, cW⟩ := s
        clear hs hF
        have hwr := fun L i n ty mx (hi : L[i]? = some (mapO eW eB W cW)) => wn_range (L := L) (n := n) (ty := ty) (mx := mx) hi
        conv => whnf
        repeat (any_goals (first
          | exact True.intro
          | (refine Or.inl ?_; conv => whnf)
          | (refine And.intro (fun _ => ?_) tf; conv => whnf)
          | (refine And.intro ft (fun _ => ?_); conv => whnf)
          | (refine And.intro (by kernel_rfl) ?_; conv => whnf)
          | (refine And.intro (by decide) ?_; conv => whnf)
          | (refine And.intro (fun _ => ?_) (fun h => absurd h (by decide)); conv => whnf)
          | (refine And.intro (fun h => absurd h (by decide)) (fun _ => ?_); conv => whnf)
          | (refine And.intro (fun _ => ?_) (fun _ => ?_) <;> conv => whnf)
          | (refine ⟨_, _, hwr _ _ _ _ _ rfl, ?_⟩; conv => whnf)))
        clear hwr
        replace w1 : Fr W cW := w1
        replace w3 : W.length ≤ m.length := w3
        replace hin : (((W.map fun p => lenIn m p.1).sum : Nat) : Int) = f 0 := hin
        clear w2
        have hlb : ∀ z, lenIn m z ≤ 60 := fun z => Nat.le_trans (inK_len m z m.length) hml
        have hfe : ∀ p ∈ W, (W.find? fun q => q.2.2 == p.2.2) = some p := fun p hp => w1.find hp
        refine ⟨WinM × Nat, fun y => (y.1.map (·.2.2)).Nodup ∧ (∀ q ∈ y.1, q ∈ W) ∧ y.2 = (y.1.map fun p => lenIn m p.1).sum ∧ y.2 ≤ 60 * y.1.length, fun y => ([(52, .ptr 6 0), (10, iA y.2), (5, iA m.length), (4, .ptr 2 0), (3, .ptr 0 0)], [.cells [.mp 1], mapO eI eV m c, .cells [iA (f 0), iA (f 1), iA (f 2), iA (f 3), iA (f 4), iA (f 5), iA (f 6)], mapO eW eB W cW, .cells [.mp 3], .cells [.ptr 0 0], itO 3 cW (y.1.map (·.2.2)) cW]), fun y => W.length - y.1.length, ⟨([], 0), ⟨List.nodup_nil, fun q h => (by cases h), rfl, Nat.zero_le _⟩, ?_⟩, ?_⟩
        · all_goals refine ⟨[], ?_⟩
          repeat (any_goals (first | exact True.intro | exact rfl | with_reducible_and_instances rfl | exact (by kernel_rfl) | refine And.intro ?_ ?_))
          all_goals conv => whnf
        rintro ⟨done, cnt⟩ ⟨hn, hs, hcn, hcb2⟩
        replace hn : (done.map (·.2.2)).Nodup := hn
        replace hs : ∀ q ∈ done, q ∈ W := hs
        replace hcn : cnt = (done.map fun p => lenIn m p.1).sum := hcn
        replace hcb2 : cnt ≤ 60 * done.length := hcb2
        have hdl : done.length ≤ W.length := by
          have := within_len (done.map (·.2.2)) (W.map (·.2.2)) hn fun x hx => by
            obtain ⟨q, hq, rfl⟩ := List.mem_map.1 hx
            exact List.mem_map.2 ⟨q, hs q hq, rfl⟩
          simpa using this
        conv => whnf
        refine ⟨_, _, _, _, mp_next (fun _ => rfl) (fun _ => rfl) rfl rfl w1.lt (.inr w1.lt), ?_⟩
        rintro (_ | ⟨z, bv, n⟩) hp
        · have hpm := w1.perm hn hs hp
          have hcf : (cnt : Int) = f 0 := by
            rw [← hin, hcn]
            exact congrArg Int.ofNat (perm_sum (hpm.map _))
          have hcb3 : ((cnt : Int) == f 0) = true := by simpa using hcf
          clear hp hpm
          conv => whnf
          repeat (any_goals (first
            | exact True.intro
            | (refine ⟨0, rfl, by decide, ?_⟩; conv => whnf)
            | (refine And.intro (fun _ => ?_) tf; conv => whnf)
            | (refine And.intro ft (fun _ => ?_); conv => whnf)
            | (refine And.intro (by kernel_rfl) ?_; conv => whnf)
            | (refine And.intro (by decide) ?_; conv => whnf)
            | (refine And.intro (fun _ => ?_) (fun h => absurd h (by decide)); conv => whnf)
            | (refine And.intro (fun h => absurd h (by decide)) (fun _ => ?_); conv => whnf)
            | (refine And.intro (fun _ => ?_) (fun _ => ?_) <;> conv => whnf)
            | (refine ⟨_, _, ls.at2 0 1 rfl rfl rfl rfl rfl, ?_⟩; conv => whnf)))
          all_goals try (refine Or.inl ?_; conv => whnf)
          repeat (any_goals (first
            | exact True.intro
            | (refine ⟨0, rfl, by decide, ?_⟩; conv => whnf)
            | (refine And.intro (fun _ => ?_) tf; conv => whnf)
            | (refine And.intro ft (fun _ => ?_); conv => whnf)
            | (refine And.intro (by kernel_rfl) ?_; conv => whnf)
            | (refine And.intro (by decide) ?_; conv => whnf)
            | (refine And.intro (fun _ => ?_) (fun h => absurd h (by decide)); conv => whnf)
            | (refine And.intro (fun h => absurd h (by decide)) (fun _ => ?_); conv => whnf)
            | (refine And.intro (fun _ => ?_) (fun _ => ?_) <;> conv => whnf)
            | (refine ⟨_, _, ls.at2 0 1 rfl rfl rfl rfl rfl, ?_⟩; conv => whnf)))
          all_goals try (exfalso; exact absurd ‹((m.length : Int) == (m.length : Int)) = false› (by simp))
          all_goals refine ⟨[], ?_⟩
          repeat (any_goals (first | exact True.intro | exact rfl | with_reducible_and_instances rfl | exact (by kernel_rfl) | refine And.intro ?_ ?_))
          all_goals conv => whnf
          all_goals exact congrArg (fun b => (.d (.v (.bool b)) : AV)) hcb3
        · have hp1 : (z, bv, n) ∈ W := hp.1
          have hp2 : n ∉ done.map (·.2.2) := hp.2
          have hfb := hfe _ hp1
          have isat := in_sat hok.fr (by omega) z
          have hiz : (inK m z m.length).length = lenIn m z := rfl
          clear hp
          conv => whnf
          repeat (any_goals (first
            | exact True.intro
            | (refine Or.inl ?_; conv => whnf)
            | (refine And.intro (fun _ => ?_) tf; conv => whnf)
            | (refine And.intro ft (fun _ => ?_); conv => whnf)
            | (refine And.intro (by kernel_rfl) ?_; conv => whnf)
            | (refine And.intro (by decide) ?_; conv => whnf)
            | (refine And.intro (fun _ => ?_) (fun h => absurd h (by decide)); conv => whnf)
            | (refine And.intro (fun h => absurd h (by decide)) (fun _ => ?_); conv => whnf)
            | (refine And.intro (fun _ => ?_) (fun _ => ?_) <;> conv => whnf)
            | (refine ⟨_, _, mp_entry (fun _ => rfl) (fun _ => rfl) hfb rfl rfl, ?_⟩; conv => whnf)
            | (refine ⟨_, _, isat.at2 0 1 rfl rfl rfl rfl rfl, ?_⟩; conv => whnf)))
          have hrl : ((inK m z m.length).map idR).length = lenIn m z := by rw [List.length_map]; rfl
          have hlz := hlb z
          refine ⟨Nat, fun k => k ≤ lenIn m z, fun k => ([(13, iA k), (12, .own 7), (11, iA z), (52, .ptr 6 0), (10, iA cnt), (5, iA m.length), (4, .ptr 2 0), (3, .ptr 0 0)], [.cells [.mp 1], mapO eI eV m c, .cells [iA (f 0), iA (f 1), iA (f 2), iA (f 3), iA (f 4), iA (f 5), iA (f 6)], mapO eW eB W cW, .cells [.mp 3], .cells [.ptr 0 0], itO 3 cW (done.map (·.2.2) ++ [n]) cW, .sl 3 ((inK m z m.length).map idR)]), fun k => lenIn m z - k, ⟨0, Nat.zero_le _, ?_⟩, ?_⟩
          · all_goals refine ⟨[], ?_⟩
            repeat (any_goals (first | exact True.intro | exact rfl | with_reducible_and_instances rfl | exact (by kernel_rfl) | refine And.intro ?_ ?_))
            all_goals conv => whnf
          intro k hk
          by_cases hlt3 : k < lenIn m z
          · obtain ⟨⟨a, b, d⟩, hx⟩ : ∃ x, (inK m z m.length)[k]? = some x := ⟨(inK m z m.length)[k]'hlt3, List.getElem?_eq_getElem _⟩
            have hfx := in_get hok.toFr hx
            have os := of_sat m c a b d
            rw [hfx] at os
            have hlt4 : k < ((inK m z m.length).map idR).length := by omega
            conv => whnf
            repeat (any_goals (first
              | exact True.intro
              | (refine ⟨k, rfl, hlt4, ?_⟩; conv => whnf)
              | (refine ⟨_, map_get hx, ?_⟩; conv => whnf)
              | (refine Or.inl ?_; conv => whnf)
              | (refine And.intro (fun _ => ?_) tf; conv => whnf)
              | (refine And.intro ft (fun _ => ?_); conv => whnf)
              | (refine And.intro (by kernel_rfl) ?_; conv => whnf)
              | (refine And.intro (by decide) ?_; conv => whnf)
              | (refine And.intro (fun _ => ?_) (fun h => absurd h (by decide)); conv => whnf)
              | (refine And.intro (fun h => absurd h (by decide)) (fun _ => ?_); conv => whnf)
              | (refine And.intro (fun _ => ?_) (fun _ => ?_) <;> conv => whnf)
              | (refine ⟨_, _, os.at2 0 1 rfl rfl rfl rfl rfl, ?_⟩; conv => whnf)))
            all_goals try (exfalso; simp only [decide_eq_true_eq, decide_eq_false_iff_not, Bool.not_eq_true', Bool.not_eq_false', Bool.not_eq_true, Bool.not_eq_false, beq_iff_eq, bne_iff_ne, beq_eq_false_iff_ne, bne_eq_false_iff_eq, ne_eq, Decidable.not_not] at *; first | omega | contradiction | (simp_all; done) | (simp_all; omega))
            refine ⟨k + 1, hlt3, show lenIn m z - (k + 1) < lenIn m z - k by omega, ?_⟩
            all_goals refine ⟨[], ?_⟩
            repeat (any_goals (first | exact True.intro | exact rfl | with_reducible_and_instances rfl | exact (by kernel_rfl) | refine And.intro ?_ ?_))
            all_goals conv => whnf
            exact wk1 (by omega)
          · have hkz : k = lenIn m z := by omega
            subst hkz
            conv => whnf
            repeat (any_goals (first
              | exact True.intro
              | (refine Or.inl ?_; conv => whnf)
              | (refine And.intro (fun _ => ?_) tf; conv => whnf)
              | (refine And.intro ft (fun _ => ?_); conv => whnf)
              | (refine And.intro (by kernel_rfl) ?_; conv => whnf)
              | (refine And.intro (by decide) ?_; conv => whnf)
              | (refine And.intro (fun _ => ?_) (fun h => absurd h (by decide)); conv => whnf)
              | (refine And.intro (fun h => absurd h (by decide)) (fun _ => ?_); conv => whnf)
              | (refine And.intro (fun _ => ?_) (fun _ => ?_) <;> conv => whnf)))
            all_goals try (exfalso; simp only [decide_eq_true_eq, decide_eq_false_iff_not, Bool.not_eq_true', Bool.not_eq_false', Bool.not_eq_true, Bool.not_eq_false, beq_iff_eq, bne_iff_ne, beq_eq_false_iff_ne, bne_eq_false_iff_eq, ne_eq, Decidable.not_not] at *; first | omega | contradiction | (simp_all; done) | (simp_all; omega))
            have hn2 : ((done ++ [(z, bv, n)]).map (·.2.2)).Nodup := by
              rw [List.map_append, List.nodup_append]
              exact ⟨hn, by simp, fun x hx y hy e => by simp at hy; subst hy e; exact hp2 hx⟩
            have hs2 : ∀ q ∈ done ++ [(z, bv, n)], q ∈ W := fun q hq => by
              rcases List.mem_append.1 hq with h | h
              · exact hs q h
              · rw [List.mem_singleton.1 h]; exact hp1
            have hl2 : (done ++ [(z, bv, n)]).length ≤ W.length := by
              have := within_len ((done ++ [(z, bv, n)]).map (·.2.2)) (W.map (·.2.2)) hn2 fun x hx => by
                obtain ⟨q, hq, rfl⟩ := List.mem_map.1 hx
                exact List.mem_map.2 ⟨q, hs2 q hq, rfl⟩
              simpa using this
            have hl3 : (done ++ [(z, bv, n)]).length = done.length + 1 := by simp
            have hbn : (done ++ [(z, bv, n)]).map (·.2.2) = done.map (·.2.2) ++ [n] := by simp
            refine ⟨(done ++ [(z, bv, n)], cnt + lenIn m z), ⟨hn2, hs2, by show cnt + lenIn m z = ((done ++ [(z, bv, n)]).map fun p => lenIn m p.1).sum; rw [hcn]; simp, by show cnt + lenIn m z ≤ 60 * (done ++ [(z, bv, n)]).length; omega⟩, by show W.length - (done ++ [(z, bv, n)]).length < W.length - done.length; omega, ?_⟩
            refine (show Weak 0 _ _ [(52, .ptr 6 0), (10, iA ((cnt + lenIn m z : Nat) : Int)), (5, iA m.length), (4, .ptr 2 0), (3, .ptr 0 0)] [.cells [.mp 1], mapO eI eV m c, .cells [iA (f 0), iA (f 1), iA (f 2), iA (f 3), iA (f 4), iA (f 5), iA (f 6)], mapO eW eB W cW, .cells [.mp 3], .cells [.ptr 0 0], itO 3 cW ((done ++ [(z, bv, n)]).map (·.2.2)) cW] from ?_)
            rw [hbn]
            all_goals refine ⟨[], ?_⟩
            repeat (any_goals (first | exact True.intro | exact rfl | with_reducible_and_instances rfl | exact (by kernel_rfl) | refine And.intro ?_ ?_))
            all_goals conv => whnf
            exact wkz (by rw [hrl]; omega) (by omega) (by omega)
  · refine sat_of_vc (T := tiOf Try.prog) (E := E0) Try.func5 rfl rfl hE0 hm0 rfl ?_
    conv => whnf
    repeat (any_goals (first
      | exact True.intro
      | (refine And.intro (fun _ => ?_) tf; conv => whnf)
      | (refine And.intro ft (fun _ => ?_); conv => whnf)
      | (refine And.intro (by kernel_rfl) ?_; conv => whnf)
      | (refine And.intro (by decide) ?_; conv => whnf)
      | (refine And.intro (fun _ => ?_) (fun h => absurd h (by decide)); conv => whnf)
      | (refine And.intro (fun h => absurd h (by decide)) (fun _ => ?_); conv => whnf)
      | (refine And.intro (fun _ => ?_) (fun _ => ?_) <;> conv => whnf)
      | (refine ⟨_, _, aliveL_sat.pu rfl rfl, ?_⟩; conv => whnf)))
    all_goals try (exfalso; simp only [decide_eq_true_eq, decide_eq_false_iff_not, Bool.not_eq_true', Bool.not_eq_false', Bool.not_eq_true, Bool.not_eq_false, beq_iff_eq, bne_iff_ne, beq_eq_false_iff_ne, bne_eq_false_iff_eq, ne_eq, Decidable.not_not] at *; first | omega | contradiction | (simp_all; done) | (simp_all; omega))
    all_goals try (refine Or.inl ?_; conv => whnf)
    repeat (any_goals (first
      | exact True.intro
      | (refine And.intro (fun _ => ?_) tf; conv => whnf)
      | (refine And.intro ft (fun _ => ?_); conv => whnf)
      | (refine And.intro (by kernel_rfl) ?_; conv => whnf)
      | (refine And.intro (by decide) ?_; conv => whnf)
      | (refine And.intro (fun _ => ?_) (fun h => absurd h (by decide)); conv => whnf)
      | (refine And.intro (fun h => absurd h (by decide)) (fun _ => ?_); conv => whnf)
      | (refine And.intro (fun _ => ?_) (fun _ => ?_) <;> conv => whnf)
      | (refine ⟨_, _, aliveL_sat.pu rfl rfl, ?_⟩; conv => whnf)))
    all_goals try (exfalso; simp only [decide_eq_true_eq, decide_eq_false_iff_not, Bool.not_eq_true', Bool.not_eq_false', Bool.not_eq_true, Bool.not_eq_false, beq_iff_eq, bne_iff_ne, beq_eq_false_iff_ne, bne_eq_false_iff_eq, ne_eq, Decidable.not_not] at *; first | omega | contradiction | (simp_all; done) | (simp_all; omega))
    all_goals try (refine Or.inl ?_; conv => whnf)
    repeat (any_goals (first
      | exact True.intro
      | (refine And.intro (fun _ => ?_) tf; conv => whnf)
      | (refine And.intro ft (fun _ => ?_); conv => whnf)
      | (refine And.intro (by kernel_rfl) ?_; conv => whnf)
      | (refine And.intro (by decide) ?_; conv => whnf)
      | (refine And.intro (fun _ => ?_) (fun h => absurd h (by decide)); conv => whnf)
      | (refine And.intro (fun h => absurd h (by decide)) (fun _ => ?_); conv => whnf)
      | (refine And.intro (fun _ => ?_) (fun _ => ?_) <;> conv => whnf)))
    all_goals try (exfalso; simp only [decide_eq_true_eq, decide_eq_false_iff_not, Bool.not_eq_true', Bool.not_eq_false', Bool.not_eq_true, Bool.not_eq_false, beq_iff_eq, bne_iff_ne, beq_eq_false_iff_ne, bne_eq_false_iff_eq, ne_eq, Decidable.not_not] at *; first | omega | contradiction | (simp_all; done) | (simp_all; omega))
    all_goals refine ⟨[], ?_⟩
    repeat (any_goals (first | exact True.intro | exact rfl | with_reducible_and_instances rfl | exact (by kernel_rfl) | refine And.intro ?_ ?_))
    all_goals conv => whnf
theorem sums_law (H : Type) (enc : TypeId × Value → H) : LawWalk H enc Try.prog 5 Try.f5 :=
  lawWalk_of_sat (by kernel_rfl) fun args h => by
    obtain ⟨r, _, rfl, h1, h⟩ := h
    obtain rfl := h
    obtain ⟨l, rfl, _⟩ := ty_facts h1
    exact sums_sat l
end Go.Proofs.Ytefidbifgilekaa
/- Two closed facts on the program that every law's statement asks. -/
namespace Go.Proofs.Ytefidbifgilekaa
set_option linter.unusedSimpArgs false
set_option linter.unusedVariables false
open Go.RowKit
theorem own : ownKnob Try.prog.godebug = none := by kernel_rfl
theorem laidOut : laidOutB Try.prog = true := by kernel_rfl
end Go.Proofs.Ytefidbifgilekaa
