/- Parts LgQ, LgR0, LgR, LgS, LgT, LgU, LgP of the proof, put together. -/
import Derived.Test.YtefidbifgilekaaM8
/- ledger: the document's rows: before, Find, a fact as a row. -/
namespace Go.Proofs.Ytefidbifgilekaa
set_option linter.unusedSimpArgs false
set_option linter.unusedVariables false
open Go.RowKit Go.Sort
set_option maxRecDepth 100000
instance : DecidableRel ltI := fun x y => by unfold ltI; infer_instance
theorem before_sat (a b d a' b' d' : Int) : Sat Try.prog 39 [.d (.agg [iD a, iD b, iD d]), .d (.agg [iD a', iD b', iD d'])] [] (bA (decide (ltI (a, b, d) (a', b', d')))) [] := by
  have key : ltI (a, b, d) (a', b', d') ↔ (a < a' ∨ a = a' ∧ (b < b' ∨ b = b' ∧ d < d')) := Iff.rfl
  by_cases h1 : a = a'
  · by_cases h2 : b = b'
    · subst h1 h2
      have e : decide (ltI (a, b, d) (a, b, d')) = decide (d < d') := decide_eq_decide.2 (by rw [key]; omega)
      have q1 : (a != a) = false := by simp
      have q2 : (b != b) = false := by simp
      rw [e]
      refine sat_of_vc (T := tiOf Try.prog) (E := E0) Try.func39 rfl rfl hE0 hm0 rfl ?_
      conv => whnf
      repeat (any_goals (first
        | exact True.intro
        | (refine Or.inl ?_; conv => whnf)
        | (refine And.intro (fun _ => ?_) tf; conv => whnf)
        | (refine And.intro ft (fun _ => ?_); conv => whnf)
        | (refine And.intro (by kernel_rfl) ?_; conv => whnf)
        | (refine And.intro (by decide) ?_; conv => whnf)
        | (refine And.intro (fun _ => ?_) (fun h => absurd h (by decide)); conv => whnf)
        | (refine And.intro (fun h => absurd h (by decide)) (fun _ => ?_); conv => whnf)
        | (refine And.intro (fun _ => ?_) (fun _ => ?_) <;> conv => whnf)))
      all_goals try (exfalso; simp only [decide_eq_true_eq, decide_eq_false_iff_not, Bool.not_eq_true', Bool.not_eq_false', Bool.not_eq_true, Bool.not_eq_false, beq_iff_eq, bne_iff_ne, beq_eq_false_iff_ne, bne_eq_false_iff_eq, ne_eq, Decidable.not_not] at *; first | omega | contradiction | (simp_all; done) | (simp_all; omega))
      all_goals refine ⟨[], ?_⟩
      repeat (any_goals (first | exact True.intro | exact rfl | with_reducible_and_instances rfl | exact (by kernel_rfl) | refine And.intro ?_ ?_))
      all_goals conv => whnf
    · subst h1
      have e : decide (ltI (a, b, d) (a, b', d')) = decide (b < b') := decide_eq_decide.2 (by rw [key]; omega)
      rw [e]
      refine sat_of_vc (T := tiOf Try.prog) (E := E0) Try.func39 rfl rfl hE0 hm0 rfl ?_
      conv => whnf
      repeat (any_goals (first
        | exact True.intro
        | (refine Or.inl ?_; conv => whnf)
        | (refine And.intro (fun _ => ?_) tf; conv => whnf)
        | (refine And.intro ft (fun _ => ?_); conv => whnf)
        | (refine And.intro (by kernel_rfl) ?_; conv => whnf)
        | (refine And.intro (by decide) ?_; conv => whnf)
        | (refine And.intro (fun _ => ?_) (fun h => absurd h (by decide)); conv => whnf)
        | (refine And.intro (fun h => absurd h (by decide)) (fun _ => ?_); conv => whnf)
        | (refine And.intro (fun _ => ?_) (fun _ => ?_) <;> conv => whnf)))
      all_goals try (exfalso; simp only [decide_eq_true_eq, decide_eq_false_iff_not, Bool.not_eq_true', Bool.not_eq_false', Bool.not_eq_true, Bool.not_eq_false, beq_iff_eq, bne_iff_ne, beq_eq_false_iff_ne, bne_eq_false_iff_eq, ne_eq, Decidable.not_not] at *; first | omega | contradiction | (simp_all; done) | (simp_all; omega))
      all_goals refine ⟨[], ?_⟩
      repeat (any_goals (first | exact True.intro | exact rfl | with_reducible_and_instances rfl | exact (by kernel_rfl) | refine And.intro ?_ ?_))
      all_goals conv => whnf
  · have e : decide (ltI (a, b, d) (a', b', d')) = decide (a < a') := decide_eq_decide.2 (by rw [key]; omega)
    rw [e]
    refine sat_of_vc (T := tiOf Try.prog) (E := E0) Try.func39 rfl rfl hE0 hm0 rfl ?_
    conv => whnf
    repeat (any_goals (first
      | exact True.intro
      | (refine Or.inl ?_; conv => whnf)
      | (refine And.intro (fun _ => ?_) tf; conv => whnf)
      | (refine And.intro ft (fun _ => ?_); conv => whnf)
      | (refine And.intro (by kernel_rfl) ?_; conv => whnf)
      | (refine And.intro (by decide) ?_; conv => whnf)
      | (refine And.intro (fun _ => ?_) (fun h => absurd h (by decide)); conv => whnf)
      | (refine And.intro (fun h => absurd h (by decide)) (fun _ => ?_); conv => whnf)
      | (refine And.intro (fun _ => ?_) (fun _ => ?_) <;> conv => whnf)))
    all_goals try (exfalso; simp only [decide_eq_true_eq, decide_eq_false_iff_not, Bool.not_eq_true', Bool.not_eq_false', Bool.not_eq_true, Bool.not_eq_false, beq_iff_eq, bne_iff_ne, beq_eq_false_iff_ne, bne_eq_false_iff_eq, ne_eq, Decidable.not_not] at *; first | omega | contradiction | (simp_all; done) | (simp_all; omega))
    all_goals refine ⟨[], ?_⟩
    repeat (any_goals (first | exact True.intro | exact rfl | with_reducible_and_instances rfl | exact (by kernel_rfl) | refine And.intro ?_ ?_))
    all_goals conv => whnf
theorem ofF_sat (a b d r z : Int) : Sat Try.prog 14 [.d (.agg [iD a, iD b, iD d, iD r, iD z])] [] (.d (.agg [iD a, iD b, iD d, iD r, iD z])) [] := by
  refine sat_of_vc (T := tiOf Try.prog) (E := E0) Try.func14 rfl rfl hE0 hm0 rfl ?_
  conv => whnf
  repeat (any_goals (first
    | exact True.intro
    | (refine Or.inl ?_; conv => whnf)
    | (refine And.intro (fun _ => ?_) tf; conv => whnf)
    | (refine And.intro ft (fun _ => ?_); conv => whnf)
    | (refine And.intro (by kernel_rfl) ?_; conv => whnf)
    | (refine And.intro (by decide) ?_; conv => whnf)
    | (refine And.intro (fun _ => ?_) (fun h => absurd h (by decide)); conv => whnf)
    | (refine And.intro (fun h => absurd h (by decide)) (fun _ => ?_); conv => whnf)
    | (refine And.intro (fun _ => ?_) (fun _ => ?_) <;> conv => whnf)))
  all_goals refine ⟨[], ?_⟩
  repeat (any_goals (first | exact True.intro | exact rfl | with_reducible_and_instances rfl | exact (by kernel_rfl) | refine And.intro ?_ ?_))
  all_goals conv => whnf
abbrev refO (R : List FactP) : List AObj := [.cells [.own 1], .sl 5 (R.map factR)]
/-- Where an id's row stands. -/
def findR (R : List FactP) (x : Id3) : Int := match R.findIdx? fun f => decide (f.1 = x) with
  | some i => (i : Int)
  | none => -1
theorem idx_at {α : Type} {p : α → Bool} : ∀ {l : List α} {k : Nat} {x : α}, (l.take k).findIdx? p = none → l[k]? = some x → p x = true → l.findIdx? p = some k
  | [], _, _, _, h, _ => by cases h
  | y :: l, 0, x, _, h, hp => by
    have : y = x := Option.some.inj h
    subst this
    rw [List.findIdx?_cons, if_pos hp]
  | y :: l, k + 1, x, hn, h, hp => by
    rw [List.take_succ_cons, List.findIdx?_cons] at hn
    by_cases hy : p y = true
    · rw [if_pos hy] at hn; cases hn
    · rw [if_neg hy] at hn
      have := idx_at (p := p) (l := l) (k := k) (x := x) (by simpa using hn) h hp
      rw [List.findIdx?_cons, if_neg hy, this]; rfl
theorem idx_not {α : Type} {p : α → Bool} {l : List α} {k : Nat} {x : α} (hn : (l.take k).findIdx? p = none) (h : l[k]? = some x) (hp : p x = false) : (l.take (k + 1)).findIdx? p = none := by
  rw [List.findIdx?_eq_none_iff] at hn ⊢
  rw [List.take_add_one, h]
  intro y hy
  rcases List.mem_append.1 hy with hy | hy
  · exact hn y hy
  · simp at hy; subst hy; exact hp
theorem find_sat (R : List FactP) (hn : R.length ≤ 1000000) (a b d : Int) : Sat Try.prog 17 [.ptr 0 0, .d (.agg [iD a, iD b, iD d])] (refO R) (iA (findR R (a, b, d))) (refO R) := by
  have hm : (R.map factR).length = R.length := List.length_map _
  refine sat_of_vc (T := tiOf Try.prog) (E := E0) Try.func17 rfl rfl hE0 hm0 rfl ?_
  conv => whnf
  repeat (any_goals (first
    | exact True.intro
    | (refine Or.inl ?_; conv => whnf)
    | (refine And.intro (fun _ => ?_) tf; conv => whnf)
    | (refine And.intro ft (fun _ => ?_); conv => whnf)
    | (refine And.intro (by kernel_rfl) ?_; conv => whnf)
    | (refine And.intro (by decide) ?_; conv => whnf)
    | (refine And.intro (fun _ => ?_) (fun h => absurd h (by decide)); conv => whnf)
    | (refine And.intro (fun h => absurd h (by decide)) (fun _ => ?_); conv => whnf)
    | (refine And.intro (fun _ => ?_) (fun _ => ?_) <;> conv => whnf)))
  refine ⟨Nat, fun k => k ≤ R.length ∧ (R.take k).findIdx? (fun f => decide (f.1 = (a, b, d))) = none, fun k => ([(5, iA k), (3, .ptr 2 0), (0, .ptr 0 0)], [.cells [.own 1], .sl 5 (R.map factR), .cells [iA a, iA b, iA d]]), fun k => R.length - k, ⟨0, ⟨Nat.zero_le _, rfl⟩, ?_⟩, ?_⟩
  · all_goals refine ⟨[], ?_⟩
    repeat (any_goals (first | exact True.intro | exact rfl | with_reducible_and_instances rfl | exact (by kernel_rfl) | refine And.intro ?_ ?_))
    all_goals conv => whnf
  rintro k ⟨hk, hno⟩
  by_cases hlt : k < R.length
  · have hx : R[k]? = some R[k] := List.getElem?_eq_getElem hlt
    generalize R[k] = f at hx
    obtain ⟨⟨a', b', d'⟩, r, z⟩ := f
    have hkr : k < (R.map factR).length := by omega
    conv => whnf
    repeat (any_goals (first
      | exact True.intro
      | (refine ⟨k, rfl, hkr, ?_⟩; conv => whnf)
      | (refine ⟨_, map_get hx, ?_⟩; conv => whnf)
      | (refine Or.inl ?_; conv => whnf)
      | (refine And.intro (fun _ => ?_) tf; conv => whnf)
      | (refine And.intro ft (fun _ => ?_); conv => whnf)
      | (refine And.intro (by kernel_rfl) ?_; conv => whnf)
      | (refine And.intro (by decide) ?_; conv => whnf)
      | (refine And.intro (fun _ => ?_) (fun h => absurd h (by decide)); conv => whnf)
      | (refine And.intro (fun h => absurd h (by decide)) (fun _ => ?_); conv => whnf)
      | (refine And.intro (fun _ => ?_) (fun _ => ?_) <;> conv => whnf)
      | (refine ⟨_, _, eqF [1, 1, 1] (by kernel_rfl) rfl, ?_⟩; conv => whnf)))
    all_goals try (exfalso; simp only [decide_eq_true_eq, decide_eq_false_iff_not, Bool.not_eq_true', Bool.not_eq_false', Bool.not_eq_true, Bool.not_eq_false, beq_iff_eq, bne_iff_ne, beq_eq_false_iff_ne, bne_eq_false_iff_eq, ne_eq, Decidable.not_not] at *; first | omega | contradiction | (simp_all; done) | (simp_all; omega))
    · have h : (a' == a && (b' == b && d' == d)) = true := by assumption
      simp only [Bool.and_eq_true, beq_iff_eq] at h
      obtain ⟨rfl, rfl, rfl⟩ := h
      have e : findR R (a', b', d') = (k : Int) := by unfold findR; rw [idx_at hno hx (by simp)]
      rw [e]
      all_goals refine ⟨[], ?_⟩
      repeat (any_goals (first | exact True.intro | exact rfl | with_reducible_and_instances rfl | exact (by kernel_rfl) | refine And.intro ?_ ?_))
      all_goals conv => whnf
    · have h : (a' == a && (b' == b && d' == d)) = false := by assumption
      have hp : decide ((a', b', d') = (a, b, d)) = false := decide_eq_false fun e => by
        injection e with e1 e2
        injection e2 with e2 e3
        subst e1 e2 e3
        simp at h
      refine ⟨k + 1, ⟨hlt, idx_not hno hx hp⟩, show R.length - (k + 1) < R.length - k by omega, ?_⟩
      all_goals refine ⟨[], ?_⟩
      repeat (any_goals (first | exact True.intro | exact rfl | with_reducible_and_instances rfl | exact (by kernel_rfl) | refine And.intro ?_ ?_))
      all_goals conv => whnf
      exact wk1 (by omega)
  · have hke : k = R.length := by omega
    subst hke
    rw [List.take_length] at hno
    have e : findR R (a, b, d) = -1 := by unfold findR; rw [hno]
    rw [e]
    conv => whnf
    repeat (any_goals (first
      | exact True.intro
      | (refine Or.inl ?_; conv => whnf)
      | (refine And.intro (fun _ => ?_) tf; conv => whnf)
      | (refine And.intro ft (fun _ => ?_); conv => whnf)
      | (refine And.intro (by kernel_rfl) ?_; conv => whnf)
      | (refine And.intro (by decide) ?_; conv => whnf)
      | (refine And.intro (fun _ => ?_) (fun h => absurd h (by decide)); conv => whnf)
      | (refine And.intro (fun h => absurd h (by decide)) (fun _ => ?_); conv => whnf)
      | (refine And.intro (fun _ => ?_) (fun _ => ?_) <;> conv => whnf)))
    all_goals try (exfalso; simp only [decide_eq_true_eq, decide_eq_false_iff_not, Bool.not_eq_true', Bool.not_eq_false', Bool.not_eq_true, Bool.not_eq_false, beq_iff_eq, bne_iff_ne, beq_eq_false_iff_ne, bne_eq_false_iff_eq, ne_eq, Decidable.not_not] at *; first | omega | contradiction | (simp_all; done) | (simp_all; omega))
    all_goals refine ⟨[], ?_⟩
    repeat (any_goals (first | exact True.intro | exact rfl | with_reducible_and_instances rfl | exact (by kernel_rfl) | refine And.intro ?_ ?_))
    all_goals conv => whnf
end Go.Proofs.Ytefidbifgilekaa
/- ledger: the document's rows are compared. -/
namespace Go.Proofs.Ytefidbifgilekaa
set_option linter.unusedSimpArgs false
set_option linter.unusedVariables false
open Go.RowKit Go.Sort
set_option maxRecDepth 100000
abbrev rowV (f : FactP) : Array Value := #[.int .i64 f.1.1, .int .i64 f.1.2.1, .int .i64 f.1.2.2, .int .i64 f.2.1, .int .i64 f.2.2]
abbrev idV (x : Id3) : Array Value := #[.int .i64 x.1, .int .i64 x.2.1, .int .i64 x.2.2]
theorem part_id (f : FactP) (w : World) : (part 39 (rowV f) 0).run Try.prog w = .ok (.agg (idV f.1)) w := by
  simp [part, Try.isAgg39, Try.sizeOf39]
noncomputable def rowFs : List Field → Bool
  | [f1, f2, f3] => decide (f1.name ≠ "_") && Nat.beq f1.offset 0 && Nat.beq f1.type 39 && decide (f2.name ≠ "_") && Nat.beq f2.offset 3 && Nat.beq (tagT Try.prog f2.type) 1 && decide (f3.name ≠ "_") && Nat.beq f3.offset 4 && Nat.beq (tagT Try.prog f3.type) 1
  | _ => false
theorem id_eqIn (x y : Id3) (w : World) (n : Nat) : (Op.equalIn (n + 3) 39 (.agg (idV x)) (.agg (idV y))).run Try.prog w = .ok (x.1 == y.1 && (x.2.1 == y.2.1 && x.2.2 == y.2.2)) w := by
  have hb : flatB Try.prog 39 [1, 1, 1] = true := by kernel_rfl
  unfold flatB at hb
  split at hb
  · rename_i fs hfs
    simp only [Bool.and_eq_true, Bool.not_eq_true'] at hb
    obtain ⟨⟨h1, h2⟩, h3⟩ := hb
    have hff : Try.prog.fieldsOf 39 = fs := by simp [Program.fieldsOf, hfs]
    rw [run_equalIn_struct w (n + 2) 39 _ _ (by rw [hff]; exact hfs) h1, hff]
    exact flatGo_run (n + 1) (xs := [iD x.1, iD x.2.1, iD x.2.2]) (ys := [iD y.1, iD y.2.1, iD y.2.2]) h3 rfl (fun j hj => by
      match j, hj with
      | 0, _ => rfl
      | 1, _ => rfl
      | 2, _ => rfl) (fun j hj => by
      match j, hj with
      | 0, _ => rfl
      | 1, _ => rfl
      | 2, _ => rfl)
  · cases hb
theorem row_eqIn (f g : FactP) (w : World) : (Op.equalIn 10000 41 (.agg (rowV f)) (.agg (rowV g))).run Try.prog w = .ok (decide (f = g)) w := by
  rw [run_equalIn_struct w 9999 41 _ _ (by kernel_rfl) (by kernel_rfl)]
  have hfs : rowFs (Try.prog.fieldsOf 41).toList = true := by kernel_rfl
  generalize (Try.prog.fieldsOf 41).toList = fs at hfs
  have hd : decide (f = g) = ((f.1.1 == g.1.1 && (f.1.2.1 == g.1.2.1 && f.1.2.2 == g.1.2.2)) && (f.2.1 == g.2.1 && f.2.2 == g.2.2)) := by
    obtain ⟨⟨a, b, d⟩, r, z⟩ := f
    obtain ⟨⟨a', b', d'⟩, r', z'⟩ := g
    rw [Bool.eq_iff_iff]
    simp only [decide_eq_true_eq, Prod.mk.injEq, Bool.and_eq_true, beq_iff_eq]
  rw [hd]
  match fs, hfs with
  | [f1, f2, f3], hfs =>
    simp only [rowFs, Bool.and_eq_true, decide_eq_true_eq] at hfs
    obtain ⟨⟨⟨⟨⟨⟨⟨⟨a1, a2⟩, a3⟩, b1⟩, b2⟩, b3⟩, c1⟩, c2⟩, c3⟩ := hfs
    have a2 := Nat.eq_of_beq_eq_true a2
    have a3 := Nat.eq_of_beq_eq_true a3
    have b2 := Nat.eq_of_beq_eq_true b2
    have b3 := Nat.eq_of_beq_eq_true b3
    have c2 := Nat.eq_of_beq_eq_true c2
    have c3 := Nat.eq_of_beq_eq_true c3
    have p1 := part_id f w
    have p2 := part_id g w
    have p3 : (part f2.type (rowV f) 3).run Try.prog w = .ok (.int .i64 f.2.1) w := part_tag b3 (by omega) rfl
    have p4 : (part f2.type (rowV g) 3).run Try.prog w = .ok (.int .i64 g.2.1) w := part_tag b3 (by omega) rfl
    have p5 : (part f3.type (rowV f) 4).run Try.prog w = .ok (.int .i64 f.2.2) w := part_tag c3 (by omega) rfl
    have p6 : (part f3.type (rowV g) 4).run Try.prog w = .ok (.int .i64 g.2.2) w := part_tag c3 (by omega) rfl
    have q2 : (Op.equalIn 9999 f2.type (.int .i64 f.2.1) (.int .i64 g.2.1)).run Try.prog w = .ok (f.2.1 == g.2.1) w := eqV_run (x := iD f.2.1) (y := iD g.2.1) rfl b3 9998
    have q3 : (Op.equalIn 9999 f3.type (.int .i64 f.2.2) (.int .i64 g.2.2)).run Try.prog w = .ok (f.2.2 == g.2.2) w := eqV_run (x := iD f.2.2) (y := iD g.2.2) rfl c3 9998
    have q1 : (Op.equalIn 9999 39 (.agg (idV f.1)) (.agg (idV g.1))).run Try.prog w = _ := id_eqIn f.1 g.1 w 9996
    have r0 : (Op.eqFields 9999 (rowV f) (rowV g) []).run Try.prog w = .ok true w := by rw [Op.eqFields]; simp
    have r3 : (Op.eqFields 9999 (rowV f) (rowV g) [f3]).run Try.prog w = .ok (f.2.2 == g.2.2) w := by
      rw [Op.eqFields, if_pos c1, c2]
      simp only [Sem.run_bind, p5, p6, Result.andThen_ok, q3]
      cases f.2.2 == g.2.2 <;> simp [r0]
    have r2 : (Op.eqFields 9999 (rowV f) (rowV g) [f2, f3]).run Try.prog w = .ok (f.2.1 == g.2.1 && f.2.2 == g.2.2) w := by
      rw [Op.eqFields, if_pos b1, b2]
      simp only [Sem.run_bind, p3, p4, Result.andThen_ok, q2]
      cases f.2.1 == g.2.1 <;> simp [r3]
    rw [Op.eqFields, if_pos a1, a2, a3]
    simp only [Sem.run_bind, p1, p2, Result.andThen_ok, q1]
    generalize (f.1.1 == g.1.1 && (f.1.2.1 == g.1.2.1 && f.1.2.2 == g.1.2.2)) = bb
    cases bb <;> simp [r2]
theorem row_flat (f : FactP) : FlatVs (factR f) (rowV f).toList := by repeat constructor
theorem neRow {L : List AObj} {ty n : Nat} {x y : Operand} {t' : TypeId} (f g : FactP) : Does Try.prog (.binOp .neq 41 x y t') ty L n [.d (.agg (factR f)), .d (.agg (factR g))] e0 (bA (!decide (f = g))) :=
  does_ra2 rfl fun o w F ρ ev u v ho h1 h2 hu hv => by
    have := FlatW.eq (.d (.agg (row_flat f))) hu
    subst this
    have := FlatW.eq (.d (.agg (row_flat g))) hv
    subst this
    exact exec_eq ho h1 h2 (run_eqGuard_agg w .neq _ _ _ _ _ (by kernel_rfl)) (by rw [run_neq_struct, row_eqIn]; rfl)
theorem eqRow {L : List AObj} {ty n : Nat} {x y : Operand} {t' : TypeId} (f g : FactP) : Does Try.prog (.binOp .eql 41 x y t') ty L n [.d (.agg (factR f)), .d (.agg (factR g))] e0 (bA (decide (f = g))) :=
  does_ra2 rfl fun o w F ρ ev u v ho h1 h2 hu hv => by
    have := FlatW.eq (.d (.agg (row_flat f))) hu
    subst this
    have := FlatW.eq (.d (.agg (row_flat g))) hv
    subst this
    exact exec_eq ho h1 h2 (run_eqGuard_agg w .eql _ _ _ _ _ (by kernel_rfl)) (by rw [run_eql_struct, row_eqIn]; rfl)
end Go.Proofs.Ytefidbifgilekaa
/- ledger: the document's Note. -/
namespace Go.Proofs.Ytefidbifgilekaa
set_option linter.unusedSimpArgs false
set_option linter.unusedVariables false
open Go.RowKit Go.Sort
set_option maxRecDepth 100000
/-- Where a row comes to stand. -/
def insAt (R : List FactP) (x : Id3) : Nat → Nat
  | 0 => 0
  | k + 1 => if ltI x ((R[k]?.getD ((0, 0, 0), (0, 0))).1) then insAt R x k else k + 1
def insR (R : List FactP) (f : FactP) : List FactP := R.take (insAt R f.1 R.length) ++ f :: R.drop (insAt R f.1 R.length)
theorem insAt_le (R : List FactP) (x : Id3) : ∀ k, insAt R x k ≤ k
  | 0 => Nat.le_refl _
  | k + 1 => by
    unfold insAt
    split
    · exact Nat.le_succ_of_le (insAt_le R x k)
    · exact Nat.le_refl _
theorem set_split {Q R : List FactP} {k : Nat} {f : FactP} (hl : k < Q.length) (h1 : Q.take k = R.take k) (h2 : Q.drop (k + 1) = R.drop k) : Q.set k f = R.take k ++ f :: R.drop k := by
  rw [List.set_eq_take_append_cons_drop, if_pos hl, h1, h2]
theorem noteRef_new {R : List FactP} {a b d r z : Int} (hn : R.length ≤ 1000000) (hb : ¬ badN a b d (r, z)) (hf : findR R (a, b, d) = -1) : Sat Try.prog 13 [.ptr 0 0, .d (.agg [iD a, iD b, iD d, iD r, iD z])] (refO R) (iA 0) [.cells [.own 2], .dead, .sl 5 ((insR R ((a, b, d), (r, z))).map factR)] := by
  have fs := find_sat R hn a b d
  rw [hf] at fs
  have hm : (R.map factR).length = R.length := List.length_map _
  unfold badN at hb
  simp only at hb
  have hb1 : (([] : List (List D)).length + (R.map factR).length) * 40 ≤ 140737488355328 := by simp; omega
  have hb2 : ((R.map factR).length + 1) * 40 ≤ 140737488355328 := by omega
  refine sat_of_vc (T := tiOf Try.prog) (E := E0) Try.func13 rfl rfl hE0 hm0 rfl ?_
  conv => whnf
  repeat (any_goals (first
    | exact True.intro
    | (refine And.intro (fun _ => ?_) tf; conv => whnf)
    | (refine And.intro ft (fun _ => ?_); conv => whnf)
    | (refine And.intro (by kernel_rfl) ?_; conv => whnf)
    | (refine And.intro (by decide) ?_; conv => whnf)
    | (refine And.intro (fun _ => ?_) (fun h => absurd h (by decide)); conv => whnf)
    | (refine And.intro (fun h => absurd h (by decide)) (fun _ => ?_); conv => whnf)
    | (refine And.intro (fun _ => ?_) (fun _ => ?_) <;> conv => whnf)))
  refine Or.inr ⟨Unit, fun _ => True, fun _ => ([(3, .ptr 2 0), (0, .ptr 0 0)], [.cells [.own 1], .sl 5 (R.map factR), .cells [iA a, iA b, iA d, iA r, iA z]]), ?_, fun _ _ => ?_⟩
  · conv => whnf
    repeat (any_goals (first
      | exact True.intro
      | (refine And.intro (fun _ => ?_) tf; conv => whnf)
      | (refine And.intro ft (fun _ => ?_); conv => whnf)
      | (refine And.intro (by kernel_rfl) ?_; conv => whnf)
      | (refine And.intro (by decide) ?_; conv => whnf)
      | (refine And.intro (fun _ => ?_) (fun h => absurd h (by decide)); conv => whnf)
      | (refine And.intro (fun h => absurd h (by decide)) (fun _ => ?_); conv => whnf)
      | (refine And.intro (fun _ => ?_) (fun _ => ?_) <;> conv => whnf)))
    all_goals try (exfalso; simp only [decide_eq_true_eq, decide_eq_false_iff_not, Bool.not_eq_true', Bool.not_eq_false', Bool.not_eq_true, Bool.not_eq_false, beq_iff_eq, bne_iff_ne, beq_eq_false_iff_ne, bne_eq_false_iff_eq, ne_eq, Decidable.not_not] at *; first | omega | contradiction | (simp_all; done) | (simp_all; omega))
    all_goals try (refine Or.inl ?_; conv => whnf)
    repeat (any_goals (first
      | exact True.intro
      | (refine And.intro (fun _ => ?_) tf; conv => whnf)
      | (refine And.intro ft (fun _ => ?_); conv => whnf)
      | (refine And.intro (by kernel_rfl) ?_; conv => whnf)
      | (refine And.intro (by decide) ?_; conv => whnf)
      | (refine And.intro (fun _ => ?_) (fun h => absurd h (by decide)); conv => whnf)
      | (refine And.intro (fun h => absurd h (by decide)) (fun _ => ?_); conv => whnf)
      | (refine And.intro (fun _ => ?_) (fun _ => ?_) <;> conv => whnf)))
    all_goals try (exfalso; simp only [decide_eq_true_eq, decide_eq_false_iff_not, Bool.not_eq_true', Bool.not_eq_false', Bool.not_eq_true, Bool.not_eq_false, beq_iff_eq, bne_iff_ne, beq_eq_false_iff_ne, bne_eq_false_iff_eq, ne_eq, Decidable.not_not] at *; first | omega | contradiction | (simp_all; done) | (simp_all; omega))
    all_goals refine ⟨(), trivial, ?_⟩
    all_goals refine ⟨[], ?_⟩
    repeat (any_goals (first | exact True.intro | exact rfl | with_reducible_and_instances rfl | exact (by kernel_rfl) | refine And.intro ?_ ?_))
    all_goals conv => whnf
  conv => whnf
  repeat (any_goals (first
    | exact True.intro
    | (refine And.intro (fun _ => ?_) tf; conv => whnf)
    | (refine And.intro ft (fun _ => ?_); conv => whnf)
    | (refine And.intro (by kernel_rfl) ?_; conv => whnf)
    | (refine And.intro (by decide) ?_; conv => whnf)
    | (refine And.intro (fun _ => ?_) (fun h => absurd h (by decide)); conv => whnf)
    | (refine And.intro (fun h => absurd h (by decide)) (fun _ => ?_); conv => whnf)
    | (refine And.intro (fun _ => ?_) (fun _ => ?_) <;> conv => whnf)
    | (refine ⟨_, _, fs.at2 0 1 rfl rfl rfl rfl rfl, ?_⟩; conv => whnf)
    | (refine ⟨_, _, neRow _ _, ?_⟩; conv => whnf)))
  all_goals try (exfalso; simp only [decide_eq_true_eq, decide_eq_false_iff_not, Bool.not_eq_true', Bool.not_eq_false', Bool.not_eq_true, Bool.not_eq_false, beq_iff_eq, bne_iff_ne, beq_eq_false_iff_ne, bne_eq_false_iff_eq, ne_eq, Decidable.not_not] at *; first | omega | contradiction | (simp_all; done) | (simp_all; omega))
  all_goals try (refine Or.inl ?_; conv => whnf)
  repeat (any_goals (first
    | exact True.intro
    | (refine And.intro (fun _ => ?_) tf; conv => whnf)
    | (refine And.intro ft (fun _ => ?_); conv => whnf)
    | (refine And.intro (by kernel_rfl) ?_; conv => whnf)
    | (refine And.intro (by decide) ?_; conv => whnf)
    | (refine And.intro (fun _ => ?_) (fun h => absurd h (by decide)); conv => whnf)
    | (refine And.intro (fun h => absurd h (by decide)) (fun _ => ?_); conv => whnf)
    | (refine And.intro (fun _ => ?_) (fun _ => ?_) <;> conv => whnf)
    | (refine ⟨_, _, fs.at2 0 1 rfl rfl rfl rfl rfl, ?_⟩; conv => whnf)
    | (refine ⟨_, _, neRow _ _, ?_⟩; conv => whnf)))
  all_goals try (exfalso; simp only [decide_eq_true_eq, decide_eq_false_iff_not, Bool.not_eq_true', Bool.not_eq_false', Bool.not_eq_true, Bool.not_eq_false, beq_iff_eq, bne_iff_ne, beq_eq_false_iff_ne, bne_eq_false_iff_eq, ne_eq, Decidable.not_not] at *; first | omega | contradiction | (simp_all; done) | (simp_all; omega))
  all_goals try (refine Or.inl ?_; conv => whnf)
  repeat (any_goals (first
    | exact True.intro
    | (refine And.intro (fun _ => ?_) tf; conv => whnf)
    | (refine And.intro ft (fun _ => ?_); conv => whnf)
    | (refine And.intro (by kernel_rfl) ?_; conv => whnf)
    | (refine And.intro (by decide) ?_; conv => whnf)
    | (refine And.intro (fun _ => ?_) (fun h => absurd h (by decide)); conv => whnf)
    | (refine And.intro (fun h => absurd h (by decide)) (fun _ => ?_); conv => whnf)
    | (refine And.intro (fun _ => ?_) (fun _ => ?_) <;> conv => whnf)
    | (refine ⟨_, _, ap 5 40 (by kernel_rfl) rfl rfl hb1, ?_⟩; conv => whnf)
    | (refine ⟨_, _, ap 5 40 (by kernel_rfl) rfl rfl hb2, ?_⟩; conv => whnf)))
  all_goals try (exfalso; simp only [decide_eq_true_eq, decide_eq_false_iff_not, Bool.not_eq_true', Bool.not_eq_false', Bool.not_eq_true, Bool.not_eq_false, beq_iff_eq, bne_iff_ne, beq_eq_false_iff_ne, bne_eq_false_iff_eq, ne_eq, Decidable.not_not] at *; first | omega | contradiction | (simp_all; done) | (simp_all; omega))
  all_goals try (refine Or.inl ?_; conv => whnf)
  repeat (any_goals (first
    | exact True.intro
    | (refine And.intro (fun _ => ?_) tf; conv => whnf)
    | (refine And.intro ft (fun _ => ?_); conv => whnf)
    | (refine And.intro (by kernel_rfl) ?_; conv => whnf)
    | (refine And.intro (by decide) ?_; conv => whnf)
    | (refine And.intro (fun _ => ?_) (fun h => absurd h (by decide)); conv => whnf)
    | (refine And.intro (fun h => absurd h (by decide)) (fun _ => ?_); conv => whnf)
    | (refine And.intro (fun _ => ?_) (fun _ => ?_) <;> conv => whnf)
    | (refine ⟨_, _, ap 5 40 (by kernel_rfl) rfl rfl hb1, ?_⟩; conv => whnf)
    | (refine ⟨_, _, ap 5 40 (by kernel_rfl) rfl rfl hb2, ?_⟩; conv => whnf)))
  have hR0 : (R ++ [((a, b, d), (r, z))]).map factR = [] ++ R.map factR ++ [factR ((a, b, d), (r, z))] := by rw [List.map_append, List.nil_append]; rfl
  refine ⟨Nat × List FactP, fun y => y.1 ≤ R.length ∧ y.2.length = R.length + 1 ∧ y.2.take y.1 = R.take y.1 ∧ y.2.drop (y.1 + 1) = R.drop y.1 ∧ insAt R (a, b, d) R.length = insAt R (a, b, d) y.1, fun y => ([(6, iA y.1), (3, .ptr 2 0), (0, .ptr 0 0)], [.cells [.own 3], .dead, .cells [iA a, iA b, iA d, iA r, iA z], .sl 5 (y.2.map factR)]), fun y => y.1, ⟨(R.length, R ++ [((a, b, d), (r, z))]), ⟨Nat.le_refl _, by simp, by simp, by simp, rfl⟩, ?_⟩, ?_⟩
  · refine (show Weak 2 _ _ [(6, iA R.length), (3, .ptr 2 0), (0, .ptr 0 0)] [.cells [.own 3], .dead, .cells [iA a, iA b, iA d, iA r, iA z], .sl 5 ((R ++ [((a, b, d), (r, z))]).map factR)] from ?_)
    rw [hR0]
    all_goals refine ⟨[(3, 6)], ?_⟩
    repeat (any_goals (first | exact True.intro | exact rfl | with_reducible_and_instances rfl | exact (by kernel_rfl) | refine And.intro ?_ ?_))
    all_goals conv => whnf
    all_goals rw [hm]
  rintro ⟨k, Q⟩ ⟨hk, hQl, hQt, hQd, hQi⟩
  replace hk : k ≤ R.length := hk
  replace hQl : Q.length = R.length + 1 := hQl
  replace hQt : Q.take k = R.take k := hQt
  replace hQd : Q.drop (k + 1) = R.drop k := hQd
  replace hQi : insAt R (a, b, d) R.length = insAt R (a, b, d) k := hQi
  have hmQ : (Q.map factR).length = R.length + 1 := by rw [List.length_map, hQl]
  rcases k with _ | j
  · obtain ⟨⟨⟨ya, yb, yd⟩, yr, yz⟩, hy⟩ : ∃ y, Q[0]? = some y := ⟨Q[0]'(by omega), List.getElem?_eq_getElem _⟩
    have hl0 : 0 < (Q.map factR).length := by omega
    have hin : insR R ((a, b, d), (r, z)) = Q.set 0 ((a, b, d), (r, z)) := by
      rw [set_split (by omega) hQt hQd]; unfold insR; rw [hQi]; rfl
    rw [hin]
    conv => whnf
    repeat (any_goals (first
      | exact True.intro
      | (refine And.intro (fun _ => ?_) tf; conv => whnf)
      | (refine And.intro ft (fun _ => ?_); conv => whnf)
      | (refine And.intro (by kernel_rfl) ?_; conv => whnf)
      | (refine And.intro (by decide) ?_; conv => whnf)
      | (refine And.intro (fun _ => ?_) (fun h => absurd h (by decide)); conv => whnf)
      | (refine And.intro (fun h => absurd h (by decide)) (fun _ => ?_); conv => whnf)
      | (refine And.intro (fun _ => ?_) (fun _ => ?_) <;> conv => whnf)))
    all_goals try (exfalso; simp only [decide_eq_true_eq, decide_eq_false_iff_not, Bool.not_eq_true', Bool.not_eq_false', Bool.not_eq_true, Bool.not_eq_false, beq_iff_eq, bne_iff_ne, beq_eq_false_iff_ne, bne_eq_false_iff_eq, ne_eq, Decidable.not_not] at *; first | omega | contradiction | (simp_all; done) | (simp_all; omega))
    all_goals try (refine Or.inl ?_; conv => whnf)
    repeat (any_goals (first
      | exact True.intro
      | (refine And.intro (fun _ => ?_) tf; conv => whnf)
      | (refine And.intro ft (fun _ => ?_); conv => whnf)
      | (refine And.intro (by kernel_rfl) ?_; conv => whnf)
      | (refine And.intro (by decide) ?_; conv => whnf)
      | (refine And.intro (fun _ => ?_) (fun h => absurd h (by decide)); conv => whnf)
      | (refine And.intro (fun h => absurd h (by decide)) (fun _ => ?_); conv => whnf)
      | (refine And.intro (fun _ => ?_) (fun _ => ?_) <;> conv => whnf)))
    all_goals try (exfalso; simp only [decide_eq_true_eq, decide_eq_false_iff_not, Bool.not_eq_true', Bool.not_eq_false', Bool.not_eq_true, Bool.not_eq_false, beq_iff_eq, bne_iff_ne, beq_eq_false_iff_ne, bne_eq_false_iff_eq, ne_eq, Decidable.not_not] at *; first | omega | contradiction | (simp_all; done) | (simp_all; omega))
    all_goals try (refine Or.inl ?_; conv => whnf)
    repeat (any_goals (first
      | exact True.intro
      | (refine ⟨0, rfl, hl0, ?_⟩; conv => whnf)
      | (refine And.intro (Nat.le_refl 5) ?_; conv => whnf)
      | (refine ⟨_, _, map_get hy, rfl, ?_⟩; conv => whnf)
      | (refine And.intro (fun _ => ?_) tf; conv => whnf)
      | (refine And.intro ft (fun _ => ?_); conv => whnf)
      | (refine And.intro (by kernel_rfl) ?_; conv => whnf)
      | (refine And.intro (by decide) ?_; conv => whnf)
      | (refine And.intro (fun _ => ?_) (fun h => absurd h (by decide)); conv => whnf)
      | (refine And.intro (fun h => absurd h (by decide)) (fun _ => ?_); conv => whnf)
      | (refine And.intro (fun _ => ?_) (fun _ => ?_) <;> conv => whnf)))
    all_goals try (exfalso; simp only [decide_eq_true_eq, decide_eq_false_iff_not, Bool.not_eq_true', Bool.not_eq_false', Bool.not_eq_true, Bool.not_eq_false, beq_iff_eq, bne_iff_ne, beq_eq_false_iff_ne, bne_eq_false_iff_eq, ne_eq, Decidable.not_not] at *; first | omega | contradiction | (simp_all; done) | (simp_all; omega))
    all_goals try (refine Or.inl ?_; conv => whnf)
    repeat (any_goals (first
      | exact True.intro
      | (refine ⟨0, rfl, hl0, ?_⟩; conv => whnf)
      | (refine And.intro (Nat.le_refl 5) ?_; conv => whnf)
      | (refine ⟨_, _, map_get hy, rfl, ?_⟩; conv => whnf)
      | (refine And.intro (fun _ => ?_) tf; conv => whnf)
      | (refine And.intro ft (fun _ => ?_); conv => whnf)
      | (refine And.intro (by kernel_rfl) ?_; conv => whnf)
      | (refine And.intro (by decide) ?_; conv => whnf)
      | (refine And.intro (fun _ => ?_) (fun h => absurd h (by decide)); conv => whnf)
      | (refine And.intro (fun h => absurd h (by decide)) (fun _ => ?_); conv => whnf)
      | (refine And.intro (fun _ => ?_) (fun _ => ?_) <;> conv => whnf)))
    all_goals try (exfalso; simp only [decide_eq_true_eq, decide_eq_false_iff_not, Bool.not_eq_true', Bool.not_eq_false', Bool.not_eq_true, Bool.not_eq_false, beq_iff_eq, bne_iff_ne, beq_eq_false_iff_ne, bne_eq_false_iff_eq, ne_eq, Decidable.not_not] at *; first | omega | contradiction | (simp_all; done) | (simp_all; omega))
    all_goals refine ⟨[(2, 3)], ?_⟩
    repeat (any_goals (first | exact True.intro | exact rfl | with_reducible_and_instances rfl | exact (by kernel_rfl) | refine And.intro ?_ ?_))
    all_goals conv => whnf
    all_goals (show AObj.sl 5 ((Q.map factR).set 0 (factR ((a, b, d), (r, z)))) = _; rw [List.map_set])
  · have hjR : R[j]? = some R[j] := List.getElem?_eq_getElem (by omega)
    have hjQ : Q[j]? = some R[j] := by
      have := congrArg (fun l => l[j]?) hQt
      simp only [List.getElem?_take, if_pos (Nat.lt_succ_self j)] at this
      rw [this]; exact hjR
    generalize R[j] = g at hjR hjQ
    obtain ⟨⟨a', b', d'⟩, r', z'⟩ := g
    have bs := before_sat a b d a' b' d'
    obtain ⟨⟨⟨ya, yb, yd⟩, yr, yz⟩, hy⟩ : ∃ y, Q[j + 1]? = some y := ⟨Q[j + 1]'(by omega), List.getElem?_eq_getElem _⟩
    have hwj : IntKind.i64.wrap (((j + 1 : Nat) : Int) - 1) = (j : Int) := by rw [wi (by omega) (by omega)]; omega
    have hjl : j < (Q.map factR).length := by omega
    have hjl1 : j + 1 < (Q.map factR).length := by omega
    conv => whnf
    repeat (any_goals (first
      | exact True.intro
      | (refine ⟨j, hwj, hjl, ?_⟩; conv => whnf)
      | (refine ⟨_, map_get hjQ, ?_⟩; conv => whnf)
      | (refine And.intro (fun _ => ?_) tf; conv => whnf)
      | (refine And.intro ft (fun _ => ?_); conv => whnf)
      | (refine And.intro (by kernel_rfl) ?_; conv => whnf)
      | (refine And.intro (by decide) ?_; conv => whnf)
      | (refine And.intro (fun _ => ?_) (fun h => absurd h (by decide)); conv => whnf)
      | (refine And.intro (fun h => absurd h (by decide)) (fun _ => ?_); conv => whnf)
      | (refine And.intro (fun _ => ?_) (fun _ => ?_) <;> conv => whnf)
      | (refine ⟨_, _, bs.pu rfl rfl, ?_⟩; conv => whnf)))
    all_goals try (exfalso; simp only [decide_eq_true_eq, decide_eq_false_iff_not, Bool.not_eq_true', Bool.not_eq_false', Bool.not_eq_true, Bool.not_eq_false, beq_iff_eq, bne_iff_ne, beq_eq_false_iff_ne, bne_eq_false_iff_eq, ne_eq, Decidable.not_not] at *; first | omega | contradiction | (simp_all; done) | (simp_all; omega))
    all_goals try (refine Or.inl ?_; conv => whnf)
    repeat (any_goals (first
      | exact True.intro
      | (refine ⟨j, hwj, hjl, ?_⟩; conv => whnf)
      | (refine ⟨_, map_get hjQ, ?_⟩; conv => whnf)
      | (refine And.intro (fun _ => ?_) tf; conv => whnf)
      | (refine And.intro ft (fun _ => ?_); conv => whnf)
      | (refine And.intro (by kernel_rfl) ?_; conv => whnf)
      | (refine And.intro (by decide) ?_; conv => whnf)
      | (refine And.intro (fun _ => ?_) (fun h => absurd h (by decide)); conv => whnf)
      | (refine And.intro (fun h => absurd h (by decide)) (fun _ => ?_); conv => whnf)
      | (refine And.intro (fun _ => ?_) (fun _ => ?_) <;> conv => whnf)
      | (refine ⟨_, _, bs.pu rfl rfl, ?_⟩; conv => whnf)))
    all_goals try (exfalso; simp only [decide_eq_true_eq, decide_eq_false_iff_not, Bool.not_eq_true', Bool.not_eq_false', Bool.not_eq_true, Bool.not_eq_false, beq_iff_eq, bne_iff_ne, beq_eq_false_iff_ne, bne_eq_false_iff_eq, ne_eq, Decidable.not_not] at *; first | omega | contradiction | (simp_all; done) | (simp_all; omega))
    all_goals try (refine Or.inl ?_; conv => whnf)
    repeat (any_goals (first
      | exact True.intro
      | (refine ⟨j, hwj, hjl, ?_⟩; conv => whnf)
      | (refine ⟨_, map_get hjQ, ?_⟩; conv => whnf)
      | (refine ⟨j + 1, rfl, hjl1, ?_⟩; conv => whnf)
      | (refine And.intro (Nat.le_refl 5) ?_; conv => whnf)
      | (refine ⟨_, _, map_get hy, rfl, ?_⟩; conv => whnf)
      | (refine And.intro (fun _ => ?_) tf; conv => whnf)
      | (refine And.intro ft (fun _ => ?_); conv => whnf)
      | (refine And.intro (by kernel_rfl) ?_; conv => whnf)
      | (refine And.intro (by decide) ?_; conv => whnf)
      | (refine And.intro (fun _ => ?_) (fun h => absurd h (by decide)); conv => whnf)
      | (refine And.intro (fun h => absurd h (by decide)) (fun _ => ?_); conv => whnf)
      | (refine And.intro (fun _ => ?_) (fun _ => ?_) <;> conv => whnf)
      | (refine ⟨_, _, bs.pu rfl rfl, ?_⟩; conv => whnf)))
    all_goals try (exfalso; simp only [decide_eq_true_eq, decide_eq_false_iff_not, Bool.not_eq_true', Bool.not_eq_false', Bool.not_eq_true, Bool.not_eq_false, beq_iff_eq, bne_iff_ne, beq_eq_false_iff_ne, bne_eq_false_iff_eq, ne_eq, Decidable.not_not] at *; first | omega | contradiction | (simp_all; done) | (simp_all; omega))
    all_goals try (refine Or.inl ?_; conv => whnf)
    repeat (any_goals (first
      | exact True.intro
      | (refine ⟨j, hwj, hjl, ?_⟩; conv => whnf)
      | (refine ⟨_, map_get hjQ, ?_⟩; conv => whnf)
      | (refine ⟨j + 1, rfl, hjl1, ?_⟩; conv => whnf)
      | (refine And.intro (Nat.le_refl 5) ?_; conv => whnf)
      | (refine ⟨_, _, map_get hy, rfl, ?_⟩; conv => whnf)
      | (refine And.intro (fun _ => ?_) tf; conv => whnf)
      | (refine And.intro ft (fun _ => ?_); conv => whnf)
      | (refine And.intro (by kernel_rfl) ?_; conv => whnf)
      | (refine And.intro (by decide) ?_; conv => whnf)
      | (refine And.intro (fun _ => ?_) (fun h => absurd h (by decide)); conv => whnf)
      | (refine And.intro (fun h => absurd h (by decide)) (fun _ => ?_); conv => whnf)
      | (refine And.intro (fun _ => ?_) (fun _ => ?_) <;> conv => whnf)
      | (refine ⟨_, _, bs.pu rfl rfl, ?_⟩; conv => whnf)))
    all_goals try (exfalso; simp only [decide_eq_true_eq, decide_eq_false_iff_not, Bool.not_eq_true', Bool.not_eq_false', Bool.not_eq_true, Bool.not_eq_false, beq_iff_eq, bne_iff_ne, beq_eq_false_iff_ne, bne_eq_false_iff_eq, ne_eq, Decidable.not_not] at *; first | omega | contradiction | (simp_all; done) | (simp_all; omega))
    · have hlt : ltI (a, b, d) (a', b', d') := of_decide_eq_true ‹decide (ltI (a, b, d) (a', b', d')) = true›
      have hi : insAt R (a, b, d) (j + 1) = insAt R (a, b, d) j := by
        show (if ltI _ _ then _ else _) = _
        rw [hjR]; exact if_pos hlt
      have ht : (Q.set (j + 1) ((a', b', d'), (r', z'))).take j = R.take j := by
        rw [List.take_set_of_le (by omega)]
        have := congrArg (List.take j) hQt
        rw [List.take_take, List.take_take, Nat.min_eq_left (by omega)] at this
        exact this
      have hd : (Q.set (j + 1) ((a', b', d'), (r', z'))).drop (j + 1) = R.drop j := by
        have e1 : R.drop j = ((a', b', d'), (r', z')) :: R.drop (j + 1) := by
          have h := List.getElem?_eq_some_iff.1 hjR
          obtain ⟨h1, h2⟩ := h
          rw [List.drop_eq_getElem_cons h1, h2]
        rw [e1, ← hQd, List.set_eq_take_append_cons_drop, if_pos (by omega), List.drop_append_of_le_length (by rw [List.length_take]; omega), List.drop_eq_nil_of_le (by rw [List.length_take]; omega)]
        rfl
      refine ⟨(j, Q.set (j + 1) ((a', b', d'), (r', z'))), ⟨by show j ≤ R.length; omega, by show (Q.set _ _).length = _; rw [List.length_set, hQl], ht, hd, by rw [hQi, hi]⟩, Nat.lt_succ_self j, ?_⟩
      refine (show Weak 2 _ _ [(6, iA (j : Int)), (3, .ptr 2 0), (0, .ptr 0 0)] [.cells [.own 3], .dead, .cells [iA a, iA b, iA d, iA r, iA z], .sl 5 ((Q.set (j + 1) ((a', b', d'), (r', z'))).map factR)] from ?_)
      rw [List.map_set]
      all_goals refine ⟨[], ?_⟩
      repeat (any_goals (first | exact True.intro | exact rfl | with_reducible_and_instances rfl | exact (by kernel_rfl) | refine And.intro ?_ ?_))
      all_goals conv => whnf
      all_goals exact congrArg (fun z => (.d (.v (.int .i64 z)) : AV)) hwj
    · have hlt : ¬ ltI (a, b, d) (a', b', d') := of_decide_eq_false ‹decide (ltI (a, b, d) (a', b', d')) = false›
      have hi : insAt R (a, b, d) (j + 1) = j + 1 := by
        show (if ltI _ _ then _ else _) = _
        rw [hjR]; exact if_neg hlt
      have hin : insR R ((a, b, d), (r, z)) = Q.set (j + 1) ((a, b, d), (r, z)) := by
        rw [set_split (by omega) hQt hQd]; unfold insR; rw [hQi, hi]
      rw [hin]
      all_goals refine ⟨[(2, 3)], ?_⟩
      repeat (any_goals (first | exact True.intro | exact rfl | with_reducible_and_instances rfl | exact (by kernel_rfl) | refine And.intro ?_ ?_))
      all_goals conv => whnf
      all_goals (show AObj.sl 5 ((Q.map factR).set (j + 1) (factR ((a, b, d), (r, z)))) = _; rw [List.map_set])
end Go.Proofs.Ytefidbifgilekaa
/- ledger: the document's Note of a bad row, and of a row that is there. -/
namespace Go.Proofs.Ytefidbifgilekaa
set_option linter.unusedSimpArgs false
set_option linter.unusedVariables false
open Go.RowKit Go.Sort
set_option maxRecDepth 100000
theorem noteRef_bad {R : List FactP} {a b d r z : Int} (hb : badN a b d (r, z)) : Sat Try.prog 13 [.ptr 0 0, .d (.agg [iD a, iD b, iD d, iD r, iD z])] (refO R) (iA 10) (refO R) := by
  unfold badN at hb
  simp only at hb
  refine sat_of_vc (T := tiOf Try.prog) (E := E0) Try.func13 rfl rfl hE0 hm0 rfl ?_
  conv => whnf
  repeat (any_goals (first
    | exact True.intro
    | (refine And.intro (fun _ => ?_) tf; conv => whnf)
    | (refine And.intro ft (fun _ => ?_); conv => whnf)
    | (refine And.intro (by kernel_rfl) ?_; conv => whnf)
    | (refine And.intro (by decide) ?_; conv => whnf)
    | (refine And.intro (fun _ => ?_) (fun h => absurd h (by decide)); conv => whnf)
    | (refine And.intro (fun h => absurd h (by decide)) (fun _ => ?_); conv => whnf)
    | (refine And.intro (fun _ => ?_) (fun _ => ?_) <;> conv => whnf)))
  refine Or.inr ⟨Unit, fun _ => False, fun _ => ([], []), ?_, fun _ h => h.elim⟩
  conv => whnf
  repeat (any_goals (first
    | exact True.intro
    | (refine And.intro (fun _ => ?_) tf; conv => whnf)
    | (refine And.intro ft (fun _ => ?_); conv => whnf)
    | (refine And.intro (by kernel_rfl) ?_; conv => whnf)
    | (refine And.intro (by decide) ?_; conv => whnf)
    | (refine And.intro (fun _ => ?_) (fun h => absurd h (by decide)); conv => whnf)
    | (refine And.intro (fun h => absurd h (by decide)) (fun _ => ?_); conv => whnf)
    | (refine And.intro (fun _ => ?_) (fun _ => ?_) <;> conv => whnf)))
  all_goals try (exfalso; simp only [decide_eq_true_eq, decide_eq_false_iff_not, Bool.not_eq_true', Bool.not_eq_false', Bool.not_eq_true, Bool.not_eq_false, beq_iff_eq, bne_iff_ne, beq_eq_false_iff_ne, bne_eq_false_iff_eq, ne_eq, Decidable.not_not] at *; first | omega | contradiction | (simp_all; done) | (simp_all; omega))
  all_goals try (refine Or.inl ?_; conv => whnf)
  repeat (any_goals (first
    | exact True.intro
    | (refine And.intro (fun _ => ?_) tf; conv => whnf)
    | (refine And.intro ft (fun _ => ?_); conv => whnf)
    | (refine And.intro (by kernel_rfl) ?_; conv => whnf)
    | (refine And.intro (by decide) ?_; conv => whnf)
    | (refine And.intro (fun _ => ?_) (fun h => absurd h (by decide)); conv => whnf)
    | (refine And.intro (fun h => absurd h (by decide)) (fun _ => ?_); conv => whnf)
    | (refine And.intro (fun _ => ?_) (fun _ => ?_) <;> conv => whnf)))
  all_goals try (exfalso; simp only [decide_eq_true_eq, decide_eq_false_iff_not, Bool.not_eq_true', Bool.not_eq_false', Bool.not_eq_true, Bool.not_eq_false, beq_iff_eq, bne_iff_ne, beq_eq_false_iff_ne, bne_eq_false_iff_eq, ne_eq, Decidable.not_not] at *; first | omega | contradiction | (simp_all; done) | (simp_all; omega))
  all_goals refine ⟨[], ?_⟩
  repeat (any_goals (first | exact True.intro | exact rfl | with_reducible_and_instances rfl | exact (by kernel_rfl) | refine And.intro ?_ ?_))
  all_goals conv => whnf
theorem noteRef_old {R : List FactP} {a b d r z : Int} (hn : R.length ≤ 1000000) (hb : ¬ badN a b d (r, z)) {i : Nat} {g : FactP} (hf : findR R (a, b, d) = (i : Int)) (hg : R[i]? = some g) :
    Sat Try.prog 13 [.ptr 0 0, .d (.agg [iD a, iD b, iD d, iD r, iD z])] (refO R) (iA (if g = ((a, b, d), (r, z)) then 0 else 18)) (refO R) := by
  have fs := find_sat R hn a b d
  rw [hf] at fs
  have hm : (R.map factR).length = R.length := List.length_map _
  have hil : i < (R.map factR).length := by rw [hm]; exact (List.getElem?_eq_some_iff.1 hg).1
  obtain ⟨⟨ya, yb, yd⟩, yr, yz⟩ := g
  have ne := fun L n ty x y t' => neRow (L := L) (n := n) (ty := ty) (x := x) (y := y) (t' := t') ((ya, yb, yd), (yr, yz)) ((a, b, d), (r, z))
  unfold badN at hb
  simp only at hb
  by_cases hd : ((ya, yb, yd), (yr, yz)) = ((a, b, d), (r, z))
  · have e : (!decide (((ya, yb, yd), (yr, yz)) = ((a, b, d), (r, z)))) = false := by rw [decide_eq_true hd]; rfl
    rw [if_pos hd]
    rw [e] at ne
    refine sat_of_vc (T := tiOf Try.prog) (E := E0) Try.func13 rfl rfl hE0 hm0 rfl ?_
    conv => whnf
    repeat (any_goals (first
      | exact True.intro
      | (refine And.intro (fun _ => ?_) tf; conv => whnf)
      | (refine And.intro ft (fun _ => ?_); conv => whnf)
      | (refine And.intro (by kernel_rfl) ?_; conv => whnf)
      | (refine And.intro (by decide) ?_; conv => whnf)
      | (refine And.intro (fun _ => ?_) (fun h => absurd h (by decide)); conv => whnf)
      | (refine And.intro (fun h => absurd h (by decide)) (fun _ => ?_); conv => whnf)
      | (refine And.intro (fun _ => ?_) (fun _ => ?_) <;> conv => whnf)))
    refine Or.inr ⟨Unit, fun _ => True, fun _ => ([(3, .ptr 2 0), (0, .ptr 0 0)], [.cells [.own 1], .sl 5 (R.map factR), .cells [iA a, iA b, iA d, iA r, iA z]]), ?_, fun _ _ => ?_⟩
    · conv => whnf
      repeat (any_goals (first
        | exact True.intro
        | (refine And.intro (fun _ => ?_) tf; conv => whnf)
        | (refine And.intro ft (fun _ => ?_); conv => whnf)
        | (refine And.intro (by kernel_rfl) ?_; conv => whnf)
        | (refine And.intro (by decide) ?_; conv => whnf)
        | (refine And.intro (fun _ => ?_) (fun h => absurd h (by decide)); conv => whnf)
        | (refine And.intro (fun h => absurd h (by decide)) (fun _ => ?_); conv => whnf)
        | (refine And.intro (fun _ => ?_) (fun _ => ?_) <;> conv => whnf)))
      all_goals try (exfalso; simp only [decide_eq_true_eq, decide_eq_false_iff_not, Bool.not_eq_true', Bool.not_eq_false', Bool.not_eq_true, Bool.not_eq_false, beq_iff_eq, bne_iff_ne, beq_eq_false_iff_ne, bne_eq_false_iff_eq, ne_eq, Decidable.not_not] at *; first | omega | contradiction | (simp_all; done) | (simp_all; omega))
      all_goals try (refine Or.inl ?_; conv => whnf)
      repeat (any_goals (first
        | exact True.intro
        | (refine And.intro (fun _ => ?_) tf; conv => whnf)
        | (refine And.intro ft (fun _ => ?_); conv => whnf)
        | (refine And.intro (by kernel_rfl) ?_; conv => whnf)
        | (refine And.intro (by decide) ?_; conv => whnf)
        | (refine And.intro (fun _ => ?_) (fun h => absurd h (by decide)); conv => whnf)
        | (refine And.intro (fun h => absurd h (by decide)) (fun _ => ?_); conv => whnf)
        | (refine And.intro (fun _ => ?_) (fun _ => ?_) <;> conv => whnf)))
      all_goals try (exfalso; simp only [decide_eq_true_eq, decide_eq_false_iff_not, Bool.not_eq_true', Bool.not_eq_false', Bool.not_eq_true, Bool.not_eq_false, beq_iff_eq, bne_iff_ne, beq_eq_false_iff_ne, bne_eq_false_iff_eq, ne_eq, Decidable.not_not] at *; first | omega | contradiction | (simp_all; done) | (simp_all; omega))
      all_goals refine ⟨(), trivial, ?_⟩
      all_goals refine ⟨[], ?_⟩
      repeat (any_goals (first | exact True.intro | exact rfl | with_reducible_and_instances rfl | exact (by kernel_rfl) | refine And.intro ?_ ?_))
      all_goals conv => whnf
    conv => whnf
    repeat (any_goals (first
      | exact True.intro
      | (refine ⟨i, rfl, hil, ?_⟩; conv => whnf)
      | (refine ⟨_, map_get hg, ?_⟩; conv => whnf)
      | (refine And.intro (fun _ => ?_) tf; conv => whnf)
      | (refine And.intro ft (fun _ => ?_); conv => whnf)
      | (refine And.intro (by kernel_rfl) ?_; conv => whnf)
      | (refine And.intro (by decide) ?_; conv => whnf)
      | (refine And.intro (fun _ => ?_) (fun h => absurd h (by decide)); conv => whnf)
      | (refine And.intro (fun h => absurd h (by decide)) (fun _ => ?_); conv => whnf)
      | (refine And.intro (fun _ => ?_) (fun _ => ?_) <;> conv => whnf)
      | (refine ⟨_, _, fs.at2 0 1 rfl rfl rfl rfl rfl, ?_⟩; conv => whnf)
      | (refine ⟨_, _, ne _ _ _ _ _ _, ?_⟩; conv => whnf)))
    all_goals try (exfalso; simp only [decide_eq_true_eq, decide_eq_false_iff_not, Bool.not_eq_true', Bool.not_eq_false', Bool.not_eq_true, Bool.not_eq_false, beq_iff_eq, bne_iff_ne, beq_eq_false_iff_ne, bne_eq_false_iff_eq, ne_eq, Decidable.not_not] at *; first | omega | contradiction | (simp_all; done) | (simp_all; omega))
    all_goals try (refine Or.inl ?_; conv => whnf)
    repeat (any_goals (first
      | exact True.intro
      | (refine ⟨i, rfl, hil, ?_⟩; conv => whnf)
      | (refine ⟨_, map_get hg, ?_⟩; conv => whnf)
      | (refine And.intro (fun _ => ?_) tf; conv => whnf)
      | (refine And.intro ft (fun _ => ?_); conv => whnf)
      | (refine And.intro (by kernel_rfl) ?_; conv => whnf)
      | (refine And.intro (by decide) ?_; conv => whnf)
      | (refine And.intro (fun _ => ?_) (fun h => absurd h (by decide)); conv => whnf)
      | (refine And.intro (fun h => absurd h (by decide)) (fun _ => ?_); conv => whnf)
      | (refine And.intro (fun _ => ?_) (fun _ => ?_) <;> conv => whnf)
      | (refine ⟨_, _, fs.at2 0 1 rfl rfl rfl rfl rfl, ?_⟩; conv => whnf)
      | (refine ⟨_, _, ne _ _ _ _ _ _, ?_⟩; conv => whnf)))
    all_goals try (exfalso; simp only [decide_eq_true_eq, decide_eq_false_iff_not, Bool.not_eq_true', Bool.not_eq_false', Bool.not_eq_true, Bool.not_eq_false, beq_iff_eq, bne_iff_ne, beq_eq_false_iff_ne, bne_eq_false_iff_eq, ne_eq, Decidable.not_not] at *; first | omega | contradiction | (simp_all; done) | (simp_all; omega))
    all_goals try (refine Or.inl ?_; conv => whnf)
    repeat (any_goals (first
      | exact True.intro
      | (refine ⟨i, rfl, hil, ?_⟩; conv => whnf)
      | (refine ⟨_, map_get hg, ?_⟩; conv => whnf)
      | (refine And.intro (fun _ => ?_) tf; conv => whnf)
      | (refine And.intro ft (fun _ => ?_); conv => whnf)
      | (refine And.intro (by kernel_rfl) ?_; conv => whnf)
      | (refine And.intro (by decide) ?_; conv => whnf)
      | (refine And.intro (fun _ => ?_) (fun h => absurd h (by decide)); conv => whnf)
      | (refine And.intro (fun h => absurd h (by decide)) (fun _ => ?_); conv => whnf)
      | (refine And.intro (fun _ => ?_) (fun _ => ?_) <;> conv => whnf)
      | (refine ⟨_, _, fs.at2 0 1 rfl rfl rfl rfl rfl, ?_⟩; conv => whnf)
      | (refine ⟨_, _, ne _ _ _ _ _ _, ?_⟩; conv => whnf)))
    all_goals try (exfalso; simp only [decide_eq_true_eq, decide_eq_false_iff_not, Bool.not_eq_true', Bool.not_eq_false', Bool.not_eq_true, Bool.not_eq_false, beq_iff_eq, bne_iff_ne, beq_eq_false_iff_ne, bne_eq_false_iff_eq, ne_eq, Decidable.not_not] at *; first | omega | contradiction | (simp_all; done) | (simp_all; omega))
    all_goals try (refine Or.inl ?_; conv => whnf)
    repeat (any_goals (first
      | exact True.intro
      | (refine And.intro (fun _ => ?_) tf; conv => whnf)
      | (refine And.intro ft (fun _ => ?_); conv => whnf)
      | (refine And.intro (by kernel_rfl) ?_; conv => whnf)
      | (refine And.intro (by decide) ?_; conv => whnf)
      | (refine And.intro (fun _ => ?_) (fun h => absurd h (by decide)); conv => whnf)
      | (refine And.intro (fun h => absurd h (by decide)) (fun _ => ?_); conv => whnf)
      | (refine And.intro (fun _ => ?_) (fun _ => ?_) <;> conv => whnf)))
    all_goals try (exfalso; simp only [decide_eq_true_eq, decide_eq_false_iff_not, Bool.not_eq_true', Bool.not_eq_false', Bool.not_eq_true, Bool.not_eq_false, beq_iff_eq, bne_iff_ne, beq_eq_false_iff_ne, bne_eq_false_iff_eq, ne_eq, Decidable.not_not] at *; first | omega | contradiction | (simp_all; done) | (simp_all; omega))
    all_goals refine ⟨[], ?_⟩
    repeat (any_goals (first | exact True.intro | exact rfl | with_reducible_and_instances rfl | exact (by kernel_rfl) | refine And.intro ?_ ?_))
    all_goals conv => whnf
  · have e : (!decide (((ya, yb, yd), (yr, yz)) = ((a, b, d), (r, z)))) = true := by rw [decide_eq_false hd]; rfl
    rw [if_neg hd]
    rw [e] at ne
    clear hd e
    refine sat_of_vc (T := tiOf Try.prog) (E := E0) Try.func13 rfl rfl hE0 hm0 rfl ?_
    conv => whnf
    repeat (any_goals (first
      | exact True.intro
      | (refine And.intro (fun _ => ?_) tf; conv => whnf)
      | (refine And.intro ft (fun _ => ?_); conv => whnf)
      | (refine And.intro (by kernel_rfl) ?_; conv => whnf)
      | (refine And.intro (by decide) ?_; conv => whnf)
      | (refine And.intro (fun _ => ?_) (fun h => absurd h (by decide)); conv => whnf)
      | (refine And.intro (fun h => absurd h (by decide)) (fun _ => ?_); conv => whnf)
      | (refine And.intro (fun _ => ?_) (fun _ => ?_) <;> conv => whnf)))
    refine Or.inr ⟨Unit, fun _ => True, fun _ => ([(3, .ptr 2 0), (0, .ptr 0 0)], [.cells [.own 1], .sl 5 (R.map factR), .cells [iA a, iA b, iA d, iA r, iA z]]), ?_, fun _ _ => ?_⟩
    · conv => whnf
      repeat (any_goals (first
        | exact True.intro
        | (refine And.intro (fun _ => ?_) tf; conv => whnf)
        | (refine And.intro ft (fun _ => ?_); conv => whnf)
        | (refine And.intro (by kernel_rfl) ?_; conv => whnf)
        | (refine And.intro (by decide) ?_; conv => whnf)
        | (refine And.intro (fun _ => ?_) (fun h => absurd h (by decide)); conv => whnf)
        | (refine And.intro (fun h => absurd h (by decide)) (fun _ => ?_); conv => whnf)
        | (refine And.intro (fun _ => ?_) (fun _ => ?_) <;> conv => whnf)))
      all_goals try (exfalso; simp only [decide_eq_true_eq, decide_eq_false_iff_not, Bool.not_eq_true', Bool.not_eq_false', Bool.not_eq_true, Bool.not_eq_false, beq_iff_eq, bne_iff_ne, beq_eq_false_iff_ne, bne_eq_false_iff_eq, ne_eq, Decidable.not_not] at *; first | omega | contradiction | (simp_all; done) | (simp_all; omega))
      all_goals try (refine Or.inl ?_; conv => whnf)
      repeat (any_goals (first
        | exact True.intro
        | (refine And.intro (fun _ => ?_) tf; conv => whnf)
        | (refine And.intro ft (fun _ => ?_); conv => whnf)
        | (refine And.intro (by kernel_rfl) ?_; conv => whnf)
        | (refine And.intro (by decide) ?_; conv => whnf)
        | (refine And.intro (fun _ => ?_) (fun h => absurd h (by decide)); conv => whnf)
        | (refine And.intro (fun h => absurd h (by decide)) (fun _ => ?_); conv => whnf)
        | (refine And.intro (fun _ => ?_) (fun _ => ?_) <;> conv => whnf)))
      all_goals try (exfalso; simp only [decide_eq_true_eq, decide_eq_false_iff_not, Bool.not_eq_true', Bool.not_eq_false', Bool.not_eq_true, Bool.not_eq_false, beq_iff_eq, bne_iff_ne, beq_eq_false_iff_ne, bne_eq_false_iff_eq, ne_eq, Decidable.not_not] at *; first | omega | contradiction | (simp_all; done) | (simp_all; omega))
      all_goals refine ⟨(), trivial, ?_⟩
      all_goals refine ⟨[], ?_⟩
      repeat (any_goals (first | exact True.intro | exact rfl | with_reducible_and_instances rfl | exact (by kernel_rfl) | refine And.intro ?_ ?_))
      all_goals conv => whnf
    conv => whnf
    repeat (any_goals (first
      | exact True.intro
      | (refine ⟨i, rfl, hil, ?_⟩; conv => whnf)
      | (refine ⟨_, map_get hg, ?_⟩; conv => whnf)
      | (refine And.intro (fun _ => ?_) tf; conv => whnf)
      | (refine And.intro ft (fun _ => ?_); conv => whnf)
      | (refine And.intro (by kernel_rfl) ?_; conv => whnf)
      | (refine And.intro (by decide) ?_; conv => whnf)
      | (refine And.intro (fun _ => ?_) (fun h => absurd h (by decide)); conv => whnf)
      | (refine And.intro (fun h => absurd h (by decide)) (fun _ => ?_); conv => whnf)
      | (refine And.intro (fun _ => ?_) (fun _ => ?_) <;> conv => whnf)
      | (refine ⟨_, _, fs.at2 0 1 rfl rfl rfl rfl rfl, ?_⟩; conv => whnf)
      | (refine ⟨_, _, ne _ _ _ _ _ _, ?_⟩; conv => whnf)))
    all_goals try (exfalso; simp only [decide_eq_true_eq, decide_eq_false_iff_not, Bool.not_eq_true', Bool.not_eq_false', Bool.not_eq_true, Bool.not_eq_false, beq_iff_eq, bne_iff_ne, beq_eq_false_iff_ne, bne_eq_false_iff_eq, ne_eq, Decidable.not_not] at *; first | omega | contradiction | (simp_all; done) | (simp_all; omega))
    all_goals try (refine Or.inl ?_; conv => whnf)
    repeat (any_goals (first
      | exact True.intro
      | (refine ⟨i, rfl, hil, ?_⟩; conv => whnf)
      | (refine ⟨_, map_get hg, ?_⟩; conv => whnf)
      | (refine And.intro (fun _ => ?_) tf; conv => whnf)
      | (refine And.intro ft (fun _ => ?_); conv => whnf)
      | (refine And.intro (by kernel_rfl) ?_; conv => whnf)
      | (refine And.intro (by decide) ?_; conv => whnf)
      | (refine And.intro (fun _ => ?_) (fun h => absurd h (by decide)); conv => whnf)
      | (refine And.intro (fun h => absurd h (by decide)) (fun _ => ?_); conv => whnf)
      | (refine And.intro (fun _ => ?_) (fun _ => ?_) <;> conv => whnf)
      | (refine ⟨_, _, fs.at2 0 1 rfl rfl rfl rfl rfl, ?_⟩; conv => whnf)
      | (refine ⟨_, _, ne _ _ _ _ _ _, ?_⟩; conv => whnf)))
    all_goals try (exfalso; simp only [decide_eq_true_eq, decide_eq_false_iff_not, Bool.not_eq_true', Bool.not_eq_false', Bool.not_eq_true, Bool.not_eq_false, beq_iff_eq, bne_iff_ne, beq_eq_false_iff_ne, bne_eq_false_iff_eq, ne_eq, Decidable.not_not] at *; first | omega | contradiction | (simp_all; done) | (simp_all; omega))
    all_goals try (refine Or.inl ?_; conv => whnf)
    repeat (any_goals (first
      | exact True.intro
      | (refine ⟨i, rfl, hil, ?_⟩; conv => whnf)
      | (refine ⟨_, map_get hg, ?_⟩; conv => whnf)
      | (refine And.intro (fun _ => ?_) tf; conv => whnf)
      | (refine And.intro ft (fun _ => ?_); conv => whnf)
      | (refine And.intro (by kernel_rfl) ?_; conv => whnf)
      | (refine And.intro (by decide) ?_; conv => whnf)
      | (refine And.intro (fun _ => ?_) (fun h => absurd h (by decide)); conv => whnf)
      | (refine And.intro (fun h => absurd h (by decide)) (fun _ => ?_); conv => whnf)
      | (refine And.intro (fun _ => ?_) (fun _ => ?_) <;> conv => whnf)
      | (refine ⟨_, _, fs.at2 0 1 rfl rfl rfl rfl rfl, ?_⟩; conv => whnf)
      | (refine ⟨_, _, ne _ _ _ _ _ _, ?_⟩; conv => whnf)))
    all_goals try (exfalso; simp only [decide_eq_true_eq, decide_eq_false_iff_not, Bool.not_eq_true', Bool.not_eq_false', Bool.not_eq_true, Bool.not_eq_false, beq_iff_eq, bne_iff_ne, beq_eq_false_iff_ne, bne_eq_false_iff_eq, ne_eq, Decidable.not_not] at *; first | omega | contradiction | (simp_all; done) | (simp_all; omega))
    all_goals try (refine Or.inl ?_; conv => whnf)
    repeat (any_goals (first
      | exact True.intro
      | (refine And.intro (fun _ => ?_) tf; conv => whnf)
      | (refine And.intro ft (fun _ => ?_); conv => whnf)
      | (refine And.intro (by kernel_rfl) ?_; conv => whnf)
      | (refine And.intro (by decide) ?_; conv => whnf)
      | (refine And.intro (fun _ => ?_) (fun h => absurd h (by decide)); conv => whnf)
      | (refine And.intro (fun h => absurd h (by decide)) (fun _ => ?_); conv => whnf)
      | (refine And.intro (fun _ => ?_) (fun _ => ?_) <;> conv => whnf)))
    all_goals try (exfalso; simp only [decide_eq_true_eq, decide_eq_false_iff_not, Bool.not_eq_true', Bool.not_eq_false', Bool.not_eq_true, Bool.not_eq_false, beq_iff_eq, bne_iff_ne, beq_eq_false_iff_ne, bne_eq_false_iff_eq, ne_eq, Decidable.not_not] at *; first | omega | contradiction | (simp_all; done) | (simp_all; omega))
    all_goals refine ⟨[], ?_⟩
    repeat (any_goals (first | exact True.intro | exact rfl | with_reducible_and_instances rfl | exact (by kernel_rfl) | refine And.intro ?_ ?_))
    all_goals conv => whnf
end Go.Proofs.Ytefidbifgilekaa
/- ledger: a ledger's rows, as the document keeps them; in plain Lean. -/
namespace Go.Proofs.Ytefidbifgilekaa
set_option linter.unusedSimpArgs false
set_option linter.unusedVariables false
open Go.RowKit Go.Sort
set_option maxRecDepth 100000
def rowsL (m : Led) : List FactP := (idsL m).map fun x => (x, verL m x)
theorem rowsL_fst (m : Led) : (rowsL m).map (·.1) = idsL m := by
  unfold rowsL
  rw [List.map_map]
  exact List.map_id _
theorem ids_keys {m : Led} {x : Id3} : x ∈ idsL m ↔ x ∈ m.map (·.1) := (sorted_perm cmpI _).mem_iff
theorem rows_not {m : Led} {x : Id3} (h : findX m x = none) : findR (rowsL m) x = -1 := by
  unfold findR
  have : (rowsL m).findIdx? (fun f => decide (f.1 = x)) = none := by
    rw [List.findIdx?_eq_none_iff]
    intro f hf
    refine decide_eq_false fun e => find_none h ?_
    rw [← ids_keys, ← rowsL_fst, ← e]
    exact List.mem_map.2 ⟨f, hf, rfl⟩
  rw [this]
theorem rows_at {m : Led} {x : Id3} {o : Ver} (h : findX m x = some o) : ∃ i : Nat, findR (rowsL m) x = (i : Int) ∧ (rowsL m)[i]? = some (x, o) := by
  have hx : x ∈ m.map (·.1) := by
    refine hasX_iff.1 ?_
    unfold hasX; rw [h]; rfl
  unfold findR
  cases e : (rowsL m).findIdx? (fun f => decide (f.1 = x)) with
  | none =>
    rw [List.findIdx?_eq_none_iff] at e
    rw [← ids_keys, ← rowsL_fst] at hx
    obtain ⟨f, hf, rfl⟩ := List.mem_map.1 hx
    have := e f hf
    simp at this
  | some i =>
    refine ⟨i, rfl, ?_⟩
    rw [List.findIdx?_eq_some_iff_getElem] at e
    obtain ⟨h1, h2, _⟩ := e
    have h2 := of_decide_eq_true h2
    rw [List.getElem?_eq_getElem h1]
    have hf : (rowsL m)[i] ∈ rowsL m := List.getElem_mem _
    unfold rowsL at hf
    obtain ⟨y, hy, he⟩ := List.mem_map.1 hf
    have h3 : (rowsL m)[i] = (y, verL m y) := he.symm
    rw [h3] at h2 ⊢
    have : y = x := h2
    subst this
    unfold verL
    rw [h]; rfl
theorem insAt_hi {R : List FactP} {x : Id3} : ∀ (n j : Nat) (f : FactP), insAt R x n ≤ j → j < n → R[j]? = some f → ltI x f.1
  | 0, j, f, _, h, _ => by omega
  | n + 1, j, f, h1, h2, hf => by
    unfold insAt at h1
    by_cases q : ltI x ((R[n]?.getD ((0, 0, 0), (0, 0))).1)
    · rw [if_pos q] at h1
      by_cases e : j = n
      · subst e; rw [hf] at q; exact q
      · exact insAt_hi n j f h1 (by omega) hf
    · rw [if_neg q] at h1; omega
theorem insAt_lo {R : List FactP} {x : Id3} : ∀ (n j : Nat) (f : FactP), insAt R x n = j + 1 → R[j]? = some f → ¬ ltI x f.1
  | 0, j, f, h, _ => by cases h
  | n + 1, j, f, h, hf => by
    unfold insAt at h
    by_cases q : ltI x ((R[n]?.getD ((0, 0, 0), (0, 0))).1)
    · rw [if_pos q] at h; exact insAt_lo n j f h hf
    · rw [if_neg q] at h
      have : n = j := by omega
      subst this
      rw [hf] at q; exact q
abbrev leI (x y : Id3) : Prop := (!(ltOf cmpI) y x) = true
theorem leI_iff {x y : Id3} : leI x y ↔ ¬ ltI y x := by
  unfold leI
  rw [Bool.not_eq_true', ltOf_IF]
theorem ids_pw (m : Led) : (idsL m).Pairwise leI := sorted_pw swoI _
theorem ltI_asym {x y : Id3} (h : ltI x y) : ¬ ltI y x := fun h2 => by
  have h1 := (ltOf_I x y).2 h
  have h3 := (ltOf_I y x).2 h2
  have := swoI.trans x y x h1 h3
  rw [swoI.irrefl] at this; cases this
theorem ins_pw {R : List FactP} {f : FactP} (h : (R.map (·.1)).Pairwise leI) : ((insR R f).map (·.1)).Pairwise leI := by
  have hp := insAt_le R f.1 R.length
  have hhi := fun j g => insAt_hi (R := R) (x := f.1) R.length j g
  have hlo := fun j g => insAt_lo (R := R) (x := f.1) R.length j g
  unfold insR
  generalize insAt R f.1 R.length = p at hp hhi hlo ⊢
  have hsplit : R.map (·.1) = (R.take p).map (·.1) ++ (R.drop p).map (·.1) := by rw [← List.map_append, List.take_append_drop]
  rw [hsplit, List.pairwise_append] at h
  obtain ⟨h1, h2, h3⟩ := h
  rw [List.map_append, List.map_cons, List.pairwise_append]
  have hb : ∀ b ∈ (R.drop p).map (·.1), leI f.1 b := fun b hb => by
    obtain ⟨g, hg, rfl⟩ := List.mem_map.1 hb
    obtain ⟨j, hj⟩ := List.getElem?_of_mem hg
    rw [List.getElem?_drop] at hj
    have hjl := (List.getElem?_eq_some_iff.1 hj).1
    exact leI_iff.2 (ltI_asym (hhi (p + j) g (by omega) hjl hj))
  have ha : ∀ a ∈ (R.take p).map (·.1), leI a f.1 := fun a ha => by
    obtain ⟨g, hg, rfl⟩ := List.mem_map.1 ha
    obtain ⟨j, hj⟩ := List.getElem?_of_mem hg
    have hjp : j < p := by
      have := (List.getElem?_eq_some_iff.1 hj).1
      rw [List.length_take] at this; omega
    rw [List.getElem?_take, if_pos hjp] at hj
    obtain ⟨q, rfl⟩ : ∃ q, p = q + 1 := ⟨p - 1, by omega⟩
    have hqR : R[q]? = some R[q] := List.getElem?_eq_getElem (by omega)
    have hlq := hlo q R[q] rfl hqR
    by_cases e : j = q
    · subst e
      rw [hqR] at hj
      rw [← Option.some.inj hj]
      exact leI_iff.2 hlq
    · have hgq : leI g.1 (R[q]).1 := by
        have hpw : ((R.take (q + 1)).map (·.1)).Pairwise leI := h1
        rw [List.pairwise_iff_getElem] at hpw
        have := hpw j q (by simp; omega) (by simp; omega) (by omega)
        simp only [List.getElem_map, List.getElem_take] at this
        have hjg : R[j]'(by omega) = g := (List.getElem?_eq_some_iff.1 hj).2
        rwa [hjg] at this
      unfold leI at hgq ⊢
      rw [Bool.not_eq_true'] at hgq ⊢
      exact swoI.ntrans f.1 (R[q]).1 g.1 ((ltOf_IF _ _).2 hlq) hgq
  refine ⟨h1, List.pairwise_cons.2 ⟨hb, h2⟩, fun a haA b hbB => ?_⟩
  rcases List.mem_cons.1 hbB with e | e
  · subst e; exact ha a haA
  · exact h3 a haA b e
theorem rows_new {m : Led} {c n : Nat} (h : LedOK m c n) {x : Id3} {v : Ver} (hx : findX m x = none) : rowsL (m ++ [(x, v, c)]) = insR (rowsL m) (x, v) := by
  have hpw := ins_pw (R := rowsL m) (f := (x, v)) (by rw [rowsL_fst]; exact ids_pw m)
  have hperm : ((insR (rowsL m) (x, v)).map (·.1)).Perm ((m ++ [(x, v, c)]).map (·.1)) := by
    have h1 : (insR (rowsL m) (x, v)).Perm (rowsL m ++ [(x, v)]) := by
      unfold insR
      generalize insAt (rowsL m) x (rowsL m).length = p
      have h2 := List.perm_middle (a := (x, v)) (l₁ := (rowsL m).take p) (l₂ := (rowsL m).drop p)
      rw [List.take_append_drop] at h2
      exact h2.trans (List.perm_append_comm (l₁ := [(x, v)]) (l₂ := rowsL m))
    have h3 := h1.map (·.1)
    rw [List.map_append, rowsL_fst] at h3
    refine h3.trans ?_
    rw [List.map_append]
    exact (sorted_perm cmpI _).append_right _
  have hids : idsL (m ++ [(x, v, c)]) = (insR (rowsL m) (x, v)).map (·.1) := by
    refine List.Perm.eq_of_pairwise (le := leI) (fun a b _ _ h1 h2 => totI a b (by simpa using h2) (by simpa using h1)) (ids_pw _) hpw ((sorted_perm cmpI _).trans hperm.symm)
  unfold rowsL
  rw [hids, List.map_map]
  refine (List.map_congr_left fun f hf => ?_).trans (List.map_id _)
  show (f.1, verL (m ++ [(x, v, c)]) f.1) = f
  have hf2 : f ∈ rowsL m ∨ f = (x, v) := by
    unfold insR at hf
    rcases List.mem_append.1 hf with q | q
    · exact .inl (List.mem_of_mem_take q)
    · rcases List.mem_cons.1 q with q | q
      · exact .inr q
      · exact .inl (List.mem_of_mem_drop q)
  rcases hf2 with q | q
  · unfold rowsL at q
    obtain ⟨y, hy, rfl⟩ := List.mem_map.1 q
    have hyx : y ≠ x := fun e => find_none hx (by rw [← e]; exact ids_keys.1 hy)
    show (y, verL (m ++ [(x, v, c)]) y) = (y, verL m y)
    have : findX (m ++ [(x, v, c)]) y = findX m y := by
      unfold findX
      rw [List.find?_append]
      cases m.find? (fun p => decide (p.1 = y)) with
      | some p => rfl
      | none =>
        have hxy : ¬ x = y := fun e => hyx e.symm
        simp [hxy]
    unfold verL; rw [this]
  · subst q
    show (x, verL (m ++ [(x, v, c)]) x) = (x, v)
    have : findX (m ++ [(x, v, c)]) x = some v := by
      unfold findX at hx ⊢
      rw [Option.map_eq_none_iff] at hx
      rw [List.find?_append, hx]
      simp
    unfold verL; rw [this]; rfl
end Go.Proofs.Ytefidbifgilekaa
/- ledger: Agree: a ledger has its rows. -/
namespace Go.Proofs.Ytefidbifgilekaa
set_option linter.unusedSimpArgs false
set_option linter.unusedVariables false
open Go.RowKit Go.Sort
set_option maxRecDepth 100000
theorem rowsL_len (m : Led) : (rowsL m).length = m.length := by unfold rowsL; rw [List.length_map, idsL_len]
/-- A function held against nil. -/
theorem eqFnN {L : List AObj} {ty n : Nat} {x y : Operand} {t' : TypeId} {f : Fn} {xs ys : List AV} : Does Try.prog (.binOp .eql 59 x y t') ty L n [.fn f xs ys, .d (.v .nilFunc)] e0 (bA false) :=
  does_ra2 rfl fun o w F ρ ev u v ho h1 h2 hu hv => by
    have he := Try.underlying59
    have := hv.v_out
    subst this
    cases hu
    exact exec_eq ho h1 h2 (guard_form _ _ rfl) (run_eq (b := false) (fun d => by simp [Op.equalIn, run_underlying he]) (eq_form _ _ rfl) rfl)
theorem agree_sat {m : Led} {c : Nat} (hf : fresh m c) (hm : m.length ≤ 1000000) : Sat Try.prog 15 [.ptr 0 0, .ptr 2 0] [.cells [.mp 1], mapO eI eV m c, .cells [.own 3], .sl 5 ((rowsL m).map factR)] (bA true) [.cells [.mp 1], mapO eI eV m c, .cells [.own 3], .sl 5 ((rowsL m).map factR)] := by
  have al := all_sat m c
  have hl : ((rowsL m).map factR).length = m.length := by rw [List.length_map, rowsL_len]
  refine sat_of_vc (T := tiOf Try.prog) (E := E0) Try.func15 rfl rfl hE0 hm0 rfl ?_
  conv => whnf
  repeat (any_goals (first
    | exact True.intro
    | (refine And.intro (fun _ => ?_) tf; conv => whnf)
    | (refine And.intro ft (fun _ => ?_); conv => whnf)
    | (refine And.intro (by kernel_rfl) ?_; conv => whnf)
    | (refine And.intro (by decide) ?_; conv => whnf)
    | (refine And.intro (fun _ => ?_) (fun h => absurd h (by decide)); conv => whnf)
    | (refine And.intro (fun h => absurd h (by decide)) (fun _ => ?_); conv => whnf)
    | (refine And.intro (fun _ => ?_) (fun _ => ?_) <;> conv => whnf)
    | (refine ⟨_, _, al.at2 0 1 rfl rfl rfl rfl rfl, ?_⟩; conv => whnf)))
  all_goals try (refine Or.inl ?_; conv => whnf)
  repeat (any_goals (first
    | exact True.intro
    | (refine And.intro (fun _ => ?_) tf; conv => whnf)
    | (refine And.intro ft (fun _ => ?_); conv => whnf)
    | (refine And.intro (by kernel_rfl) ?_; conv => whnf)
    | (refine And.intro (by decide) ?_; conv => whnf)
    | (refine And.intro (fun _ => ?_) (fun h => absurd h (by decide)); conv => whnf)
    | (refine And.intro (fun h => absurd h (by decide)) (fun _ => ?_); conv => whnf)
    | (refine And.intro (fun _ => ?_) (fun _ => ?_) <;> conv => whnf)
    | (refine ⟨_, _, eqFnN, ?_⟩; conv => whnf)))
  all_goals try (exfalso; simp only [decide_eq_true_eq, decide_eq_false_iff_not, Bool.not_eq_true', Bool.not_eq_false', Bool.not_eq_true, Bool.not_eq_false, beq_iff_eq, bne_iff_ne, beq_eq_false_iff_ne, bne_eq_false_iff_eq, ne_eq, Decidable.not_not] at *; first | omega | contradiction | (simp_all; done) | (simp_all; omega))
  all_goals try (refine Or.inl ?_; conv => whnf)
  repeat (any_goals (first
    | exact True.intro
    | (refine And.intro (fun _ => ?_) tf; conv => whnf)
    | (refine And.intro ft (fun _ => ?_); conv => whnf)
    | (refine And.intro (by kernel_rfl) ?_; conv => whnf)
    | (refine And.intro (by decide) ?_; conv => whnf)
    | (refine And.intro (fun _ => ?_) (fun h => absurd h (by decide)); conv => whnf)
    | (refine And.intro (fun h => absurd h (by decide)) (fun _ => ?_); conv => whnf)
    | (refine And.intro (fun _ => ?_) (fun _ => ?_) <;> conv => whnf)
    | (refine ⟨_, _, eqFnN, ?_⟩; conv => whnf)))
  all_goals try (exfalso; simp only [decide_eq_true_eq, decide_eq_false_iff_not, Bool.not_eq_true', Bool.not_eq_false', Bool.not_eq_true, Bool.not_eq_false, beq_iff_eq, bne_iff_ne, beq_eq_false_iff_ne, bne_eq_false_iff_eq, ne_eq, Decidable.not_not] at *; first | omega | contradiction | (simp_all; done) | (simp_all; omega))
  refine ⟨Nat, Nat, fun y z => z = y ∧ y ≤ m.length, fun z => [.cells [.mp 1], mapO eI eV m c, .cells [.own 3], .sl 5 ((rowsL m).map factR), .cells [.ptr 2 0], .cells [bA false], .cells [iA z], .cells [.ptr 0 0]], [(13, .fn (.func 41) [] [.ptr 7 0]), (5, .ptr 6 0), (4, .ptr 5 0), (3, .ptr 4 0), (0, .ptr 0 0)], 8, _, _, _, [.cells [.mp 1], mapO eI eV m c, .dead, .dead, .dead, .dead, .dead, .cells [.ptr 0 0]], 0, _, _, ⟨0, ⟨rfl, Nat.zero_le _⟩, ?_⟩, rfl, by kernel_rfl, allIt (i := 7) (j := 0) (k := 1) hf hm rfl rfl rfl, ?_, ?_, ?_, ?_⟩
  · all_goals refine ⟨[], ?_⟩
    repeat (any_goals (first | exact True.intro | exact rfl | with_reducible_and_instances rfl | exact (by kernel_rfl) | refine And.intro ?_ ?_))
    all_goals conv => whnf
  · rintro y x y' ⟨e, _, rfl⟩; rfl
  · rintro y z _; exact ⟨⟨rfl, rfl, rfl, trivial⟩, Nat.le_refl 8⟩
  · rintro y z vals y' ⟨rfl, hy⟩ ⟨⟨a, b, d⟩, ⟨hx, rfl⟩, rfl⟩
    have hlt : z < m.length := by have := (List.getElem?_eq_some_iff.1 hx).1; rwa [idsL_len] at this
    obtain ⟨⟨r, w⟩, hv⟩ : ∃ v, verL m (a, b, d) = v := ⟨_, rfl⟩
    have hr : (rowsL m)[z]? = some ((a, b, d), (r, w)) := by unfold rowsL; rw [List.getElem?_map, hx, Option.map_some, hv]
    have hzl : z < ((rowsL m).map factR).length := by omega
    have of := ofF_sat a b d r w
    have ne := fun L n ty x y t' => neRow (L := L) (n := n) (ty := ty) (x := x) (y := y) (t' := t') ((a, b, d), (r, w)) ((a, b, d), (r, w))
    rw [show (!decide ((((a, b, d), (r, w)) : FactP) = ((a, b, d), (r, w)))) = false by simp] at ne
    rw [hv]
    conv => whnf
    repeat (any_goals (first
      | exact True.intro
      | (refine ⟨z, rfl, hzl, ?_⟩; conv => whnf)
      | (refine ⟨_, map_get hr, ?_⟩; conv => whnf)
      | (refine Or.inl ?_; conv => whnf)
      | (refine And.intro (fun _ => ?_) tf; conv => whnf)
      | (refine And.intro ft (fun _ => ?_); conv => whnf)
      | (refine And.intro (by kernel_rfl) ?_; conv => whnf)
      | (refine And.intro (by decide) ?_; conv => whnf)
      | (refine And.intro (fun _ => ?_) (fun h => absurd h (by decide)); conv => whnf)
      | (refine And.intro (fun h => absurd h (by decide)) (fun _ => ?_); conv => whnf)
      | (refine And.intro (fun _ => ?_) (fun _ => ?_) <;> conv => whnf)
      | (refine ⟨_, _, of.pu rfl rfl, ?_⟩; conv => whnf)
      | (refine ⟨_, _, ne _ _ _ _ _ _, ?_⟩; conv => whnf)))
    all_goals try (exfalso; simp only [decide_eq_true_eq, decide_eq_false_iff_not, Bool.not_eq_true', Bool.not_eq_false', Bool.not_eq_true, Bool.not_eq_false, beq_iff_eq, bne_iff_ne, beq_eq_false_iff_ne, bne_eq_false_iff_eq, ne_eq, Decidable.not_not] at *; first | omega | contradiction | (simp_all; done) | (simp_all; omega))
    refine ⟨z + 1, ⟨rfl, hlt⟩, ?_⟩
    all_goals refine ⟨[], ?_⟩
    repeat (any_goals (first | exact True.intro | exact rfl | with_reducible_and_instances rfl | exact (by kernel_rfl) | refine And.intro ?_ ?_))
    all_goals conv => whnf
    exact wk1 (by omega)
  · rintro y z rfl ⟨rfl, _⟩
    have ls := len_sat m c
    conv => whnf
    repeat (any_goals (first
      | exact True.intro
      | (refine Or.inl ?_; conv => whnf)
      | (refine And.intro (fun _ => ?_) tf; conv => whnf)
      | (refine And.intro ft (fun _ => ?_); conv => whnf)
      | (refine And.intro (by kernel_rfl) ?_; conv => whnf)
      | (refine And.intro (by decide) ?_; conv => whnf)
      | (refine And.intro (fun _ => ?_) (fun h => absurd h (by decide)); conv => whnf)
      | (refine And.intro (fun h => absurd h (by decide)) (fun _ => ?_); conv => whnf)
      | (refine And.intro (fun _ => ?_) (fun _ => ?_) <;> conv => whnf)
      | (refine ⟨_, _, ls.at2 0 1 rfl rfl rfl rfl rfl, ?_⟩; conv => whnf)))
    all_goals try (exfalso; have hc : ((m.length : Int) == (((rowsL m).map factR).length : Int)) = false := by assumption
                   rw [hl] at hc; simp at hc; done)
    all_goals refine ⟨[], ?_⟩
    repeat (any_goals (first | exact True.intro | exact rfl | with_reducible_and_instances rfl | exact (by kernel_rfl) | refine And.intro ?_ ?_))
    all_goals conv => whnf
    all_goals exact congrArg (fun b => (.d (.v (.bool b)) : AV)) (show ((m.length : Int) == (m.length : Int)) = true by simp)
end Go.Proofs.Ytefidbifgilekaa
/- LedgerOnce, its law: an id has the first verdict that it got; in whatever order unlike ids come, the ledger is the same. -/
namespace Go.Proofs.Ytefidbifgilekaa
set_option linter.unusedSimpArgs false
set_option linter.unusedVariables false
open Go.RowKit Go.Sort
set_option maxRecDepth 100000
theorem findX_app {m : Led} {x : Id3} {v : Ver} {c : Nat} (h : findX m x = none) : findX (m ++ [(x, v, c)]) x = some v := by
  unfold findX at *
  rw [Option.map_eq_none_iff] at h
  rw [List.find?_append, h]
  simp
/-- A lookup in a map of verdicts whose answer is known. -/
theorem lg_at {ty n i c : Nat} {L : List AObj} {m : Led} {mx kx : Operand} (x : Id3) {o : Option Ver} (h : findX m x = o) (hi : L[i]? = some (mapO eI eV m c)) : Does Try.prog (.lookup 55 mx kx true) ty L n [.mp i, .d (eI x)] ⟨[i], [], []⟩ (.tup [.d (eV (o.getD (0, 0))), .d (.v (.bool o.isSome))]) := by
  subst h; exact lg_look x hi
set_option maxHeartbeats 4000000 in
theorem once_sat (l : List FactP) (turn : Int) (ht : in64 turn) : Sat Try.prog 4 [.d (.sl 5 (l.map factR)), iA turn] [] (bA true) [] := by
  have hm : (l.map factR).length = l.length := List.length_map _
  by_cases hg : l.length ≤ 60 ∧ 0 ≤ turn ∧ turn ≤ l.length
  · obtain ⟨hlen, ht0, ht1⟩ := hg
    refine sat_of_vc (T := tiOf Try.prog) (E := E0) Try.func4 rfl rfl hE0 hm0 rfl ?_
    conv => whnf
    repeat (any_goals (first
      | exact True.intro
      | (refine And.intro (fun _ => ?_) tf; conv => whnf)
      | (refine And.intro ft (fun _ => ?_); conv => whnf)
      | (refine And.intro (by kernel_rfl) ?_; conv => whnf)
      | (refine And.intro (by decide) ?_; conv => whnf)
      | (refine And.intro (fun _ => ?_) (fun h => absurd h (by decide)); conv => whnf)
      | (refine And.intro (fun h => absurd h (by decide)) (fun _ => ?_); conv => whnf)
      | (refine And.intro (fun _ => ?_) (fun _ => ?_) <;> conv => whnf)
      | (refine ⟨_, _, aliveL_sat.pu rfl rfl, ?_⟩; conv => whnf)))
    all_goals try (exfalso; simp only [decide_eq_true_eq, decide_eq_false_iff_not, Bool.not_eq_true', Bool.not_eq_false', Bool.not_eq_true, Bool.not_eq_false, beq_iff_eq, bne_iff_ne, beq_eq_false_iff_ne, bne_eq_false_iff_eq, ne_eq, Decidable.not_not] at *; first | omega | contradiction | (simp_all; done) | (simp_all; omega))
    all_goals try (refine Or.inl ?_; conv => whnf)
    repeat (any_goals (first
      | exact True.intro
      | (refine And.intro (fun _ => ?_) tf; conv => whnf)
      | (refine And.intro ft (fun _ => ?_); conv => whnf)
      | (refine And.intro (by kernel_rfl) ?_; conv => whnf)
      | (refine And.intro (by decide) ?_; conv => whnf)
      | (refine And.intro (fun _ => ?_) (fun h => absurd h (by decide)); conv => whnf)
      | (refine And.intro (fun h => absurd h (by decide)) (fun _ => ?_); conv => whnf)
      | (refine And.intro (fun _ => ?_) (fun _ => ?_) <;> conv => whnf)
      | (refine ⟨_, _, aliveL_sat.pu rfl rfl, ?_⟩; conv => whnf)))
    all_goals try (exfalso; simp only [decide_eq_true_eq, decide_eq_false_iff_not, Bool.not_eq_true', Bool.not_eq_false', Bool.not_eq_true, Bool.not_eq_false, beq_iff_eq, bne_iff_ne, beq_eq_false_iff_ne, bne_eq_false_iff_eq, ne_eq, Decidable.not_not] at *; first | omega | contradiction | (simp_all; done) | (simp_all; omega))
    all_goals try (refine Or.inl ?_; conv => whnf)
    repeat (any_goals (first
      | exact True.intro
      | (refine And.intro (fun _ => ?_) tf; conv => whnf)
      | (refine And.intro ft (fun _ => ?_); conv => whnf)
      | (refine And.intro (by kernel_rfl) ?_; conv => whnf)
      | (refine And.intro (by decide) ?_; conv => whnf)
      | (refine And.intro (fun _ => ?_) (fun h => absurd h (by decide)); conv => whnf)
      | (refine And.intro (fun h => absurd h (by decide)) (fun _ => ?_); conv => whnf)
      | (refine And.intro (fun _ => ?_) (fun _ => ?_) <;> conv => whnf)
      | (refine ⟨_, _, lg_make, ?_⟩; conv => whnf)
      | (refine ⟨_, _, new_sat.nw rfl, ?_⟩; conv => whnf)
      | (refine ⟨_, _, eqP (by kernel_rfl), ?_⟩; conv => whnf)))
    all_goals try (exfalso; simp only [decide_eq_true_eq, decide_eq_false_iff_not, Bool.not_eq_true', Bool.not_eq_false', Bool.not_eq_true, Bool.not_eq_false, beq_iff_eq, bne_iff_ne, beq_eq_false_iff_ne, bne_eq_false_iff_eq, ne_eq, Decidable.not_not] at *; first | omega | contradiction | (simp_all; done) | (simp_all; omega))
    all_goals try (refine Or.inl ?_; conv => whnf)
    repeat (any_goals (first
      | exact True.intro
      | (refine And.intro (fun _ => ?_) tf; conv => whnf)
      | (refine And.intro ft (fun _ => ?_); conv => whnf)
      | (refine And.intro (by kernel_rfl) ?_; conv => whnf)
      | (refine And.intro (by decide) ?_; conv => whnf)
      | (refine And.intro (fun _ => ?_) (fun h => absurd h (by decide)); conv => whnf)
      | (refine And.intro (fun h => absurd h (by decide)) (fun _ => ?_); conv => whnf)
      | (refine And.intro (fun _ => ?_) (fun _ => ?_) <;> conv => whnf)
      | (refine ⟨_, _, lg_make, ?_⟩; conv => whnf)
      | (refine ⟨_, _, new_sat.nw rfl, ?_⟩; conv => whnf)
      | (refine ⟨_, _, eqP (by kernel_rfl), ?_⟩; conv => whnf)))
    all_goals try (exfalso; simp only [decide_eq_true_eq, decide_eq_false_iff_not, Bool.not_eq_true', Bool.not_eq_false', Bool.not_eq_true, Bool.not_eq_false, beq_iff_eq, bne_iff_ne, beq_eq_false_iff_ne, bne_eq_false_iff_eq, ne_eq, Decidable.not_not] at *; first | omega | contradiction | (simp_all; done) | (simp_all; omega))
    refine Or.inr ⟨Unit, fun _ => True, fun _ => ([(7, .ptr 2 0), (6, .d (.sl 5 (((madeM l).1.map fo).map factR))), (5, .mp 0), (1, iA turn)], [mapO eI eV (madeM l).1 (madeM l).2, .dead, .cells [.mp 3], mapO eI eV (madeM l).1 (madeM l).2]), ?_, fun _ _ => ?_⟩
    · conv => whnf
      repeat (any_goals (first
        | exact True.intro
        | (refine And.intro (fun _ => ?_) tf; conv => whnf)
        | (refine And.intro ft (fun _ => ?_); conv => whnf)
        | (refine And.intro (by kernel_rfl) ?_; conv => whnf)
        | (refine And.intro (by decide) ?_; conv => whnf)
        | (refine And.intro (fun _ => ?_) (fun h => absurd h (by decide)); conv => whnf)
        | (refine And.intro (fun h => absurd h (by decide)) (fun _ => ?_); conv => whnf)
        | (refine And.intro (fun _ => ?_) (fun _ => ?_) <;> conv => whnf)))
      refine ⟨Nat × (Led × Nat), fun y => y.1 ≤ l.length ∧ y.2 = madeM (l.take y.1), fun y => ([(8, iA y.1), (7, .ptr 2 0), (6, .own 1), (5, .mp 0), (1, iA turn), (0, .d (.sl 5 (l.map factR)))], [mapO eI eV y.2.1 y.2.2, .sl 5 ((y.2.1.map fo).map factR), .cells [.mp 3], mapO eI eV y.2.1 y.2.2]), fun y => l.length - y.1, ⟨(0, ([], 0)), ⟨Nat.zero_le _, rfl⟩, ?_⟩, ?_⟩
      · all_goals refine ⟨[], ?_⟩
        repeat (any_goals (first | exact True.intro | exact rfl | with_reducible_and_instances rfl | exact (by kernel_rfl) | refine And.intro ?_ ?_))
        all_goals conv => whnf
      rintro ⟨k, s⟩ ⟨hk, hs⟩
      replace hk : k ≤ l.length := hk
      replace hs : s = madeM (l.take k) := hs
      by_cases hlt : k < l.length
      · have hx : l[k]? = some l[k] := List.getElem?_eq_getElem hlt
        generalize l[k] = f at hx
        obtain ⟨⟨a, b, d⟩, r, z⟩ := f
        have hst := made_take_succ hx
        rw [← hs] at hst
        unfold stepM at hst
        simp only at hst
        have hsl : s.1.length ≤ 60 := by
          have h1 := (made_ok (l.take k)).ln
          rw [← hs, List.length_take] at h1
          omega
        obtain ⟨m, c⟩ := s
        simp only at hst hsl
        clear hs
        have nt := note_sat m c a b d r z
        have os := of_sat m c a b d
        obtain ⟨F, hF⟩ : ∃ F, findX m (a, b, d) = F := ⟨_, rfl⟩
        rw [hF] at os
        have fl := fun L i n ty mx kx (hi : L[i]? = some (mapO eI eV m c)) => lg_at (L := L) (n := n) (ty := ty) (mx := mx) (kx := kx) (a, b, d) hF hi
        have hw : IntKind.i64.wrap ((k : Int) + 1) = ((k + 1 : Nat) : Int) := by rw [wi (by omega) (by omega)]; rfl
        rcases noteR_cases m c a b d (r, z) with ⟨e, hbad⟩ | ⟨_, o, ho, ⟨h1, e⟩ | ⟨h1, e⟩⟩ | ⟨hb, hn, e⟩
        · rw [e] at nt hst
          clear hF
          rcases F with _ | ⟨o1, o2⟩
          · conv => whnf
            repeat (any_goals (first
              | exact True.intro
              | (refine ⟨k, _, rfl, map_get hx, ?_⟩; conv => whnf)
              | (refine Or.inl ?_; conv => whnf)
              | (refine And.intro (fun _ => ?_) tf; conv => whnf)
              | (refine And.intro ft (fun _ => ?_); conv => whnf)
              | (refine And.intro (by kernel_rfl) ?_; conv => whnf)
              | (refine And.intro (by decide) ?_; conv => whnf)
              | (refine And.intro (fun _ => ?_) (fun h => absurd h (by decide)); conv => whnf)
              | (refine And.intro (fun h => absurd h (by decide)) (fun _ => ?_); conv => whnf)
              | (refine And.intro (fun _ => ?_) (fun _ => ?_) <;> conv => whnf)
              | (refine ⟨_, _, nt.at2 2 3 rfl rfl rfl rfl rfl, ?_⟩; conv => whnf)
              | (refine ⟨_, _, os.at2 2 3 rfl rfl rfl rfl rfl, ?_⟩; conv => whnf)
              | (refine ⟨_, _, fl _ _ _ _ _ _ rfl, ?_⟩; conv => whnf)
              | (refine ⟨_, _, neB (by kernel_rfl), ?_⟩; conv => whnf)
              | (refine ⟨_, _, neS (by kernel_rfl), ?_⟩; conv => whnf)))
            all_goals try (exfalso; simp only [decide_eq_true_eq, decide_eq_false_iff_not, Bool.not_eq_true', Bool.not_eq_false', Bool.not_eq_true, Bool.not_eq_false, beq_iff_eq, bne_iff_ne, beq_eq_false_iff_ne, bne_eq_false_iff_eq, ne_eq, Decidable.not_not] at *; first | omega | contradiction | (simp_all; done) | (simp_all; omega))
            refine ⟨(k + 1, (m, c)), ⟨hlt, hst.symm⟩, show l.length - (k + 1) < l.length - k by omega, ?_⟩
            all_goals refine ⟨[], ?_⟩
            repeat (any_goals (first | exact True.intro | exact rfl | with_reducible_and_instances rfl | exact (by kernel_rfl) | refine And.intro ?_ ?_))
            all_goals conv => whnf
            exact wk1 (by omega)
          · conv => whnf
            repeat (any_goals (first
              | exact True.intro
              | (refine ⟨k, _, rfl, map_get hx, ?_⟩; conv => whnf)
              | (refine Or.inl ?_; conv => whnf)
              | (refine And.intro (fun _ => ?_) tf; conv => whnf)
              | (refine And.intro ft (fun _ => ?_); conv => whnf)
              | (refine And.intro (by kernel_rfl) ?_; conv => whnf)
              | (refine And.intro (by decide) ?_; conv => whnf)
              | (refine And.intro (fun _ => ?_) (fun h => absurd h (by decide)); conv => whnf)
              | (refine And.intro (fun h => absurd h (by decide)) (fun _ => ?_); conv => whnf)
              | (refine And.intro (fun _ => ?_) (fun _ => ?_) <;> conv => whnf)
              | (refine ⟨_, _, nt.at2 2 3 rfl rfl rfl rfl rfl, ?_⟩; conv => whnf)
              | (refine ⟨_, _, os.at2 2 3 rfl rfl rfl rfl rfl, ?_⟩; conv => whnf)
              | (refine ⟨_, _, fl _ _ _ _ _ _ rfl, ?_⟩; conv => whnf)
              | (refine ⟨_, _, neB (by kernel_rfl), ?_⟩; conv => whnf)
              | (refine ⟨_, _, neS (by kernel_rfl), ?_⟩; conv => whnf)))
            all_goals try (exfalso; simp only [decide_eq_true_eq, decide_eq_false_iff_not, Bool.not_eq_true', Bool.not_eq_false', Bool.not_eq_true, Bool.not_eq_false, beq_iff_eq, bne_iff_ne, beq_eq_false_iff_ne, bne_eq_false_iff_eq, ne_eq, Decidable.not_not] at *; first | omega | contradiction | (simp_all; done) | (simp_all; omega))
            refine ⟨(k + 1, (m, c)), ⟨hlt, hst.symm⟩, show l.length - (k + 1) < l.length - k by omega, ?_⟩
            all_goals refine ⟨[], ?_⟩
            repeat (any_goals (first | exact True.intro | exact rfl | with_reducible_and_instances rfl | exact (by kernel_rfl) | refine And.intro ?_ ?_))
            all_goals conv => whnf
            exact wk1 (by omega)
        · obtain rfl : F = some o := by rw [← hF, ho]
          subst h1
          rw [e] at nt hst
          clear hF ho
          conv => whnf
          repeat (any_goals (first
            | exact True.intro
            | (refine ⟨k, _, rfl, map_get hx, ?_⟩; conv => whnf)
            | (refine Or.inl ?_; conv => whnf)
            | (refine And.intro (fun _ => ?_) tf; conv => whnf)
            | (refine And.intro ft (fun _ => ?_); conv => whnf)
            | (refine And.intro (by kernel_rfl) ?_; conv => whnf)
            | (refine And.intro (by decide) ?_; conv => whnf)
            | (refine And.intro (fun _ => ?_) (fun h => absurd h (by decide)); conv => whnf)
            | (refine And.intro (fun h => absurd h (by decide)) (fun _ => ?_); conv => whnf)
            | (refine And.intro (fun _ => ?_) (fun _ => ?_) <;> conv => whnf)
            | (refine ⟨_, _, nt.at2 2 3 rfl rfl rfl rfl rfl, ?_⟩; conv => whnf)
            | (refine ⟨_, _, os.at2 2 3 rfl rfl rfl rfl rfl, ?_⟩; conv => whnf)
            | (refine ⟨_, _, fl _ _ _ _ _ _ rfl, ?_⟩; conv => whnf)
            | (refine ⟨_, _, neB (by kernel_rfl), ?_⟩; conv => whnf)
            | (refine ⟨_, _, neS (by kernel_rfl), ?_⟩; conv => whnf)))
          all_goals try (exfalso; simp only [decide_eq_true_eq, decide_eq_false_iff_not, Bool.not_eq_true', Bool.not_eq_false', Bool.not_eq_true, Bool.not_eq_false, beq_iff_eq, bne_iff_ne, beq_eq_false_iff_ne, bne_eq_false_iff_eq, ne_eq, Decidable.not_not] at *; first | omega | contradiction | (simp_all; done) | (simp_all; omega))
          refine ⟨(k + 1, (m, c)), ⟨hlt, hst.symm⟩, show l.length - (k + 1) < l.length - k by omega, ?_⟩
          all_goals refine ⟨[], ?_⟩
          repeat (any_goals (first | exact True.intro | exact rfl | with_reducible_and_instances rfl | exact (by kernel_rfl) | refine And.intro ?_ ?_))
          all_goals conv => whnf
          exact wk1 (by omega)
        · obtain rfl : F = some o := by rw [← hF, ho]
          obtain ⟨o1, o2⟩ := o
          rw [e] at nt hst
          clear hF ho
          conv => whnf
          repeat (any_goals (first
            | exact True.intro
            | (refine ⟨k, _, rfl, map_get hx, ?_⟩; conv => whnf)
            | (refine Or.inl ?_; conv => whnf)
            | (refine And.intro (fun _ => ?_) tf; conv => whnf)
            | (refine And.intro ft (fun _ => ?_); conv => whnf)
            | (refine And.intro (by kernel_rfl) ?_; conv => whnf)
            | (refine And.intro (by decide) ?_; conv => whnf)
            | (refine And.intro (fun _ => ?_) (fun h => absurd h (by decide)); conv => whnf)
            | (refine And.intro (fun h => absurd h (by decide)) (fun _ => ?_); conv => whnf)
            | (refine And.intro (fun _ => ?_) (fun _ => ?_) <;> conv => whnf)
            | (refine ⟨_, _, nt.at2 2 3 rfl rfl rfl rfl rfl, ?_⟩; conv => whnf)
            | (refine ⟨_, _, os.at2 2 3 rfl rfl rfl rfl rfl, ?_⟩; conv => whnf)
            | (refine ⟨_, _, fl _ _ _ _ _ _ rfl, ?_⟩; conv => whnf)
            | (refine ⟨_, _, neB (by kernel_rfl), ?_⟩; conv => whnf)
            | (refine ⟨_, _, neS (by kernel_rfl), ?_⟩; conv => whnf)))
          all_goals try (exfalso; simp only [decide_eq_true_eq, decide_eq_false_iff_not, Bool.not_eq_true', Bool.not_eq_false', Bool.not_eq_true, Bool.not_eq_false, beq_iff_eq, bne_iff_ne, beq_eq_false_iff_ne, bne_eq_false_iff_eq, ne_eq, Decidable.not_not] at *; first | omega | contradiction | (simp_all; done) | (simp_all; omega))
          refine ⟨(k + 1, (m, c)), ⟨hlt, hst.symm⟩, show l.length - (k + 1) < l.length - k by omega, ?_⟩
          all_goals refine ⟨[], ?_⟩
          repeat (any_goals (first | exact True.intro | exact rfl | with_reducible_and_instances rfl | exact (by kernel_rfl) | refine And.intro ?_ ?_))
          all_goals conv => whnf
          exact wk1 (by omega)
        · obtain rfl : F = none := by rw [← hF, hn]
          rw [e] at nt hst
          have hp := putX_none (v := (r, z)) (c := c) hn
          have hc : clkX (a, b, d) m c = c + 1 := by unfold clkX hasX; rw [hn]; rfl
          have hf2 := findX_app (v := (r, z)) (c := c) hn
          have os2 := of_sat (m ++ [((a, b, d), (r, z), c)]) (c + 1) a b d
          rw [hf2] at os2
          have pu := fun L i n ty mx kx vx (hi : L[i]? = some (mapO eI eV m c)) => lg_put (L := L) (n := n) (ty := ty) (mx := mx) (kx := kx) (vx := vx) (a, b, d) (r, z) hi
          rw [hp, hc] at pu
          have fl2 := fun L i n ty mx kx (hi : L[i]? = some (mapO eI eV (m ++ [((a, b, d), (r, z), c)]) (c + 1))) => lg_at (L := L) (n := n) (ty := ty) (mx := mx) (kx := kx) (a, b, d) hf2 hi
          have hb4 : (((m.map fo).map factR).length + 1) * 40 ≤ 140737488355328 := by rw [List.length_map, List.length_map]; omega
          clear hF hn hp hc hf2
          conv => whnf
          repeat (any_goals (first
            | exact True.intro
            | (refine ⟨k, _, rfl, map_get hx, ?_⟩; conv => whnf)
            | (refine Or.inl ?_; conv => whnf)
            | (refine And.intro (fun _ => ?_) tf; conv => whnf)
            | (refine And.intro ft (fun _ => ?_); conv => whnf)
            | (refine And.intro (by kernel_rfl) ?_; conv => whnf)
            | (refine And.intro (by decide) ?_; conv => whnf)
            | (refine And.intro (fun _ => ?_) (fun h => absurd h (by decide)); conv => whnf)
            | (refine And.intro (fun h => absurd h (by decide)) (fun _ => ?_); conv => whnf)
            | (refine And.intro (fun _ => ?_) (fun _ => ?_) <;> conv => whnf)
            | (refine ⟨_, _, nt.at2 2 3 rfl rfl rfl rfl rfl, ?_⟩; conv => whnf)
            | (refine ⟨_, _, os.at2 2 3 rfl rfl rfl rfl rfl, ?_⟩; conv => whnf)
            | (refine ⟨_, _, fl _ _ _ _ _ _ rfl, ?_⟩; conv => whnf)
            | (refine ⟨_, _, neB (by kernel_rfl), ?_⟩; conv => whnf)
            | (refine ⟨_, _, neS (by kernel_rfl), ?_⟩; conv => whnf)
            | (refine ⟨_, _, pu _ _ _ _ _ _ _ rfl, ?_⟩; conv => whnf)
            | (refine ⟨_, _, ap 5 40 (by kernel_rfl) rfl rfl hb4, ?_⟩; conv => whnf)
            | (refine ⟨_, _, os2.at2 2 3 rfl rfl rfl rfl rfl, ?_⟩; conv => whnf)
            | (refine ⟨_, _, fl2 _ _ _ _ _ _ rfl, ?_⟩; conv => whnf)))
          all_goals try (exfalso; simp only [decide_eq_true_eq, decide_eq_false_iff_not, Bool.not_eq_true', Bool.not_eq_false', Bool.not_eq_true, Bool.not_eq_false, beq_iff_eq, bne_iff_ne, beq_eq_false_iff_ne, bne_eq_false_iff_eq, ne_eq, Decidable.not_not] at *; first | omega | contradiction | (simp_all; done) | (simp_all; omega))
          have ea : ((m ++ [((a, b, d), (r, z), c)]).map fo).map factR = (m.map fo).map factR ++ [factR ((a, b, d), (r, z))] := by rw [List.map_append, List.map_append]; rfl
          refine ⟨(k + 1, (m ++ [((a, b, d), (r, z), c)], c + 1)), ⟨hlt, hst.symm⟩, show l.length - (k + 1) < l.length - k by omega, ?_⟩
          refine (show Weak 0 _ _ [(8, iA ((k + 1 : Nat) : Int)), (7, .ptr 2 0), (6, .own 1), (5, .mp 0), (1, iA turn), (0, .d (.sl 5 (l.map factR)))] [mapO eI eV (m ++ [((a, b, d), (r, z), c)]) (c + 1), .sl 5 (((m ++ [((a, b, d), (r, z), c)]).map fo).map factR), .cells [.mp 3], mapO eI eV (m ++ [((a, b, d), (r, z), c)]) (c + 1)] from ?_)
          rw [ea]
          all_goals refine ⟨[(1, 7)], ?_⟩
          repeat (any_goals (first | exact True.intro | exact rfl | with_reducible_and_instances rfl | exact (by kernel_rfl) | refine And.intro ?_ ?_))
          all_goals conv => whnf
          exact wk1 (by omega)
      · have hke : k = l.length := by omega
        subst hke
        rw [List.take_length] at hs
        subst hs
        conv => whnf
        repeat (any_goals (first
          | exact True.intro
          | (refine And.intro (fun _ => ?_) tf; conv => whnf)
          | (refine And.intro ft (fun _ => ?_); conv => whnf)
          | (refine And.intro (by kernel_rfl) ?_; conv => whnf)
          | (refine And.intro (by decide) ?_; conv => whnf)
          | (refine And.intro (fun _ => ?_) (fun h => absurd h (by decide)); conv => whnf)
          | (refine And.intro (fun h => absurd h (by decide)) (fun _ => ?_); conv => whnf)
          | (refine And.intro (fun _ => ?_) (fun _ => ?_) <;> conv => whnf)))
        all_goals try (exfalso; simp only [decide_eq_true_eq, decide_eq_false_iff_not, Bool.not_eq_true', Bool.not_eq_false', Bool.not_eq_true, Bool.not_eq_false, beq_iff_eq, bne_iff_ne, beq_eq_false_iff_ne, bne_eq_false_iff_eq, ne_eq, Decidable.not_not] at *; first | omega | contradiction | (simp_all; done) | (simp_all; omega))
        all_goals try (refine Or.inl ?_; conv => whnf)
        repeat (any_goals (first
          | exact True.intro
          | (refine And.intro (fun _ => ?_) tf; conv => whnf)
          | (refine And.intro ft (fun _ => ?_); conv => whnf)
          | (refine And.intro (by kernel_rfl) ?_; conv => whnf)
          | (refine And.intro (by decide) ?_; conv => whnf)
          | (refine And.intro (fun _ => ?_) (fun h => absurd h (by decide)); conv => whnf)
          | (refine And.intro (fun h => absurd h (by decide)) (fun _ => ?_); conv => whnf)
          | (refine And.intro (fun _ => ?_) (fun _ => ?_) <;> conv => whnf)))
        all_goals try (exfalso; simp only [decide_eq_true_eq, decide_eq_false_iff_not, Bool.not_eq_true', Bool.not_eq_false', Bool.not_eq_true, Bool.not_eq_false, beq_iff_eq, bne_iff_ne, beq_eq_false_iff_ne, bne_eq_false_iff_eq, ne_eq, Decidable.not_not] at *; first | omega | contradiction | (simp_all; done) | (simp_all; omega))
        refine ⟨(), trivial, ?_⟩
        all_goals refine ⟨[], ?_⟩
        repeat (any_goals (first | exact True.intro | exact rfl | with_reducible_and_instances rfl | exact (by kernel_rfl) | refine And.intro ?_ ?_))
        all_goals conv => whnf
    · have hok := made_ok l
      have hgd := made_good l l.length (Nat.le_refl _)
      rw [List.take_length] at hgd
      generalize (madeM l).1 = m at hok hgd ⊢
      generalize (madeM l).2 = c at hok hgd ⊢
      have hml : m.length ≤ 60 := Nat.le_trans hok.ln hlen
      have hrl : ((m.map fo).map factR).length = m.length := by rw [List.length_map, List.length_map]
      have hne : IntKind.i64.wrap ((((m.map fo).map factR).length : Int) + 1) ≠ 0 := by rw [hrl, wi (by omega) (by omega)]; omega
      conv => whnf
      repeat (any_goals (first
        | exact True.intro
        | (refine And.intro hne ?_; conv => whnf)
        | (refine And.intro (fun _ => ?_) tf; conv => whnf)
        | (refine And.intro ft (fun _ => ?_); conv => whnf)
        | (refine And.intro (by kernel_rfl) ?_; conv => whnf)
        | (refine And.intro (by decide) ?_; conv => whnf)
        | (refine And.intro (fun _ => ?_) (fun h => absurd h (by decide)); conv => whnf)
        | (refine And.intro (fun h => absurd h (by decide)) (fun _ => ?_); conv => whnf)
        | (refine And.intro (fun _ => ?_) (fun _ => ?_) <;> conv => whnf)))
      have hw1 : IntKind.i64.wrap ((((m.map fo).map factR).length : Int) + 1) = (m.length : Int) + 1 := by rw [hrl, wi (by omega) (by omega)]
      obtain ⟨K, hK, hKl⟩ : ∃ K : Nat, turn.tmod (IntKind.i64.wrap ((((m.map fo).map factR).length : Int) + 1)) = (K : Int) ∧ K ≤ m.length := by
        rw [hw1, Int.tmod_eq_emod_of_nonneg ht0]
        have h1 := Int.emod_nonneg turn (show (m.length : Int) + 1 ≠ 0 by omega)
        have h2 := Int.emod_lt_of_pos turn (show (0 : Int) < (m.length : Int) + 1 by omega)
        exact ⟨(turn % ((m.length : Int) + 1)).toNat, by omega, by omega⟩
      rw [hK]
      have hKr : K ≤ ((m.map fo).map factR).length := by omega
      have te := turn_eq hok hgd K
      have eU : ((m.map fo).drop K ++ (m.map fo).take K).map factR = ((m.map fo).map factR).drop K ++ ((m.map fo).map factR).take K := by rw [List.map_append, List.map_drop, List.map_take]
      have hUl : ((m.map fo).drop K ++ (m.map fo).take K).length ≤ 60 := by
        rw [List.length_append, List.length_drop, List.length_take, List.length_map]; omega
      have mu := made_sat ((m.map fo).drop K ++ (m.map fo).take K) (by omega)
      rw [eU] at mu
      have hm2 := (made_ok ((m.map fo).drop K ++ (m.map fo).take K)).ln
      generalize (madeM ((m.map fo).drop K ++ (m.map fo).take K)).1 = m2 at te mu hm2
      generalize (madeM ((m.map fo).drop K ++ (m.map fo).take K)).2 = c2 at mu
      have st := same_two (c2 := c2) hok.fr (by omega) (show m2.length ≤ 1000000 by omega)
      rw [te] at st
      have ls := len_sat m c
      have hb1 : (([] : List (List D)).length + (((m.map fo).map factR).drop K).length) * 40 ≤ 140737488355328 := by rw [List.length_drop]; simp; omega
      have hb2 : ((((m.map fo).map factR).drop K).length + (((m.map fo).map factR).take K).length) * 40 ≤ 140737488355328 := by rw [List.length_drop, List.length_take]; omega
      repeat (any_goals (first
        | exact True.intro
        | (refine Or.inl ?_; conv => whnf)
        | (refine And.intro (fun _ => ?_) tf; conv => whnf)
        | (refine And.intro ft (fun _ => ?_); conv => whnf)
        | (refine And.intro (by kernel_rfl) ?_; conv => whnf)
        | (refine And.intro (by decide) ?_; conv => whnf)
        | (refine And.intro (fun _ => ?_) (fun h => absurd h (by decide)); conv => whnf)
        | (refine And.intro (fun h => absurd h (by decide)) (fun _ => ?_); conv => whnf)
        | (refine And.intro (fun _ => ?_) (fun _ => ?_) <;> conv => whnf)
        | (refine ⟨_, _, from_d 5 40 (by kernel_rfl) hKr, ?_⟩; conv => whnf)
        | (refine ⟨_, _, upto_d 5 40 (by kernel_rfl) hKr, ?_⟩; conv => whnf)
        | (refine ⟨_, _, apd 5 40 (by kernel_rfl) rfl hb1, ?_⟩; conv => whnf)
        | (refine ⟨_, _, apd 5 40 (by kernel_rfl) rfl hb2, ?_⟩; conv => whnf)
        | (refine ⟨_, _, mu.frzNew rfl, ?_⟩; conv => whnf)
        | (refine ⟨_, _, neP (by kernel_rfl), ?_⟩; conv => whnf)
        | (refine ⟨_, _, st.at4 2 3 7 8 rfl rfl rfl rfl rfl rfl rfl, ?_⟩; conv => whnf)
        | (refine ⟨_, _, ls.at2 2 3 rfl rfl rfl rfl rfl, ?_⟩; conv => whnf)
        | (refine ⟨_, _, lg_len rfl, ?_⟩; conv => whnf)))
      all_goals refine ⟨[], ?_⟩
      repeat (any_goals (first | exact True.intro | exact rfl | with_reducible_and_instances rfl | exact (by kernel_rfl) | refine And.intro ?_ ?_))
      all_goals conv => whnf
      all_goals exact congrArg (fun b => (.d (.v (.bool b)) : AV)) (show ((m.length : Int) == (m.length : Int)) = true by simp)
  · refine sat_of_vc (T := tiOf Try.prog) (E := E0) Try.func4 rfl rfl hE0 hm0 rfl ?_
    conv => whnf
    repeat (any_goals (first
      | exact True.intro
      | (refine And.intro (fun _ => ?_) tf; conv => whnf)
      | (refine And.intro ft (fun _ => ?_); conv => whnf)
      | (refine And.intro (by kernel_rfl) ?_; conv => whnf)
      | (refine And.intro (by decide) ?_; conv => whnf)
      | (refine And.intro (fun _ => ?_) (fun h => absurd h (by decide)); conv => whnf)
      | (refine And.intro (fun h => absurd h (by decide)) (fun _ => ?_); conv => whnf)
      | (refine And.intro (fun _ => ?_) (fun _ => ?_) <;> conv => whnf)
      | (refine ⟨_, _, aliveL_sat.pu rfl rfl, ?_⟩; conv => whnf)))
    all_goals try (exfalso; simp only [decide_eq_true_eq, decide_eq_false_iff_not, Bool.not_eq_true', Bool.not_eq_false', Bool.not_eq_true, Bool.not_eq_false, beq_iff_eq, bne_iff_ne, beq_eq_false_iff_ne, bne_eq_false_iff_eq, ne_eq, Decidable.not_not] at *; first | omega | contradiction | (simp_all; done) | (simp_all; omega))
    all_goals try (refine Or.inl ?_; conv => whnf)
    repeat (any_goals (first
      | exact True.intro
      | (refine And.intro (fun _ => ?_) tf; conv => whnf)
      | (refine And.intro ft (fun _ => ?_); conv => whnf)
      | (refine And.intro (by kernel_rfl) ?_; conv => whnf)
      | (refine And.intro (by decide) ?_; conv => whnf)
      | (refine And.intro (fun _ => ?_) (fun h => absurd h (by decide)); conv => whnf)
      | (refine And.intro (fun h => absurd h (by decide)) (fun _ => ?_); conv => whnf)
      | (refine And.intro (fun _ => ?_) (fun _ => ?_) <;> conv => whnf)
      | (refine ⟨_, _, aliveL_sat.pu rfl rfl, ?_⟩; conv => whnf)))
    all_goals try (exfalso; simp only [decide_eq_true_eq, decide_eq_false_iff_not, Bool.not_eq_true', Bool.not_eq_false', Bool.not_eq_true, Bool.not_eq_false, beq_iff_eq, bne_iff_ne, beq_eq_false_iff_ne, bne_eq_false_iff_eq, ne_eq, Decidable.not_not] at *; first | omega | contradiction | (simp_all; done) | (simp_all; omega))
    all_goals try (refine Or.inl ?_; conv => whnf)
    repeat (any_goals (first
      | exact True.intro
      | (refine And.intro (fun _ => ?_) tf; conv => whnf)
      | (refine And.intro ft (fun _ => ?_); conv => whnf)
      | (refine And.intro (by kernel_rfl) ?_; conv => whnf)
      | (refine And.intro (by decide) ?_; conv => whnf)
      | (refine And.intro (fun _ => ?_) (fun h => absurd h (by decide)); conv => whnf)
      | (refine And.intro (fun h => absurd h (by decide)) (fun _ => ?_); conv => whnf)
      | (refine And.intro (fun _ => ?_) (fun _ => ?_) <;> conv => whnf)))
    all_goals try (exfalso; simp only [decide_eq_true_eq, decide_eq_false_iff_not, Bool.not_eq_true', Bool.not_eq_false', Bool.not_eq_true, Bool.not_eq_false, beq_iff_eq, bne_iff_ne, beq_eq_false_iff_ne, bne_eq_false_iff_eq, ne_eq, Decidable.not_not] at *; first | omega | contradiction | (simp_all; done) | (simp_all; omega))
    all_goals refine ⟨[], ?_⟩
    repeat (any_goals (first | exact True.intro | exact rfl | with_reducible_and_instances rfl | exact (by kernel_rfl) | refine And.intro ?_ ?_))
    all_goals conv => whnf
theorem once_law (H : Type) (enc : TypeId × Value → H) : LawWalk H enc Try.prog 4 Try.f4 :=
  lawWalk_of_sat (by kernel_rfl) fun args h => by
    obtain ⟨r, _, rfl, h1, h⟩ := h
    obtain ⟨t, _, rfl, h2, h⟩ := h
    obtain rfl := h
    obtain ⟨l, rfl, _⟩ := ty_facts h1
    obtain ⟨t, rfl, ht⟩ := ty_i64 h2 Try.underlying3
    exact once_sat l t ht
end Go.Proofs.Ytefidbifgilekaa
