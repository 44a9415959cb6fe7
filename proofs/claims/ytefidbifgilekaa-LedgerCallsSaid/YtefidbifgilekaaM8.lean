/- Parts LgF, LgG, LgH, LgI, LgJ, EqA, LgK, LgL, LgM, LgO, Fz of the proof, put together. -/
import Derived.Test.YtefidbifgilekaaM7
import Derived.ChangeKeysEq
/- ledger: New, Note, Of, Len. -/
namespace Go.Proofs.Ytefidbifgilekaa
set_option linter.unusedSimpArgs false
set_option linter.unusedVariables false
open Go.RowKit Go.Sort
set_option maxRecDepth 100000
abbrev ledO (m : Led) (c : Nat) : List AObj := [.cells [.mp 1], mapO eI eV m c]
theorem zV : (Try.prog.info? 33).bind (·.zero) = some (vOf (eV (0, 0))) := by kernel_rfl
theorem lg_make {ty n : Nat} {L : List AObj} : Does Try.prog (.makeMap 55 none) ty L n [] ⟨[], [], [mapO eI eV [] 0]⟩ (.mp n) := mp_make
section
variable {ty n i c : Nat} {L : List AObj} {m : Led} {mx kx vx : Operand}
theorem lg_look (x : Id3) (hi : L[i]? = some (mapO eI eV m c)) : Does Try.prog (.lookup 55 mx kx true) ty L n [.mp i, .d (eI x)] ⟨[i], [], []⟩ (.tup [.d (eV ((findX m x).getD (0, 0))), .d (.v (.bool (findX m x).isSome))]) :=
  mp_looks keyI eV_cl (0, 0) Try.underlying55 zV x hi
theorem lg_put (x : Id3) (v : Ver) (hi : L[i]? = some (mapO eI eV m c)) : Does Try.prog (.mapUpdate 55 mx kx vx) ty L n [.mp i, .d (eI x), .d (eV v)] ⟨[i], [(i, mapO eI eV (putX x v c m) (clkX x m c))], []⟩ .any :=
  mp_put keyI eV_cl Try.underlying55 x v hi
theorem lg_len (hi : L[i]? = some (mapO eI eV m c)) : Does Try.prog (.call { callee := .builtin .len, args := #[mx], argTypes := #[55] }) ty L n [.mp i] ⟨[i], [], []⟩ (.d (.v (.int .i64 m.length))) :=
  mp_len Try.underlying55 hi
end
theorem new_sat : Sat Try.prog 11 [] [] (.ptr 0 0) (ledO [] 0) := by
  refine sat_of_vc (T := tiOf Try.prog) (E := E0) Try.func11 rfl rfl hE0 hm0 rfl ?_
  conv => whnf
  repeat (any_goals (first
    | exact True.intro
    | (refine Or.inl ?_; conv => whnf)
    | (refine And.intro (fun _ => ?_) tf; conv => whnf)
    | (refine And.intro ft (fun _ => ?_); conv => whnf)
    | (refine And.intro (by kernel_rfl) ?_; conv => whnf)
    | (refine And.intro (by decide) ?_; conv => whnf)
    | (refine And.intro (fun _ => ?_) (fun h => absurd h (by decide)); conv => whnf)
    | (refine And.intro (fun h => absurd h (by decide)) (fun _ => ?_); conv => whnf)
    | (refine And.intro (fun _ => ?_) (fun _ => ?_) <;> conv => whnf)
    | (refine ⟨_, _, lg_make, ?_⟩; conv => whnf)))
  all_goals refine ⟨[(0, 1)], ?_⟩
  repeat (any_goals (first | exact True.intro | exact rfl | with_reducible_and_instances rfl | exact (by kernel_rfl) | refine And.intro ?_ ?_))
  all_goals conv => whnf
theorem len_sat (m : Led) (c : Nat) : Sat Try.prog 22 [.ptr 0 0] (ledO m c) (iA m.length) (ledO m c) := by
  refine sat_of_vc (T := tiOf Try.prog) (E := E0) Try.func22 rfl rfl hE0 hm0 rfl ?_
  conv => whnf
  repeat (any_goals (first
    | exact True.intro
    | (refine Or.inl ?_; conv => whnf)
    | (refine And.intro (fun _ => ?_) tf; conv => whnf)
    | (refine And.intro ft (fun _ => ?_); conv => whnf)
    | (refine And.intro (by kernel_rfl) ?_; conv => whnf)
    | (refine And.intro (by decide) ?_; conv => whnf)
    | (refine And.intro (fun _ => ?_) (fun h => absurd h (by decide)); conv => whnf)
    | (refine And.intro (fun h => absurd h (by decide)) (fun _ => ?_); conv => whnf)
    | (refine And.intro (fun _ => ?_) (fun _ => ?_) <;> conv => whnf)
    | (refine ⟨_, _, lg_len rfl, ?_⟩; conv => whnf)))
  all_goals refine ⟨[], ?_⟩
  repeat (any_goals (first | exact True.intro | exact rfl | with_reducible_and_instances rfl | exact (by kernel_rfl) | refine And.intro ?_ ?_))
  all_goals conv => whnf
theorem of_sat (m : Led) (c : Nat) (a b d : Int) : Sat Try.prog 16 [.ptr 0 0, .d (eI (a, b, d))] (ledO m c) (.tup [.d (eV ((findX m (a, b, d)).getD (0, 0))), bA (findX m (a, b, d)).isSome]) (ledO m c) := by
  refine sat_of_vc (T := tiOf Try.prog) (E := E0) Try.func16 rfl rfl hE0 hm0 rfl ?_
  conv => whnf
  repeat (any_goals (first
    | exact True.intro
    | (refine Or.inl ?_; conv => whnf)
    | (refine And.intro (fun _ => ?_) tf; conv => whnf)
    | (refine And.intro ft (fun _ => ?_); conv => whnf)
    | (refine And.intro (by kernel_rfl) ?_; conv => whnf)
    | (refine And.intro (by decide) ?_; conv => whnf)
    | (refine And.intro (fun _ => ?_) (fun h => absurd h (by decide)); conv => whnf)
    | (refine And.intro (fun h => absurd h (by decide)) (fun _ => ?_); conv => whnf)
    | (refine And.intro (fun _ => ?_) (fun _ => ?_) <;> conv => whnf)
    | (refine ⟨_, _, lg_look (a, b, d) rfl, ?_⟩; conv => whnf)))
  all_goals refine ⟨[], ?_⟩
  repeat (any_goals (first | exact True.intro | exact rfl | with_reducible_and_instances rfl | exact (by kernel_rfl) | refine And.intro ?_ ?_))
  all_goals conv => whnf
def badN (a b d : Int) (v : Ver) : Prop := a < 0 ∨ b < 0 ∨ d < 0 ∨ v.1 < 0 ∨ 6 < v.1 ∨ (v.1 ≠ 0 ∧ v.2 ≠ 0)
instance {a b d : Int} {v : Ver} : Decidable (badN a b d v) := by unfold badN; infer_instance
/-- What Note leaves, and answers. -/
def noteR (m : Led) (c : Nat) (a b d : Int) (v : Ver) : (Led × Nat) × Int :=
  if badN a b d v then ((m, c), 10) else match findX m (a, b, d) with
    | some o => if o = v then ((m, c), 0) else ((m, c), 18)
    | none => ((m ++ [((a, b, d), v, c)], c + 1), 0)
theorem putX_none {m : Led} {x : Id3} {v : Ver} {c : Nat} (h : findX m x = none) : putX x v c m = m ++ [(x, v, c)] := by
  induction m with
  | nil => rfl
  | cons p m ih =>
    unfold findX at h
    rw [List.find?_cons] at h
    by_cases e : p.1 = x
    · simp [e] at h
    · simp only [e, decide_false] at h
      show (if p.1 = x then _ else p :: putX x v c m) = _
      rw [if_neg e, ih h]; rfl
theorem putX_same {m : Led} {x : Id3} {v : Ver} {c : Nat} (h : findX m x = some v) : putX x v c m = m := by
  induction m with
  | nil => cases h
  | cons p m ih =>
    unfold findX at h
    rw [List.find?_cons] at h
    by_cases e : p.1 = x
    · simp [e] at h
      show (if p.1 = x then (x, v, p.2.2) :: m else _) = _
      rw [if_pos e]
      obtain ⟨p1, p2, p3⟩ := p
      simp at e h
      subst e h; rfl
    · simp only [e, decide_false] at h
      show (if p.1 = x then _ else p :: putX x v c m) = _
      rw [if_neg e, ih h]
theorem note_sat (m : Led) (c : Nat) (a b d r z : Int) : Sat Try.prog 12 [.ptr 0 0, .d (eI (a, b, d)), .d (eV (r, z))] (ledO m c) (iA (noteR m c a b d (r, z)).2) (ledO (noteR m c a b d (r, z)).1.1 (noteR m c a b d (r, z)).1.2) := by
  have n1 : badN a b d (r, z) → noteR m c a b d (r, z) = ((m, c), 10) := fun h => if_pos h
  have n2 : ¬ badN a b d (r, z) → noteR m c a b d (r, z) = match findX m (a, b, d) with
    | some o => if o = (r, z) then ((m, c), 0) else ((m, c), 18)
    | none => ((m ++ [((a, b, d), (r, z), c)], c + 1), 0) := fun h => if_neg h
  unfold badN at n1 n2
  simp only at n1 n2
  have hp1 : findX m (a, b, d) = none → putX (a, b, d) (r, z) c m = m ++ [((a, b, d), (r, z), c)] := putX_none
  have hp2 : findX m (a, b, d) = some (r, z) → putX (a, b, d) (r, z) c m = m := putX_same
  have hc : clkX (a, b, d) m c = if (findX m (a, b, d)).isSome then c else c + 1 := rfl
  have hl := fun L i n ty mx kx (hi : L[i]? = some (mapO eI eV m c)) => lg_look (L := L) (n := n) (ty := ty) (mx := mx) (kx := kx) (a, b, d) hi
  have hu := fun L i n ty mx kx vx (hi : L[i]? = some (mapO eI eV m c)) => lg_put (L := L) (n := n) (ty := ty) (mx := mx) (kx := kx) (vx := vx) (a, b, d) (r, z) hi
  rw [hc] at hu
  generalize findX m (a, b, d) = fx at *
  generalize putX (a, b, d) (r, z) c m = mp at *
  generalize noteR m c a b d (r, z) = R at *
  clear hc
  rcases fx with _ | ⟨o1, o2⟩
  · have hp := hp1 rfl
    subst hp
    simp only at n2
    clear hp1 hp2
    refine sat_of_vc (T := tiOf Try.prog) (E := E0) Try.func12 rfl rfl hE0 hm0 rfl ?_
    conv => whnf
    repeat (any_goals (first
      | exact True.intro
      | (refine Or.inl ?_; conv => whnf)
      | (refine And.intro (fun _ => ?_) tf; conv => whnf)
      | (refine And.intro ft (fun _ => ?_); conv => whnf)
      | (refine And.intro (by kernel_rfl) ?_; conv => whnf)
      | (refine And.intro (by decide) ?_; conv => whnf)
      | (refine And.intro (fun _ => ?_) (fun h => absurd h (by decide)); conv => whnf)
      | (refine And.intro (fun h => absurd h (by decide)) (fun _ => ?_); conv => whnf)
      | (refine And.intro (fun _ => ?_) (fun _ => ?_) <;> conv => whnf)
      | (refine ⟨_, _, hl _ _ _ _ _ _ rfl, ?_⟩; conv => whnf)
      | (refine ⟨_, _, hu _ _ _ _ _ _ _ rfl, ?_⟩; conv => whnf)))
    all_goals clear hl hu
    all_goals first | rw [n1 (by (try simp only [decide_eq_true_eq, decide_eq_false_iff_not, Bool.not_eq_true', Bool.not_eq_false', Bool.not_eq_true, Bool.not_eq_false, beq_iff_eq, bne_iff_ne, beq_eq_false_iff_ne, bne_eq_false_iff_eq, ne_eq, Decidable.not_not, Int.natCast_eq_zero] at *); first | omega | assumption | (simp_all; done) | (simp_all; omega))] | rw [n2 (by (try simp only [decide_eq_true_eq, decide_eq_false_iff_not, Bool.not_eq_true', Bool.not_eq_false', Bool.not_eq_true, Bool.not_eq_false, beq_iff_eq, bne_iff_ne, beq_eq_false_iff_ne, bne_eq_false_iff_eq, ne_eq, Decidable.not_not, Int.natCast_eq_zero] at *); first | omega | assumption | (simp_all; done) | (simp_all; omega))]
    all_goals refine ⟨[], ?_⟩
    repeat (any_goals (first | exact True.intro | exact rfl | with_reducible_and_instances rfl | exact (by kernel_rfl) | refine And.intro ?_ ?_))
    all_goals conv => whnf
  · have hs : (some (o1, o2)).isSome = true := rfl
    rw [if_pos hs] at hu
    by_cases ho : (o1, o2) = (r, z)
    · have hp := hp2 (by rw [ho])
      injection ho with h1 h2
      subst hp h1 h2
      simp only [if_true] at n2
      clear hp1 hp2 hs
      have e1 : (!(o1 == o1 && o2 == o2)) = false := by simp
      have e2 := fun L n t x y t' ty (h : eq2T Try.prog t = true) => (neS (P := Try.prog) (L := L) (n := n) (t := t) (x := x) (y := y) (t' := t') (ty := ty) (k := .i64) (k' := .i64) (a := o1) (b := o2) (c := o1) (d := o2) h)
      rw [e1] at e2
      refine sat_of_vc (T := tiOf Try.prog) (E := E0) Try.func12 rfl rfl hE0 hm0 rfl ?_
      conv => whnf
      repeat (any_goals (first
        | exact True.intro
        | (refine Or.inl ?_; conv => whnf)
        | (refine And.intro (fun _ => ?_) tf; conv => whnf)
        | (refine And.intro ft (fun _ => ?_); conv => whnf)
        | (refine And.intro (by kernel_rfl) ?_; conv => whnf)
        | (refine And.intro (by decide) ?_; conv => whnf)
        | (refine And.intro (fun _ => ?_) (fun h => absurd h (by decide)); conv => whnf)
        | (refine And.intro (fun h => absurd h (by decide)) (fun _ => ?_); conv => whnf)
        | (refine And.intro (fun _ => ?_) (fun _ => ?_) <;> conv => whnf)
        | (refine ⟨_, _, hl _ _ _ _ _ _ rfl, ?_⟩; conv => whnf)
        | (refine ⟨_, _, hu _ _ _ _ _ _ _ rfl, ?_⟩; conv => whnf)
        | (refine ⟨_, _, e2 _ _ _ _ _ _ _ (by kernel_rfl), ?_⟩; conv => whnf)))
      all_goals clear hl hu e2
      all_goals first | rw [n1 (by (try simp only [decide_eq_true_eq, decide_eq_false_iff_not, Bool.not_eq_true', Bool.not_eq_false', Bool.not_eq_true, Bool.not_eq_false, beq_iff_eq, bne_iff_ne, beq_eq_false_iff_ne, bne_eq_false_iff_eq, ne_eq, Decidable.not_not, Int.natCast_eq_zero] at *); first | omega | assumption | (simp_all; done) | (simp_all; omega))] | rw [n2 (by (try simp only [decide_eq_true_eq, decide_eq_false_iff_not, Bool.not_eq_true', Bool.not_eq_false', Bool.not_eq_true, Bool.not_eq_false, beq_iff_eq, bne_iff_ne, beq_eq_false_iff_ne, bne_eq_false_iff_eq, ne_eq, Decidable.not_not, Int.natCast_eq_zero] at *); first | omega | assumption | (simp_all; done) | (simp_all; omega))]
      all_goals refine ⟨[], ?_⟩
      repeat (any_goals (first | exact True.intro | exact rfl | with_reducible_and_instances rfl | exact (by kernel_rfl) | refine And.intro ?_ ?_))
      all_goals conv => whnf
    · simp only [ho, if_false] at n2
      clear hp1 hp2 hs
      have e1 : (!(o1 == r && o2 == z)) = true := by
        simp only [Bool.not_eq_true', Bool.and_eq_false_iff, beq_eq_false_iff_ne]
        by_cases q : o1 = r
        · exact .inr fun q' => ho (by rw [q, q'])
        · exact .inl q
      have e2 := fun L n t x y t' ty (h : eq2T Try.prog t = true) => (neS (P := Try.prog) (L := L) (n := n) (t := t) (x := x) (y := y) (t' := t') (ty := ty) (k := .i64) (k' := .i64) (a := o1) (b := o2) (c := r) (d := z) h)
      rw [e1] at e2
      clear e1
      refine sat_of_vc (T := tiOf Try.prog) (E := E0) Try.func12 rfl rfl hE0 hm0 rfl ?_
      conv => whnf
      repeat (any_goals (first
        | exact True.intro
        | (refine Or.inl ?_; conv => whnf)
        | (refine And.intro (fun _ => ?_) tf; conv => whnf)
        | (refine And.intro ft (fun _ => ?_); conv => whnf)
        | (refine And.intro (by kernel_rfl) ?_; conv => whnf)
        | (refine And.intro (by decide) ?_; conv => whnf)
        | (refine And.intro (fun _ => ?_) (fun h => absurd h (by decide)); conv => whnf)
        | (refine And.intro (fun h => absurd h (by decide)) (fun _ => ?_); conv => whnf)
        | (refine And.intro (fun _ => ?_) (fun _ => ?_) <;> conv => whnf)
        | (refine ⟨_, _, hl _ _ _ _ _ _ rfl, ?_⟩; conv => whnf)
        | (refine ⟨_, _, hu _ _ _ _ _ _ _ rfl, ?_⟩; conv => whnf)
        | (refine ⟨_, _, e2 _ _ _ _ _ _ _ (by kernel_rfl), ?_⟩; conv => whnf)))
      all_goals clear hl hu e2 ho
      all_goals first | rw [n1 (by (try simp only [decide_eq_true_eq, decide_eq_false_iff_not, Bool.not_eq_true', Bool.not_eq_false', Bool.not_eq_true, Bool.not_eq_false, beq_iff_eq, bne_iff_ne, beq_eq_false_iff_ne, bne_eq_false_iff_eq, ne_eq, Decidable.not_not, Int.natCast_eq_zero] at *); first | omega | assumption | (simp_all; done) | (simp_all; omega))] | rw [n2 (by (try simp only [decide_eq_true_eq, decide_eq_false_iff_not, Bool.not_eq_true', Bool.not_eq_false', Bool.not_eq_true, Bool.not_eq_false, beq_iff_eq, bne_iff_ne, beq_eq_false_iff_ne, bne_eq_false_iff_eq, ne_eq, Decidable.not_not, Int.natCast_eq_zero] at *); first | omega | assumption | (simp_all; done) | (simp_all; omega))]
      all_goals refine ⟨[], ?_⟩
      repeat (any_goals (first | exact True.intro | exact rfl | with_reducible_and_instances rfl | exact (by kernel_rfl) | refine And.intro ?_ ?_))
      all_goals conv => whnf
end Go.Proofs.Ytefidbifgilekaa
/- ledger: All, In. -/
namespace Go.Proofs.Ytefidbifgilekaa
set_option linter.unusedSimpArgs false
set_option linter.unusedVariables false
open Go.RowKit Go.Sort
set_option maxRecDepth 100000
theorem all_sat (m : Led) (c : Nat) : Sat Try.prog 23 [.ptr 0 0] (ledO m c) (.fn (.func 41) [] [.ptr 2 0]) [.cells [.mp 1], mapO eI eV m c, .cells [.ptr 0 0]] := by
  refine sat_of_vc (T := tiOf Try.prog) (E := E0) Try.func23 rfl rfl hE0 hm0 rfl ?_
  conv => whnf
  repeat (any_goals (first
    | exact True.intro
    | (refine Or.inl ?_; conv => whnf)
    | (refine And.intro (fun _ => ?_) tf; conv => whnf)
    | (refine And.intro ft (fun _ => ?_); conv => whnf)
    | (refine And.intro (by kernel_rfl) ?_; conv => whnf)
    | (refine And.intro (by decide) ?_; conv => whnf)
    | (refine And.intro (fun _ => ?_) (fun h => absurd h (by decide)); conv => whnf)
    | (refine And.intro (fun h => absurd h (by decide)) (fun _ => ?_); conv => whnf)
    | (refine And.intro (fun _ => ?_) (fun _ => ?_) <;> conv => whnf)))
  all_goals refine ⟨[], ?_⟩
  repeat (any_goals (first | exact True.intro | exact rfl | with_reducible_and_instances rfl | exact (by kernel_rfl) | refine And.intro ?_ ?_))
  all_goals conv => whnf
/-- The ids of a window, of a ledger's first k. -/
def inK (m : Led) (z : Int) (k : Nat) : List Id3 := ((idsL m).take k).filter fun x => decide (verL m x = (0, z))
theorem inK_succ {m : Led} {z : Int} {k : Nat} {x : Id3} (h : (idsL m)[k]? = some x) : inK m z (k + 1) = inK m z k ++ if verL m x = (0, z) then [x] else [] := by
  unfold inK
  rw [List.take_add_one, h, List.filter_append]
  by_cases q : verL m x = (0, z) <;> simp [q]
theorem inK_len (m : Led) (z : Int) (k : Nat) : (inK m z k).length ≤ m.length := by
  unfold inK
  have h1 := List.length_filter_le (fun x => decide (verL m x = (0, z))) ((idsL m).take k)
  have h2 : ((idsL m).take k).length ≤ m.length := by rw [List.length_take, idsL_len]; omega
  omega
theorem in_sat {m : Led} {c : Nat} (hf : fresh m c) (hm : m.length ≤ 1000000) (z : Int) : Sat Try.prog 18 [.ptr 0 0, iA z] (ledO m c) (.own 2) [.cells [.mp 1], mapO eI eV m c, .sl 3 ((inK m z m.length).map idR)] := by
  have a1 := all_sat m c
  refine sat_of_vc (T := tiOf Try.prog) (E := E0) Try.func18 rfl rfl hE0 hm0 rfl ?_
  conv => whnf
  repeat (any_goals (first
    | exact True.intro
    | (refine Or.inl ?_; conv => whnf)
    | (refine And.intro (fun _ => ?_) tf; conv => whnf)
    | (refine And.intro ft (fun _ => ?_); conv => whnf)
    | (refine And.intro (by kernel_rfl) ?_; conv => whnf)
    | (refine And.intro (by decide) ?_; conv => whnf)
    | (refine And.intro (fun _ => ?_) (fun h => absurd h (by decide)); conv => whnf)
    | (refine And.intro (fun h => absurd h (by decide)) (fun _ => ?_); conv => whnf)
    | (refine And.intro (fun _ => ?_) (fun _ => ?_) <;> conv => whnf)
    | (refine ⟨_, _, a1.at2 0 1 rfl rfl rfl rfl rfl, ?_⟩; conv => whnf)))
  refine ⟨Nat, Nat, fun y x => x = y ∧ y ≤ m.length, fun y => [.cells [.mp 1], mapO eI eV m c, .cells [iA z], .cells [.own 5], .cells [.ptr 0 0], .sl 3 ((inK m z y).map idR)], [(9, .fn (.func 41) [] [.ptr 4 0]), (5, .ptr 3 0), (3, .ptr 2 0)], 5, _, _, _, [.cells [.mp 1], mapO eI eV m c, .dead, .dead, .cells [.ptr 0 0]], 0, _, _, ⟨0, ⟨rfl, Nat.zero_le _⟩, ?_⟩, rfl, by kernel_rfl, allIt (i := 4) (j := 0) (k := 1) hf hm rfl rfl rfl, ?_, ?_, ?_, ?_⟩
  · all_goals refine ⟨[], ?_⟩
    repeat (any_goals (first | exact True.intro | exact rfl | with_reducible_and_instances rfl | exact (by kernel_rfl) | refine And.intro ?_ ?_))
    all_goals conv => whnf
  · rintro y x y' ⟨e, _, rfl⟩; rfl
  · rintro y x _; exact ⟨⟨rfl, rfl, rfl, trivial⟩, Nat.le_add_left 5 1⟩
  · rintro y x vals y' ⟨rfl, hy⟩ ⟨⟨a, b, d⟩, ⟨hx, rfl⟩, rfl⟩
    have hlt : x < m.length := by have := (List.getElem?_eq_some_iff.1 hx).1; rwa [idsL_len] at this
    have hs := inK_succ (z := z) hx
    have hl := inK_len m z x
    have hb : (((inK m z x).map idR).length + 1) * 24 ≤ 140737488355328 := by rw [List.length_map]; omega
    obtain ⟨⟨r, s⟩, hv⟩ : ∃ v, verL m (a, b, d) = v := ⟨_, rfl⟩
    rw [hv] at hs ⊢
    conv => whnf
    repeat (any_goals (first
      | exact True.intro
      | (refine Or.inl ?_; conv => whnf)
      | (refine And.intro (fun _ => ?_) tf; conv => whnf)
      | (refine And.intro ft (fun _ => ?_); conv => whnf)
      | (refine And.intro (by kernel_rfl) ?_; conv => whnf)
      | (refine And.intro (by decide) ?_; conv => whnf)
      | (refine And.intro (fun _ => ?_) (fun h => absurd h (by decide)); conv => whnf)
      | (refine And.intro (fun h => absurd h (by decide)) (fun _ => ?_); conv => whnf)
      | (refine And.intro (fun _ => ?_) (fun _ => ?_) <;> conv => whnf)
      | (refine ⟨_, _, ap 3 24 (by kernel_rfl) rfl rfl hb, ?_⟩; conv => whnf)))
    all_goals try (exfalso; simp only [decide_eq_true_eq, decide_eq_false_iff_not, Bool.not_eq_true', Bool.not_eq_false', Bool.not_eq_true, Bool.not_eq_false, beq_iff_eq, bne_iff_ne, beq_eq_false_iff_ne, bne_eq_false_iff_eq, ne_eq, Decidable.not_not] at *; first | omega | contradiction | (simp_all; done) | (simp_all; omega))
    · have h : (r, s) = (0, z) := by
        have : r = 0 := (by (try simp only [decide_eq_true_eq, decide_eq_false_iff_not, Bool.not_eq_true', Bool.not_eq_false', Bool.not_eq_true, Bool.not_eq_false, beq_iff_eq, bne_iff_ne, beq_eq_false_iff_ne, bne_eq_false_iff_eq, ne_eq, Decidable.not_not, Int.natCast_eq_zero] at *); first | omega | assumption | (simp_all; done) | (simp_all; omega))
        have : s = z := (by (try simp only [decide_eq_true_eq, decide_eq_false_iff_not, Bool.not_eq_true', Bool.not_eq_false', Bool.not_eq_true, Bool.not_eq_false, beq_iff_eq, bne_iff_ne, beq_eq_false_iff_ne, bne_eq_false_iff_eq, ne_eq, Decidable.not_not, Int.natCast_eq_zero] at *); first | omega | assumption | (simp_all; done) | (simp_all; omega))
        subst_vars; rfl
      rw [if_pos h] at hs
      refine ⟨x + 1, ⟨rfl, hlt⟩, ?_⟩
      have ea : (inK m z (x + 1)).map idR = (inK m z x).map idR ++ [idR (a, b, d)] := by rw [hs, List.map_append]; rfl
      refine (show Weak 5 _ _ [] [.cells [.mp 1], mapO eI eV m c, .cells [iA z], .cells [.own 5], .cells [.ptr 0 0], .sl 3 ((inK m z (x + 1)).map idR)] from ?_)
      rw [ea]
      all_goals refine ⟨[(5, 9)], ?_⟩
      repeat (any_goals (first | exact True.intro | exact rfl | with_reducible_and_instances rfl | exact (by kernel_rfl) | refine And.intro ?_ ?_))
      all_goals conv => whnf
    all_goals
      have h : ¬ (r, s) = (0, z) := fun q => by
        injection q with q1 q2
        subst q1 q2
        simp_all
      rw [if_neg h, List.append_nil] at hs
      refine ⟨x + 1, ⟨rfl, hlt⟩, ?_⟩
      refine (show Weak 5 _ _ [] [.cells [.mp 1], mapO eI eV m c, .cells [iA z], .cells [.own 5], .cells [.ptr 0 0], .sl 3 ((inK m z (x + 1)).map idR)] from ?_)
      rw [hs]
    all_goals refine ⟨[], ?_⟩
    repeat (any_goals (first | exact True.intro | exact rfl | with_reducible_and_instances rfl | exact (by kernel_rfl) | refine And.intro ?_ ?_))
    all_goals conv => whnf
  · rintro y x rfl ⟨rfl, _⟩
    conv => whnf
    repeat (any_goals (first
      | exact True.intro
      | (refine Or.inl ?_; conv => whnf)
      | (refine And.intro (fun _ => ?_) tf; conv => whnf)
      | (refine And.intro ft (fun _ => ?_); conv => whnf)
      | (refine And.intro (by kernel_rfl) ?_; conv => whnf)
      | (refine And.intro (by decide) ?_; conv => whnf)
      | (refine And.intro (fun _ => ?_) (fun h => absurd h (by decide)); conv => whnf)
      | (refine And.intro (fun h => absurd h (by decide)) (fun _ => ?_); conv => whnf)
      | (refine And.intro (fun _ => ?_) (fun _ => ?_) <;> conv => whnf)))
    all_goals refine ⟨[(2, 5)], ?_⟩
    repeat (any_goals (first | exact True.intro | exact rfl | with_reducible_and_instances rfl | exact (by kernel_rfl) | refine And.intro ?_ ?_))
    all_goals conv => whnf
end Go.Proofs.Ytefidbifgilekaa
/- ledger: Tally. -/
namespace Go.Proofs.Ytefidbifgilekaa
set_option linter.unusedSimpArgs false
set_option linter.unusedVariables false
open Go.RowKit Go.Sort
set_option maxRecDepth 100000
def cntR (l : Led) (r : Int) : Int := l.countP fun p => decide (p.2.1.1 = r)
theorem cntR_add (l : Led) (p : Id3 × Ver × Nat) (r : Int) : cntR (l ++ [p]) r = cntR l r + if p.2.1.1 = r then 1 else 0 := by
  unfold cntR
  rw [List.countP_append]
  by_cases h : p.2.1.1 = r <;> simp [h]
theorem cntR_le (l : Led) (r : Int) : 0 ≤ cntR l r ∧ cntR l r ≤ l.length := by
  have : l.countP (fun p => decide (p.2.1.1 = r)) ≤ l.length := List.countP_le_length
  unfold cntR; omega
/-- All reasons are reasons. -/
def okV (m : Led) : Prop := ∀ p ∈ m, 0 ≤ p.2.1.1 ∧ p.2.1.1 ≤ 6
def talR (m : Led) : List D := [iD (cntR m 0), iD (cntR m 1), iD (cntR m 2), iD (cntR m 3), iD (cntR m 4), iD (cntR m 5), iD (cntR m 6)]
def talC (m : Led) : AObj := .cells [iA (cntR m 0), iA (cntR m 1), iA (cntR m 2), iA (cntR m 3), iA (cntR m 4), iA (cntR m 5), iA (cntR m 6)]
theorem tally_sat {m : Led} {c : Nat} (hf : fresh m c) (hm : m.length ≤ 1000000) (hv : okV m) : Sat Try.prog 20 [.ptr 0 0] (ledO m c) (.d (.agg (talR m))) (ledO m c) := by
  have hr := fun L n i ty mx (hi : L[i]? = some (mapO eI eV m c)) => mp_range (P := Try.prog) (L := L) (n := n) (ty := ty) (mx := mx) Try.underlying55 hi
  refine sat_of_vc (T := tiOf Try.prog) (E := E0) Try.func20 rfl rfl hE0 hm0 rfl ?_
  conv => whnf
  repeat (any_goals (first
    | exact True.intro
    | (refine Or.inl ?_; conv => whnf)
    | (refine And.intro (fun _ => ?_) tf; conv => whnf)
    | (refine And.intro ft (fun _ => ?_); conv => whnf)
    | (refine And.intro (by kernel_rfl) ?_; conv => whnf)
    | (refine And.intro (by decide) ?_; conv => whnf)
    | (refine And.intro (fun _ => ?_) (fun h => absurd h (by decide)); conv => whnf)
    | (refine And.intro (fun h => absurd h (by decide)) (fun _ => ?_); conv => whnf)
    | (refine And.intro (fun _ => ?_) (fun _ => ?_) <;> conv => whnf)
    | (refine ⟨_, _, hr _ _ _ _ _ rfl, ?_⟩; conv => whnf)))
  refine ⟨Led × (Int → Int), fun y => y.2 = cntR y.1 ∧ (y.1.map (·.2.2)).Nodup ∧ ∀ q ∈ y.1, q ∈ m, fun y => ([(10, .ptr 4 0), (3, .ptr 3 0), (2, .ptr 2 0)], [.cells [.mp 1], mapO eI eV m c, .cells [iA 0, iA 0, iA 0, iA 0, iA 0, iA 0, iA 0], .cells [iA (y.2 0), iA (y.2 1), iA (y.2 2), iA (y.2 3), iA (y.2 4), iA (y.2 5), iA (y.2 6)], itO 1 c (y.1.map (·.2.2)) c]), fun y => m.length - y.1.length, ⟨([], fun _ => 0), ⟨rfl, List.nodup_nil, fun q h => by cases h⟩, ?_⟩, ?_⟩
  · all_goals refine ⟨[], ?_⟩
    repeat (any_goals (first | exact True.intro | exact rfl | with_reducible_and_instances rfl | exact (by kernel_rfl) | refine And.intro ?_ ?_))
    all_goals conv => whnf
  rintro ⟨done, f⟩ ⟨hcf, hn, hs⟩
  replace hcf : f = cntR done := hcf
  replace hn : (done.map (·.2.2)).Nodup := hn
  replace hs : ∀ q ∈ done, q ∈ m := hs
  have hl : done.length ≤ m.length := by
    have := within_len (done.map (·.2.2)) (m.map (·.2.2)) hn fun x hx => by
      obtain ⟨q, hq, rfl⟩ := List.mem_map.1 hx
      exact List.mem_map.2 ⟨q, hs q hq, rfl⟩
    simpa using this
  have hb : ∀ r, 0 ≤ f r ∧ f r ≤ 1000000 := fun r => by rw [hcf]; have := cntR_le done r; omega
  conv => whnf
  refine ⟨_, _, _, _, mp_next eI_cl eV_cl rfl rfl hf.2 (.inr hf.2), ?_⟩
  rintro (_ | ⟨⟨a, b, d⟩, ⟨r, s⟩, n⟩) hp
  · have hx : AllOf m done := ⟨hn, hs, hp⟩
    have hpm := all_perm hf hx
    have hc : cntR done = cntR m := by
      funext r
      unfold cntR
      rw [hpm.countP_eq]
    rw [hc] at hcf
    subst hcf
    conv => whnf
    repeat (any_goals (first
      | exact True.intro
      | (refine Or.inl ?_; conv => whnf)
      | (refine And.intro (fun _ => ?_) tf; conv => whnf)
      | (refine And.intro ft (fun _ => ?_); conv => whnf)
      | (refine And.intro (by kernel_rfl) ?_; conv => whnf)
      | (refine And.intro (by decide) ?_; conv => whnf)
      | (refine And.intro (fun _ => ?_) (fun h => absurd h (by decide)); conv => whnf)
      | (refine And.intro (fun h => absurd h (by decide)) (fun _ => ?_); conv => whnf)
      | (refine And.intro (fun _ => ?_) (fun _ => ?_) <;> conv => whnf)))
    all_goals refine ⟨[], ?_⟩
    repeat (any_goals (first | exact True.intro | exact rfl | with_reducible_and_instances rfl | exact (by kernel_rfl) | refine And.intro ?_ ?_))
    all_goals conv => whnf
  · have hp1 : ((a, b, d), (r, s), n) ∈ m := hp.1
    have hp2 : n ∉ done.map (·.2.2) := hp.2
    have hr6 : 0 ≤ r ∧ r ≤ 6 := hv _ hp1
    have hn2 : ((done ++ [((a, b, d), (r, s), n)]).map (·.2.2)).Nodup := by
      rw [List.map_append, List.nodup_append]
      exact ⟨hn, by simp, fun x hx y hy e => by simp at hy; subst hy e; exact hp2 hx⟩
    have hs2 : ∀ q ∈ done ++ [((a, b, d), (r, s), n)], q ∈ m := fun q hq => by
      rcases List.mem_append.1 hq with h | h
      · exact hs q h
      · rw [List.mem_singleton.1 h]; exact hp1
    have hl2 : (done ++ [((a, b, d), (r, s), n)]).length ≤ m.length := by
      have := within_len ((done ++ [((a, b, d), (r, s), n)]).map (·.2.2)) (m.map (·.2.2)) hn2 fun x hx => by
        obtain ⟨q, hq, rfl⟩ := List.mem_map.1 hx
        exact List.mem_map.2 ⟨q, hs2 q hq, rfl⟩
      simpa using this
    have hl3 : (done ++ [((a, b, d), (r, s), n)]).length = done.length + 1 := by simp
    obtain ⟨g, hg⟩ : ∃ g, g = cntR (done ++ [((a, b, d), (r, s), n)]) := ⟨_, rfl⟩
    have hge : ∀ z, g z = f z + if r = z then 1 else 0 := fun z => by rw [hg, hcf]; exact cntR_add _ _ _
    have hfb := find_born hf hp1
    have g0 := hge 0; have g1 := hge 1; have g2 := hge 2; have g3 := hge 3; have g4 := hge 4; have g5 := hge 5; have g6 := hge 6
    have b0 := hb 0; have b1 := hb 1; have b2 := hb 2; have b3 := hb 3; have b4 := hb 4; have b5 := hb 5; have b6 := hb 6
    have hmo : m.length - (done ++ [((a, b, d), (r, s), n)]).length < m.length - done.length := by omega
    have hS : ∃ y : Led × (Int → Int), (y.2 = cntR y.1 ∧ (y.1.map (·.2.2)).Nodup ∧ ∀ q ∈ y.1, q ∈ m) ∧ y.1.map (·.2.2) = done.map (·.2.2) ++ [n] ∧ m.length - y.1.length < m.length - done.length ∧ y.2 = g := ⟨(done ++ [((a, b, d), (r, s), n)], g), ⟨hg, hn2, hs2⟩, by simp, hmo, rfl⟩
    obtain ⟨⟨y1, y2⟩, hy1, hy2, hy3, rfl⟩ := hS
    clear hp hp1 hp2 hn2 hs2 hl2 hl3 hg hge hmo hb hcf
    obtain ⟨k, rfl⟩ : ∃ k : Nat, r = (k : Int) := ⟨r.toNat, by omega⟩
    have hk : k = 0 ∨ k = 1 ∨ k = 2 ∨ k = 3 ∨ k = 4 ∨ k = 5 ∨ k = 6 := by omega
    rcases hk with rfl | rfl | rfl | rfl | rfl | rfl | rfl
    all_goals simp at g0 g1 g2 g3 g4 g5 g6
    conv => whnf
    repeat (any_goals (first
      | exact True.intro
      | (refine ⟨_, rfl, by decide, ?_⟩; conv => whnf)
      | (refine Or.inl ?_; conv => whnf)
      | (refine And.intro (fun _ => ?_) tf; conv => whnf)
      | (refine And.intro ft (fun _ => ?_); conv => whnf)
      | (refine And.intro (by kernel_rfl) ?_; conv => whnf)
      | (refine And.intro (by decide) ?_; conv => whnf)
      | (refine And.intro (fun _ => ?_) (fun h => absurd h (by decide)); conv => whnf)
      | (refine And.intro (fun h => absurd h (by decide)) (fun _ => ?_); conv => whnf)
      | (refine And.intro (fun _ => ?_) (fun _ => ?_) <;> conv => whnf)
      | (refine ⟨_, _, mp_entry eI_cl eV_cl hfb rfl rfl, ?_⟩; conv => whnf)))
    all_goals
      replace hy2 : y1.map (·.2.2) = done.map (·.2.2) ++ [n] := hy2
      refine ⟨(y1, y2), hy1, hy3, ?_⟩
      refine (show Weak (ledO m c).length _ _ [(10, .ptr 4 0), (3, .ptr 3 0), (2, .ptr 2 0)] [.cells [.mp 1], mapO eI eV m c, .cells [iA 0, iA 0, iA 0, iA 0, iA 0, iA 0, iA 0], .cells [iA (y2 0), iA (y2 1), iA (y2 2), iA (y2 3), iA (y2 4), iA (y2 5), iA (y2 6)], itO 1 c (y1.map (·.2.2)) c] from ?_)
      rw [g0, g1, g2, g3, g4, g5, g6, hy2]
    all_goals refine ⟨[], ?_⟩
    repeat (any_goals (first | exact True.intro | exact rfl | with_reducible_and_instances rfl | exact (by kernel_rfl) | refine And.intro ?_ ?_))
    all_goals conv => whnf
    all_goals (refine congrArg (fun z => (.d (.v (.int .i64 z)) : AV)) ?_; show IntKind.i64.wrap (f _ + 1) = f _ + 1; exact wi (by omega) (by omega))
end Go.Proofs.Ytefidbifgilekaa
/- ledger: maps.Equal, Same. -/
namespace Go.Proofs.Ytefidbifgilekaa
set_option linter.unusedSimpArgs false
set_option linter.unusedVariables false
open Go.RowKit Go.Sort
set_option maxRecDepth 100000
def eqMB (m m2 : Led) : Bool := decide (m.length = m2.length) && m.all fun p => decide (findX m2 p.1 = some p.2.1)
theorem eqMB_len {m m2 : Led} (h : m.length ≠ m2.length) : eqMB m m2 = false := by unfold eqMB; simp [h]
theorem eqMB_bad {m m2 : Led} {p : Id3 × Ver × Nat} (hp : p ∈ m) (h : findX m2 p.1 ≠ some p.2.1) : eqMB m m2 = false := by
  unfold eqMB
  rw [Bool.and_eq_false_iff]
  refine .inr ?_
  rw [List.all_eq_false]
  exact ⟨p, hp, by simpa using h⟩
theorem eqMB_good {m m2 : Led} (hl : m.length = m2.length) (h : ∀ p ∈ m, findX m2 p.1 = some p.2.1) : eqMB m m2 = true := by
  unfold eqMB
  rw [Bool.and_eq_true]
  refine ⟨by simpa using hl, List.all_eq_true.2 fun p hp => by simpa using h p hp⟩
theorem equal_sat {m : Led} {c : Nat} (hf : fresh m c) (hm : m.length ≤ 1000000) {m2 : Led} {c2 : Nat} (hm2 : m2.length ≤ 1000000) : Sat Try.prog 40 [.mp 0, .mp 1] [mapO eI eV m c, mapO eI eV m2 c2] (bA (eqMB m m2)) [mapO eI eV m c, mapO eI eV m2 c2] := by
  have hr := fun L n i ty mx (hi : L[i]? = some (mapO eI eV m c)) => mp_range (P := Try.prog) (L := L) (n := n) (ty := ty) (mx := mx) Try.underlying55 hi
  refine sat_of_vc (T := tiOf Try.prog) (E := E0) Try.func40 rfl rfl hE0 hm0 rfl ?_
  conv => whnf
  repeat (any_goals (first
    | exact True.intro
    | (refine Or.inl ?_; conv => whnf)
    | (refine And.intro (fun _ => ?_) tf; conv => whnf)
    | (refine And.intro ft (fun _ => ?_); conv => whnf)
    | (refine And.intro (by kernel_rfl) ?_; conv => whnf)
    | (refine And.intro (by decide) ?_; conv => whnf)
    | (refine And.intro (fun _ => ?_) (fun h => absurd h (by decide)); conv => whnf)
    | (refine And.intro (fun h => absurd h (by decide)) (fun _ => ?_); conv => whnf)
    | (refine And.intro (fun _ => ?_) (fun _ => ?_) <;> conv => whnf)
    | (refine ⟨_, _, lg_len rfl, ?_⟩; conv => whnf)
    | (refine ⟨_, _, hr _ _ _ _ _ rfl, ?_⟩; conv => whnf)))
  · have hlen : m.length ≠ m2.length := by
      have : ((m.length : Int) != (m2.length : Int)) = true := by assumption
      intro e; simp [e] at this
    rw [eqMB_len hlen]
    all_goals refine ⟨[], ?_⟩
    repeat (any_goals (first | exact True.intro | exact rfl | with_reducible_and_instances rfl | exact (by kernel_rfl) | refine And.intro ?_ ?_))
    all_goals conv => whnf
  have hlen : m.length = m2.length := by
    have : ((m.length : Int) != (m2.length : Int)) = false := by assumption
    first | rfl | (simp at this; omega)
  refine ⟨Led, fun y => (y.map (·.2.2)).Nodup ∧ (∀ q ∈ y, q ∈ m) ∧ ∀ q ∈ y, findX m2 q.1 = some q.2.1, fun y => ([(15, .ptr 2 0), (1, .mp 1)], [mapO eI eV m c, mapO eI eV m2 c2, itO 0 c (y.map (·.2.2)) c]), fun y => m.length - y.length, ⟨[], ⟨List.nodup_nil, fun q h => (by cases h), fun q h => by cases h⟩, ?_⟩, ?_⟩
  · all_goals refine ⟨[], ?_⟩
    repeat (any_goals (first | exact True.intro | exact rfl | with_reducible_and_instances rfl | exact (by kernel_rfl) | refine And.intro ?_ ?_))
    all_goals conv => whnf
  rintro done ⟨hn, hs, hq⟩
  conv => whnf
  refine ⟨_, _, _, _, mp_next eI_cl eV_cl rfl rfl hf.2 (.inr hf.2), ?_⟩
  rintro (_ | ⟨⟨a, b, d⟩, ⟨r, s⟩, n⟩) hp
  · have hg : eqMB m m2 = true := eqMB_good hlen fun p hpm => by
      obtain ⟨q, hqd, e⟩ := List.mem_map.1 (hp p hpm)
      have h1 := find_born hf hpm
      have h2 := find_born hf (hs q hqd)
      rw [e, h1] at h2
      have h3 := Option.some.inj h2
      rw [h3]; exact hq q hqd
    rw [hg]
    conv => whnf
    repeat (any_goals (first
      | exact True.intro
      | (refine Or.inl ?_; conv => whnf)
      | (refine And.intro (fun _ => ?_) tf; conv => whnf)
      | (refine And.intro ft (fun _ => ?_); conv => whnf)
      | (refine And.intro (by kernel_rfl) ?_; conv => whnf)
      | (refine And.intro (by decide) ?_; conv => whnf)
      | (refine And.intro (fun _ => ?_) (fun h => absurd h (by decide)); conv => whnf)
      | (refine And.intro (fun h => absurd h (by decide)) (fun _ => ?_); conv => whnf)
      | (refine And.intro (fun _ => ?_) (fun _ => ?_) <;> conv => whnf)))
    all_goals refine ⟨[], ?_⟩
    repeat (any_goals (first | exact True.intro | exact rfl | with_reducible_and_instances rfl | exact (by kernel_rfl) | refine And.intro ?_ ?_))
    all_goals conv => whnf
  · have hp1 : ((a, b, d), (r, s), n) ∈ m := hp.1
    have hp2 : n ∉ done.map (·.2.2) := hp.2
    have hfb := find_born hf hp1
    have hbad : findX m2 (a, b, d) ≠ some (r, s) → eqMB m m2 = false := fun h => eqMB_bad hp1 h
    have hn2 : ((done ++ [((a, b, d), (r, s), n)]).map (·.2.2)).Nodup := by
      rw [List.map_append, List.nodup_append]
      exact ⟨hn, by simp, fun x hx y hy e => by simp at hy; subst hy e; exact hp2 hx⟩
    have hs2 : ∀ q ∈ done ++ [((a, b, d), (r, s), n)], q ∈ m := fun q hq => by
      rcases List.mem_append.1 hq with h | h
      · exact hs q h
      · rw [List.mem_singleton.1 h]; exact hp1
    have hl2 : (done ++ [((a, b, d), (r, s), n)]).length ≤ m.length := by
      have := within_len ((done ++ [((a, b, d), (r, s), n)]).map (·.2.2)) (m.map (·.2.2)) hn2 fun x hx => by
        obtain ⟨q, hq, rfl⟩ := List.mem_map.1 hx
        exact List.mem_map.2 ⟨q, hs2 q hq, rfl⟩
      simpa using this
    have hl3 : (done ++ [((a, b, d), (r, s), n)]).length = done.length + 1 := by simp
    have hmo : m.length - (done ++ [((a, b, d), (r, s), n)]).length < m.length - done.length := by omega
    have hS : findX m2 (a, b, d) = some (r, s) → ∃ y : Led, ((y.map (·.2.2)).Nodup ∧ (∀ q ∈ y, q ∈ m) ∧ ∀ q ∈ y, findX m2 q.1 = some q.2.1) ∧ y.map (·.2.2) = done.map (·.2.2) ++ [n] ∧ m.length - y.length < m.length - done.length := fun h => ⟨done ++ [((a, b, d), (r, s), n)], ⟨hn2, hs2, fun q hq2 => by
      rcases List.mem_append.1 hq2 with h2 | h2
      · exact hq q h2
      · rw [List.mem_singleton.1 h2]; exact h⟩, by simp, hmo⟩
    have hlk := fun L i n ty mx kx (hi : L[i]? = some (mapO eI eV m2 c2)) => lg_look (L := L) (n := n) (ty := ty) (mx := mx) (kx := kx) (a, b, d) hi
    generalize findX m2 (a, b, d) = fx at hbad hS hlk
    clear hn2 hs2 hl2 hl3 hmo hp1 hp2 hq
    clear hp
    rcases fx with _ | ⟨o1, o2⟩
    · rw [hbad (by simp)]
      clear hS hbad
      conv => whnf
      repeat (any_goals (first
        | exact True.intro
        | (refine Or.inl ?_; conv => whnf)
        | (refine And.intro (fun _ => ?_) tf; conv => whnf)
        | (refine And.intro ft (fun _ => ?_); conv => whnf)
        | (refine And.intro (by kernel_rfl) ?_; conv => whnf)
        | (refine And.intro (by decide) ?_; conv => whnf)
        | (refine And.intro (fun _ => ?_) (fun h => absurd h (by decide)); conv => whnf)
        | (refine And.intro (fun h => absurd h (by decide)) (fun _ => ?_); conv => whnf)
        | (refine And.intro (fun _ => ?_) (fun _ => ?_) <;> conv => whnf)
        | (refine ⟨_, _, mp_entry eI_cl eV_cl hfb rfl rfl, ?_⟩; conv => whnf)
        | (refine ⟨_, _, hlk _ _ _ _ _ _ rfl, ?_⟩; conv => whnf)))
      all_goals refine ⟨[], ?_⟩
      repeat (any_goals (first | exact True.intro | exact rfl | with_reducible_and_instances rfl | exact (by kernel_rfl) | refine And.intro ?_ ?_))
      all_goals conv => whnf
    · by_cases ho : (r, s) = (o1, o2)
      · obtain ⟨y, hy1, hy2, hy3⟩ := hS (by rw [ho])
        injection ho with h1 h2
        subst h1 h2
        clear hS hbad
        have e1 : (!(r == r && s == s)) = false := by simp
        have e2 := fun L n t x y t' ty (h : eq2T Try.prog t = true) => (neS (P := Try.prog) (L := L) (n := n) (t := t) (x := x) (y := y) (t' := t') (ty := ty) (k := .i64) (k' := .i64) (a := r) (b := s) (c := r) (d := s) h)
        rw [e1] at e2
        conv => whnf
        repeat (any_goals (first
          | exact True.intro
          | (refine Or.inl ?_; conv => whnf)
          | (refine And.intro (fun _ => ?_) tf; conv => whnf)
          | (refine And.intro ft (fun _ => ?_); conv => whnf)
          | (refine And.intro (by kernel_rfl) ?_; conv => whnf)
          | (refine And.intro (by decide) ?_; conv => whnf)
          | (refine And.intro (fun _ => ?_) (fun h => absurd h (by decide)); conv => whnf)
          | (refine And.intro (fun h => absurd h (by decide)) (fun _ => ?_); conv => whnf)
          | (refine And.intro (fun _ => ?_) (fun _ => ?_) <;> conv => whnf)
          | (refine ⟨_, _, mp_entry eI_cl eV_cl hfb rfl rfl, ?_⟩; conv => whnf)
          | (refine ⟨_, _, hlk _ _ _ _ _ _ rfl, ?_⟩; conv => whnf)
          | (refine ⟨_, _, e2 _ _ _ _ _ _ _ (by kernel_rfl), ?_⟩; conv => whnf)))
        all_goals try (exfalso; exact absurd ‹(!(some (r, s)).isSome) = true› (by simp))
        refine ⟨y, hy1, hy3, ?_⟩
        refine (show Weak 2 _ _ [(15, .ptr 2 0), (1, .mp 1)] [mapO eI eV m c, mapO eI eV m2 c2, itO 0 c (y.map (·.2.2)) c] from ?_)
        rw [hy2]
        all_goals refine ⟨[], ?_⟩
        repeat (any_goals (first | exact True.intro | exact rfl | with_reducible_and_instances rfl | exact (by kernel_rfl) | refine And.intro ?_ ?_))
        all_goals conv => whnf
      · rw [hbad (fun h => ho (Option.some.inj h).symm)]
        have e1 : (!(r == o1 && s == o2)) = true := by
          simp only [Bool.not_eq_true', Bool.and_eq_false_iff, beq_eq_false_iff_ne]
          by_cases q : r = o1
          · exact .inr fun q' => ho (by rw [q, q'])
          · exact .inl q
        have e2 := fun L n t x y t' ty (h : eq2T Try.prog t = true) => (neS (P := Try.prog) (L := L) (n := n) (t := t) (x := x) (y := y) (t' := t') (ty := ty) (k := .i64) (k' := .i64) (a := r) (b := s) (c := o1) (d := o2) h)
        rw [e1] at e2
        clear e1 hS hbad
        conv => whnf
        repeat (any_goals (first
          | exact True.intro
          | (refine Or.inl ?_; conv => whnf)
          | (refine And.intro (fun _ => ?_) tf; conv => whnf)
          | (refine And.intro ft (fun _ => ?_); conv => whnf)
          | (refine And.intro (by kernel_rfl) ?_; conv => whnf)
          | (refine And.intro (by decide) ?_; conv => whnf)
          | (refine And.intro (fun _ => ?_) (fun h => absurd h (by decide)); conv => whnf)
          | (refine And.intro (fun h => absurd h (by decide)) (fun _ => ?_); conv => whnf)
          | (refine And.intro (fun _ => ?_) (fun _ => ?_) <;> conv => whnf)
          | (refine ⟨_, _, mp_entry eI_cl eV_cl hfb rfl rfl, ?_⟩; conv => whnf)
          | (refine ⟨_, _, hlk _ _ _ _ _ _ rfl, ?_⟩; conv => whnf)
          | (refine ⟨_, _, e2 _ _ _ _ _ _ _ (by kernel_rfl), ?_⟩; conv => whnf)))
        all_goals refine ⟨[], ?_⟩
        repeat (any_goals (first | exact True.intro | exact rfl | with_reducible_and_instances rfl | exact (by kernel_rfl) | refine And.intro ?_ ?_))
        all_goals conv => whnf
theorem equal1_sat {m : Led} {c : Nat} (hf : fresh m c) (hm : m.length ≤ 1000000) : Sat Try.prog 40 [.mp 0, .mp 0] [mapO eI eV m c] (bA (eqMB m m)) [mapO eI eV m c] := by
  have hr := fun L n i ty mx (hi : L[i]? = some (mapO eI eV m c)) => mp_range (P := Try.prog) (L := L) (n := n) (ty := ty) (mx := mx) Try.underlying55 hi
  refine sat_of_vc (T := tiOf Try.prog) (E := E0) Try.func40 rfl rfl hE0 hm0 rfl ?_
  conv => whnf
  repeat (any_goals (first
    | exact True.intro
    | (refine Or.inl ?_; conv => whnf)
    | (refine And.intro (fun _ => ?_) tf; conv => whnf)
    | (refine And.intro ft (fun _ => ?_); conv => whnf)
    | (refine And.intro (by kernel_rfl) ?_; conv => whnf)
    | (refine And.intro (by decide) ?_; conv => whnf)
    | (refine And.intro (fun _ => ?_) (fun h => absurd h (by decide)); conv => whnf)
    | (refine And.intro (fun h => absurd h (by decide)) (fun _ => ?_); conv => whnf)
    | (refine And.intro (fun _ => ?_) (fun _ => ?_) <;> conv => whnf)
    | (refine ⟨_, _, lg_len rfl, ?_⟩; conv => whnf)
    | (refine ⟨_, _, hr _ _ _ _ _ rfl, ?_⟩; conv => whnf)))
  · have hlen : m.length ≠ m.length := by
      have : ((m.length : Int) != (m.length : Int)) = true := by assumption
      intro e; simp [e] at this
    rw [eqMB_len hlen]
    all_goals refine ⟨[], ?_⟩
    repeat (any_goals (first | exact True.intro | exact rfl | with_reducible_and_instances rfl | exact (by kernel_rfl) | refine And.intro ?_ ?_))
    all_goals conv => whnf
  have hlen : m.length = m.length := by
    have : ((m.length : Int) != (m.length : Int)) = false := by assumption
    first | rfl | (simp at this; omega)
  refine ⟨Led, fun y => (y.map (·.2.2)).Nodup ∧ (∀ q ∈ y, q ∈ m) ∧ ∀ q ∈ y, findX m q.1 = some q.2.1, fun y => ([(15, .ptr 1 0), (1, .mp 0)], [mapO eI eV m c, itO 0 c (y.map (·.2.2)) c]), fun y => m.length - y.length, ⟨[], ⟨List.nodup_nil, fun q h => (by cases h), fun q h => by cases h⟩, ?_⟩, ?_⟩
  · all_goals refine ⟨[], ?_⟩
    repeat (any_goals (first | exact True.intro | exact rfl | with_reducible_and_instances rfl | exact (by kernel_rfl) | refine And.intro ?_ ?_))
    all_goals conv => whnf
  rintro done ⟨hn, hs, hq⟩
  conv => whnf
  refine ⟨_, _, _, _, mp_next eI_cl eV_cl rfl rfl hf.2 (.inr hf.2), ?_⟩
  rintro (_ | ⟨⟨a, b, d⟩, ⟨r, s⟩, n⟩) hp
  · have hg : eqMB m m = true := eqMB_good hlen fun p hpm => by
      obtain ⟨q, hqd, e⟩ := List.mem_map.1 (hp p hpm)
      have h1 := find_born hf hpm
      have h2 := find_born hf (hs q hqd)
      rw [e, h1] at h2
      have h3 := Option.some.inj h2
      rw [h3]; exact hq q hqd
    rw [hg]
    conv => whnf
    repeat (any_goals (first
      | exact True.intro
      | (refine Or.inl ?_; conv => whnf)
      | (refine And.intro (fun _ => ?_) tf; conv => whnf)
      | (refine And.intro ft (fun _ => ?_); conv => whnf)
      | (refine And.intro (by kernel_rfl) ?_; conv => whnf)
      | (refine And.intro (by decide) ?_; conv => whnf)
      | (refine And.intro (fun _ => ?_) (fun h => absurd h (by decide)); conv => whnf)
      | (refine And.intro (fun h => absurd h (by decide)) (fun _ => ?_); conv => whnf)
      | (refine And.intro (fun _ => ?_) (fun _ => ?_) <;> conv => whnf)))
    all_goals refine ⟨[], ?_⟩
    repeat (any_goals (first | exact True.intro | exact rfl | with_reducible_and_instances rfl | exact (by kernel_rfl) | refine And.intro ?_ ?_))
    all_goals conv => whnf
  · have hp1 : ((a, b, d), (r, s), n) ∈ m := hp.1
    have hp2 : n ∉ done.map (·.2.2) := hp.2
    have hfb := find_born hf hp1
    have hbad : findX m (a, b, d) ≠ some (r, s) → eqMB m m = false := fun h => eqMB_bad hp1 h
    have hn2 : ((done ++ [((a, b, d), (r, s), n)]).map (·.2.2)).Nodup := by
      rw [List.map_append, List.nodup_append]
      exact ⟨hn, by simp, fun x hx y hy e => by simp at hy; subst hy e; exact hp2 hx⟩
    have hs2 : ∀ q ∈ done ++ [((a, b, d), (r, s), n)], q ∈ m := fun q hq => by
      rcases List.mem_append.1 hq with h | h
      · exact hs q h
      · rw [List.mem_singleton.1 h]; exact hp1
    have hl2 : (done ++ [((a, b, d), (r, s), n)]).length ≤ m.length := by
      have := within_len ((done ++ [((a, b, d), (r, s), n)]).map (·.2.2)) (m.map (·.2.2)) hn2 fun x hx => by
        obtain ⟨q, hq, rfl⟩ := List.mem_map.1 hx
        exact List.mem_map.2 ⟨q, hs2 q hq, rfl⟩
      simpa using this
    have hl3 : (done ++ [((a, b, d), (r, s), n)]).length = done.length + 1 := by simp
    have hmo : m.length - (done ++ [((a, b, d), (r, s), n)]).length < m.length - done.length := by omega
    have hS : findX m (a, b, d) = some (r, s) → ∃ y : Led, ((y.map (·.2.2)).Nodup ∧ (∀ q ∈ y, q ∈ m) ∧ ∀ q ∈ y, findX m q.1 = some q.2.1) ∧ y.map (·.2.2) = done.map (·.2.2) ++ [n] ∧ m.length - y.length < m.length - done.length := fun h => ⟨done ++ [((a, b, d), (r, s), n)], ⟨hn2, hs2, fun q hq2 => by
      rcases List.mem_append.1 hq2 with h2 | h2
      · exact hq q h2
      · rw [List.mem_singleton.1 h2]; exact h⟩, by simp, hmo⟩
    have hlk := fun L i n ty mx kx (hi : L[i]? = some (mapO eI eV m c)) => lg_look (L := L) (n := n) (ty := ty) (mx := mx) (kx := kx) (a, b, d) hi
    generalize findX m (a, b, d) = fx at hbad hS hlk
    clear hn2 hs2 hl2 hl3 hmo hp1 hp2 hq
    clear hp
    rcases fx with _ | ⟨o1, o2⟩
    · rw [hbad (by simp)]
      clear hS hbad
      conv => whnf
      repeat (any_goals (first
        | exact True.intro
        | (refine Or.inl ?_; conv => whnf)
        | (refine And.intro (fun _ => ?_) tf; conv => whnf)
        | (refine And.intro ft (fun _ => ?_); conv => whnf)
        | (refine And.intro (by kernel_rfl) ?_; conv => whnf)
        | (refine And.intro (by decide) ?_; conv => whnf)
        | (refine And.intro (fun _ => ?_) (fun h => absurd h (by decide)); conv => whnf)
        | (refine And.intro (fun h => absurd h (by decide)) (fun _ => ?_); conv => whnf)
        | (refine And.intro (fun _ => ?_) (fun _ => ?_) <;> conv => whnf)
        | (refine ⟨_, _, mp_entry eI_cl eV_cl hfb rfl rfl, ?_⟩; conv => whnf)
        | (refine ⟨_, _, hlk _ _ _ _ _ _ rfl, ?_⟩; conv => whnf)))
      all_goals refine ⟨[], ?_⟩
      repeat (any_goals (first | exact True.intro | exact rfl | with_reducible_and_instances rfl | exact (by kernel_rfl) | refine And.intro ?_ ?_))
      all_goals conv => whnf
    · by_cases ho : (r, s) = (o1, o2)
      · obtain ⟨y, hy1, hy2, hy3⟩ := hS (by rw [ho])
        injection ho with h1 h2
        subst h1 h2
        clear hS hbad
        have e1 : (!(r == r && s == s)) = false := by simp
        have e2 := fun L n t x y t' ty (h : eq2T Try.prog t = true) => (neS (P := Try.prog) (L := L) (n := n) (t := t) (x := x) (y := y) (t' := t') (ty := ty) (k := .i64) (k' := .i64) (a := r) (b := s) (c := r) (d := s) h)
        rw [e1] at e2
        conv => whnf
        repeat (any_goals (first
          | exact True.intro
          | (refine Or.inl ?_; conv => whnf)
          | (refine And.intro (fun _ => ?_) tf; conv => whnf)
          | (refine And.intro ft (fun _ => ?_); conv => whnf)
          | (refine And.intro (by kernel_rfl) ?_; conv => whnf)
          | (refine And.intro (by decide) ?_; conv => whnf)
          | (refine And.intro (fun _ => ?_) (fun h => absurd h (by decide)); conv => whnf)
          | (refine And.intro (fun h => absurd h (by decide)) (fun _ => ?_); conv => whnf)
          | (refine And.intro (fun _ => ?_) (fun _ => ?_) <;> conv => whnf)
          | (refine ⟨_, _, mp_entry eI_cl eV_cl hfb rfl rfl, ?_⟩; conv => whnf)
          | (refine ⟨_, _, hlk _ _ _ _ _ _ rfl, ?_⟩; conv => whnf)
          | (refine ⟨_, _, e2 _ _ _ _ _ _ _ (by kernel_rfl), ?_⟩; conv => whnf)))
        all_goals try (exfalso; exact absurd ‹(!(some (r, s)).isSome) = true› (by simp))
        refine ⟨y, hy1, hy3, ?_⟩
        refine (show Weak 1 _ _ [(15, .ptr 1 0), (1, .mp 0)] [mapO eI eV m c, itO 0 c (y.map (·.2.2)) c] from ?_)
        rw [hy2]
        all_goals refine ⟨[], ?_⟩
        repeat (any_goals (first | exact True.intro | exact rfl | with_reducible_and_instances rfl | exact (by kernel_rfl) | refine And.intro ?_ ?_))
        all_goals conv => whnf
      · rw [hbad (fun h => ho (Option.some.inj h).symm)]
        have e1 : (!(r == o1 && s == o2)) = true := by
          simp only [Bool.not_eq_true', Bool.and_eq_false_iff, beq_eq_false_iff_ne]
          by_cases q : r = o1
          · exact .inr fun q' => ho (by rw [q, q'])
          · exact .inl q
        have e2 := fun L n t x y t' ty (h : eq2T Try.prog t = true) => (neS (P := Try.prog) (L := L) (n := n) (t := t) (x := x) (y := y) (t' := t') (ty := ty) (k := .i64) (k' := .i64) (a := r) (b := s) (c := o1) (d := o2) h)
        rw [e1] at e2
        clear e1 hS hbad
        conv => whnf
        repeat (any_goals (first
          | exact True.intro
          | (refine Or.inl ?_; conv => whnf)
          | (refine And.intro (fun _ => ?_) tf; conv => whnf)
          | (refine And.intro ft (fun _ => ?_); conv => whnf)
          | (refine And.intro (by kernel_rfl) ?_; conv => whnf)
          | (refine And.intro (by decide) ?_; conv => whnf)
          | (refine And.intro (fun _ => ?_) (fun h => absurd h (by decide)); conv => whnf)
          | (refine And.intro (fun h => absurd h (by decide)) (fun _ => ?_); conv => whnf)
          | (refine And.intro (fun _ => ?_) (fun _ => ?_) <;> conv => whnf)
          | (refine ⟨_, _, mp_entry eI_cl eV_cl hfb rfl rfl, ?_⟩; conv => whnf)
          | (refine ⟨_, _, hlk _ _ _ _ _ _ rfl, ?_⟩; conv => whnf)
          | (refine ⟨_, _, e2 _ _ _ _ _ _ _ (by kernel_rfl), ?_⟩; conv => whnf)))
        all_goals refine ⟨[], ?_⟩
        repeat (any_goals (first | exact True.intro | exact rfl | with_reducible_and_instances rfl | exact (by kernel_rfl) | refine And.intro ?_ ?_))
        all_goals conv => whnf
end Go.Proofs.Ytefidbifgilekaa
/- ledger: Same. -/
namespace Go.Proofs.Ytefidbifgilekaa
set_option linter.unusedSimpArgs false
set_option linter.unusedVariables false
open Go.RowKit Go.Sort
set_option maxRecDepth 100000
abbrev nilP : AV := .d (.v (.pointer none))
theorem same_nn : Sat Try.prog 21 [nilP, nilP] [] (bA true) [] := by
  refine sat_of_vc (T := tiOf Try.prog) (E := E0) Try.func21 rfl rfl hE0 hm0 rfl ?_
  conv => whnf
  repeat (any_goals (first
    | exact True.intro
    | (refine Or.inl ?_; conv => whnf)
    | (refine And.intro (fun _ => ?_) tf; conv => whnf)
    | (refine And.intro ft (fun _ => ?_); conv => whnf)
    | (refine And.intro (by kernel_rfl) ?_; conv => whnf)
    | (refine And.intro (by decide) ?_; conv => whnf)
    | (refine And.intro (fun _ => ?_) (fun h => absurd h (by decide)); conv => whnf)
    | (refine And.intro (fun h => absurd h (by decide)) (fun _ => ?_); conv => whnf)
    | (refine And.intro (fun _ => ?_) (fun _ => ?_) <;> conv => whnf)
    | (refine ⟨_, _, eqP (by kernel_rfl), ?_⟩; conv => whnf)
    | (refine ⟨_, _, eqN (by kernel_rfl), ?_⟩; conv => whnf)))
  all_goals refine ⟨[], ?_⟩
  repeat (any_goals (first | exact True.intro | exact rfl | with_reducible_and_instances rfl | exact (by kernel_rfl) | refine And.intro ?_ ?_))
  all_goals conv => whnf
theorem same_ln (m : Led) (c : Nat) : Sat Try.prog 21 [.ptr 0 0, nilP] (ledO m c) (bA false) (ledO m c) := by
  refine sat_of_vc (T := tiOf Try.prog) (E := E0) Try.func21 rfl rfl hE0 hm0 rfl ?_
  conv => whnf
  repeat (any_goals (first
    | exact True.intro
    | (refine Or.inl ?_; conv => whnf)
    | (refine And.intro (fun _ => ?_) tf; conv => whnf)
    | (refine And.intro ft (fun _ => ?_); conv => whnf)
    | (refine And.intro (by kernel_rfl) ?_; conv => whnf)
    | (refine And.intro (by decide) ?_; conv => whnf)
    | (refine And.intro (fun _ => ?_) (fun h => absurd h (by decide)); conv => whnf)
    | (refine And.intro (fun h => absurd h (by decide)) (fun _ => ?_); conv => whnf)
    | (refine And.intro (fun _ => ?_) (fun _ => ?_) <;> conv => whnf)
    | (refine ⟨_, _, eqP (by kernel_rfl), ?_⟩; conv => whnf)
    | (refine ⟨_, _, eqN (by kernel_rfl), ?_⟩; conv => whnf)))
  all_goals refine ⟨[], ?_⟩
  repeat (any_goals (first | exact True.intro | exact rfl | with_reducible_and_instances rfl | exact (by kernel_rfl) | refine And.intro ?_ ?_))
  all_goals conv => whnf
theorem same_one {m : Led} {c : Nat} (hf : fresh m c) (hm : m.length ≤ 1000000) : Sat Try.prog 21 [.ptr 0 0, .ptr 0 0] (ledO m c) (bA (eqMB m m)) (ledO m c) := by
  have e1 := equal1_sat hf hm
  generalize eqMB m m = bb at *
  refine sat_of_vc (T := tiOf Try.prog) (E := E0) Try.func21 rfl rfl hE0 hm0 rfl ?_
  conv => whnf
  repeat (any_goals (first
    | exact True.intro
    | (refine Or.inl ?_; conv => whnf)
    | (refine And.intro (fun _ => ?_) tf; conv => whnf)
    | (refine And.intro ft (fun _ => ?_); conv => whnf)
    | (refine And.intro (by kernel_rfl) ?_; conv => whnf)
    | (refine And.intro (by decide) ?_; conv => whnf)
    | (refine And.intro (fun _ => ?_) (fun h => absurd h (by decide)); conv => whnf)
    | (refine And.intro (fun h => absurd h (by decide)) (fun _ => ?_); conv => whnf)
    | (refine And.intro (fun _ => ?_) (fun _ => ?_) <;> conv => whnf)
    | (refine ⟨_, _, eqP (by kernel_rfl), ?_⟩; conv => whnf)
    | (refine ⟨_, _, e1.at1 1 rfl rfl rfl, ?_⟩; conv => whnf)))
  all_goals refine ⟨[], ?_⟩
  repeat (any_goals (first | exact True.intro | exact rfl | with_reducible_and_instances rfl | exact (by kernel_rfl) | refine And.intro ?_ ?_))
  all_goals conv => whnf
theorem same_two {m m2 : Led} {c c2 : Nat} (hf : fresh m c) (hm : m.length ≤ 1000000) (hm2 : m2.length ≤ 1000000) : Sat Try.prog 21 [.ptr 0 0, .ptr 2 0] [.cells [.mp 1], mapO eI eV m c, .cells [.mp 3], mapO eI eV m2 c2] (bA (eqMB m m2)) [.cells [.mp 1], mapO eI eV m c, .cells [.mp 3], mapO eI eV m2 c2] := by
  have e1 := equal_sat (c2 := c2) hf hm hm2
  generalize eqMB m m2 = bb at *
  refine sat_of_vc (T := tiOf Try.prog) (E := E0) Try.func21 rfl rfl hE0 hm0 rfl ?_
  conv => whnf
  repeat (any_goals (first
    | exact True.intro
    | (refine Or.inl ?_; conv => whnf)
    | (refine And.intro (fun _ => ?_) tf; conv => whnf)
    | (refine And.intro ft (fun _ => ?_); conv => whnf)
    | (refine And.intro (by kernel_rfl) ?_; conv => whnf)
    | (refine And.intro (by decide) ?_; conv => whnf)
    | (refine And.intro (fun _ => ?_) (fun h => absurd h (by decide)); conv => whnf)
    | (refine And.intro (fun h => absurd h (by decide)) (fun _ => ?_); conv => whnf)
    | (refine And.intro (fun _ => ?_) (fun _ => ?_) <;> conv => whnf)
    | (refine ⟨_, _, eqP (by kernel_rfl), ?_⟩; conv => whnf)
    | (refine ⟨_, _, e1.at2 1 3 rfl rfl rfl rfl rfl, ?_⟩; conv => whnf)))
  all_goals refine ⟨[], ?_⟩
  repeat (any_goals (first | exact True.intro | exact rfl | with_reducible_and_instances rfl | exact (by kernel_rfl) | refine And.intro ?_ ?_))
  all_goals conv => whnf
end Go.Proofs.Ytefidbifgilekaa
/- Arrays of numbers are compared. No program is named here. -/
namespace Go.Proofs.Ytefidbifgilekaa
set_option linter.unusedSimpArgs false
set_option linter.unusedVariables false
open Go.RowKit
section
variable {P : Program} {L : List AObj} {ty n : Nat} {x y : Operand} {t t' e : TypeId} {N : Nat} {i : TypeInfo}
abbrev arrV (l : List Int) : Array Value := (l.map fun z => Value.int .i64 z).toArray
theorem eqItemsN (he : P.underlying e = some (.int .i64)) (l l' : List Int) (hl : l.length = N) (hl' : l'.length = N) (w : World) : ∀ (is : List Nat), (∀ i ∈ is, i < N) →
    (Op.eqItems 9999 e 1 (arrV l) (arrV l') is).run P w = .ok (is.all fun i => decide (l[i]? = l'[i]?)) w
  | [], _ => by simp [Op.eqItems]
  | i :: is, h => by
    have hi := h i (by simp)
    have h1 : l[i]? = some (l[i]'(by omega)) := List.getElem?_eq_getElem _
    have h2 : l'[i]? = some (l'[i]'(by omega)) := List.getElem?_eq_getElem _
    have ih := eqItemsN he l l' hl hl' w is (fun j hj => h j (by simp [hj]))
    have ht : tagT P e = 1 := by unfold tagT; rw [he]
    have p1 : (part e (arrV l) i).run P w = .ok (.int .i64 (l[i]'(by omega))) w := part_tag ht (by omega) (by simp [arrV, h1])
    have p2 : (part e (arrV l') i).run P w = .ok (.int .i64 (l'[i]'(by omega))) w := part_tag ht (by omega) (by simp [arrV, h2])
    simp only [Op.eqItems, Sem.run_bind, Nat.mul_one, p1, p2, Result.andThen_ok, run_equalIn_int w 9998 e .i64 .i64 _ _ he, List.all_cons, h1, h2]
    by_cases heq : l[i] = l'[i]
    · simp [heq, ih]
    · simp [heq]
theorem eqInArr (hu : P.underlying t = some (.array N e)) (he : P.underlying e = some (.int .i64)) (hi : P.info? e = some i) (hc : P.cellsOf e = 1) (l l' : List Int) (hl : l.length = N) (hl' : l'.length = N) (w : World) : (Op.equalIn 10000 t (.agg (arrV l)) (.agg (arrV l'))).run P w = .ok (decide (l = l')) w := by
  rw [run_equalIn_array w 9999 _ _ hu hi, hc, eqItemsN he l l' hl hl' w _ (fun i hi => List.mem_range.1 hi)]
  have : ((List.range N).all fun i => decide (l[i]? = l'[i]?)) = decide (l = l') := by
    rw [Bool.eq_iff_iff, List.all_eq_true, decide_eq_true_eq]
    refine ⟨fun h => List.ext_getElem? fun b => ?_, fun h => by subst h; simp⟩
    by_cases hb : b < N
    · exact of_decide_eq_true (h b (List.mem_range.2 hb))
    · rw [List.getElem?_eq_none (by omega), List.getElem?_eq_none (by omega)]
  rw [this]
theorem arr_flat : ∀ (l : List Int), FlatVs (l.map fun z => D.v (.int .i64 z)) (l.map fun z => Value.int .i64 z)
  | [] => .nil
  | z :: l => .cons (.v _) rfl (arr_flat l)
theorem eqArr (hu : P.underlying t = some (.array N e)) (he : P.underlying e = some (.int .i64)) (hi : (P.info? e).isSome = true) (hc : P.cellsOf e = 1) (hg : P.eqGuardType P.depth t = false) (l l' : List Int) (hl : l.length = N) (hl' : l'.length = N) :
    Does P (.binOp .eql t x y t') ty L n [.d (.agg (l.map fun z => D.v (.int .i64 z))), .d (.agg (l'.map fun z => D.v (.int .i64 z)))] e0 (.d (.v (.bool (decide (l = l'))))) :=
  does_ra2 rfl fun o w F ρ ev u v ho h1 h2 hu' hv => by
    have := FlatW.eq (.d (.agg (arr_flat l))) hu'
    subst this
    have := FlatW.eq (.d (.agg (arr_flat l'))) hv
    subst this
    obtain ⟨j, hj⟩ := Option.isSome_iff_exists.1 hi
    exact exec_eq ho h1 h2 (run_eqGuard_agg w .eql _ _ _ _ _ hg) (by rw [run_eql_struct, eqInArr hu he hj hc l l' hl hl']; rfl)
end
end Go.Proofs.Ytefidbifgilekaa
/- ledger: the statements' play. -/
namespace Go.Proofs.Ytefidbifgilekaa
set_option linter.unusedSimpArgs false
set_option linter.unusedVariables false
open Go.RowKit Go.Sort
set_option maxRecDepth 100000
theorem Sat.at4 {P : Program} {g : FuncId} {args : List AV} {o o' p p' q q' s s' : AObj} {N L : List AObj} {n : Nat} {r : AV} (h : Sat P g args [o, p, q, s] r (o' :: p' :: q' :: s' :: N)) (a b c d : Nat) (hab : decide ([a, b, c, d].Nodup) = true) (hlive : (o.live && p.live && q.live && s.live) = true) (hids : (AV.lts 4 args && AObj.lts 4 [o, p, q, s]) = true)
    (ha : L[a]? = some (o.rn (sub [a, b, c, d] n))) (hb : L[b]? = some (p.rn (sub [a, b, c, d] n))) (hc : L[c]? = some (q.rn (sub [a, b, c, d] n))) (hd : L[d]? = some (s.rn (sub [a, b, c, d] n))) :
    CallOK P g (AV.rns (sub [a, b, c, d] n) args) L n ⟨[a, b, c, d], [(a, o'.rn (sub [a, b, c, d] n)), (b, p'.rn (sub [a, b, c, d] n)), (c, q'.rn (sub [a, b, c, d] n)), (d, s'.rn (sub [a, b, c, d] n))], AObj.rns (sub [a, b, c, d] n) N⟩ (r.rn (sub [a, b, c, d] n)) := by
  simp only [Bool.and_eq_true] at hlive
  exact h.at_ [a, b, c, d] L n rfl (of_decide_eq_true hab) rfl (by simp [AObj.lives, hlive]) hids fun j hj => by
    match j, hj with
    | 0, _ => exact ha
    | 1, _ => exact hb
    | 2, _ => exact hc
    | 3, _ => exact hd
def mA : Led := [((3, 1, 0), (0, 7), 0)]
def mB : Led := [((3, 1, 0), (0, 7), 0), ((2, 0, 0), (6, 0), 1)]
theorem freshB : fresh mB 2 := by unfold fresh mB; decide
theorem idsB : idsL mB = [(2, 0, 0), (3, 1, 0)] := by
  unfold idsL
  have h1 : sorted cmpI (mB.map (·.1)) = sorted cmpI [(2, 0, 0), (3, 1, 0)] := sorted_of_perm swoI totI (List.Perm.swap _ _ _)
  rw [h1]
  exact List.mergeSort_of_pairwise (by
    refine List.pairwise_pair.2 ?_
    decide)
theorem n1 : noteR [] 0 3 1 0 (0, 7) = ((mA, 1), 0) := rfl
theorem n2 : noteR mA 1 3 1 0 (0, 7) = ((mA, 1), 0) := rfl
theorem n3 : noteR mA 1 3 1 0 (0, 8) = ((mA, 1), 18) := rfl
theorem n4 : noteR mA 1 2 0 0 (6, 1) = ((mA, 1), 10) := rfl
theorem n5 : noteR mA 1 2 0 0 (6, 0) = ((mB, 2), 0) := rfl
theorem in7 : inK mB 7 mB.length = [(3, 1, 0)] := by
  unfold inK
  rw [idsB]
  decide
theorem aliveL_sat : Sat Try.prog 10 [] [] (bA true) [] := by
  have a1 := note_sat [] 0 3 1 0 0 7
  rw [n1] at a1
  have a2 := note_sat mA 1 3 1 0 0 7
  rw [n2] at a2
  have a3 := note_sat mA 1 3 1 0 0 8
  rw [n3] at a3
  have a4 := note_sat mA 1 2 0 0 6 1
  rw [n4] at a4
  have a5 := note_sat mA 1 2 0 0 6 0
  rw [n5] at a5
  have a6 := of_sat mB 2 3 1 0
  rw [show findX mB (3, 1, 0) = some (0, 7) by decide] at a6
  have a7 := in_sat freshB (by decide) 7
  rw [in7] at a7
  have a8 := all_sat mB 2
  have a9 := len_sat mB 2
  have hT : ∀ (L : List AObj) (n ty : Nat) (x y : Operand) (t' : TypeId), Does Try.prog (.binOp .eql 48 x y t') ty L n [.d (.agg [iD 1, iD 0, iD 0, iD 0, iD 0, iD 0, iD 1]), .d (.agg [iD 1, iD 0, iD 0, iD 0, iD 0, iD 0, iD 1])] e0 (bA true) := fun L n ty x y t' =>
    eqArr Try.underlying48 Try.underlying3 (by kernel_rfl) (by kernel_rfl) (by kernel_rfl) [1, 0, 0, 0, 0, 0, 1] [1, 0, 0, 0, 0, 0, 1] rfl rfl
  have a10 := tally_sat freshB (by decide) (by unfold okV mB; decide)
  rw [show talR mB = [iD 1, iD 0, iD 0, iD 0, iD 0, iD 0, iD 1] from rfl] at a10
  have a11 := same_one freshB (by decide)
  rw [show eqMB mB mB = true by decide] at a11
  have a12 := same_two (c2 := 0) (m2 := []) freshB (by decide) (by decide)
  rw [show eqMB mB [] = false by decide] at a12
  refine sat_of_vc (T := tiOf Try.prog) (E := E0) Try.func10 rfl rfl hE0 hm0 rfl ?_
  conv => whnf
  repeat (any_goals (first
    | exact True.intro
    | (refine Or.inl ?_; conv => whnf)
    | (refine And.intro (fun _ => ?_) tf; conv => whnf)
    | (refine And.intro ft (fun _ => ?_); conv => whnf)
    | (refine And.intro (by kernel_rfl) ?_; conv => whnf)
    | (refine And.intro (by decide) ?_; conv => whnf)
    | (refine And.intro (fun _ => ?_) (fun h => absurd h (by decide)); conv => whnf)
    | (refine And.intro (fun h => absurd h (by decide)) (fun _ => ?_); conv => whnf)
    | (refine And.intro (fun _ => ?_) (fun _ => ?_) <;> conv => whnf)
    | (refine ⟨_, _, eqP (by kernel_rfl), ?_⟩; conv => whnf)
    | (refine ⟨_, _, new_sat.nw rfl, ?_⟩; conv => whnf)
    | (refine ⟨_, _, a1.at2 0 1 rfl rfl rfl rfl rfl, ?_⟩; conv => whnf)
    | (refine ⟨_, _, a2.at2 0 1 rfl rfl rfl rfl rfl, ?_⟩; conv => whnf)
    | (refine ⟨_, _, a3.at2 0 1 rfl rfl rfl rfl rfl, ?_⟩; conv => whnf)
    | (refine ⟨_, _, a4.at2 0 1 rfl rfl rfl rfl rfl, ?_⟩; conv => whnf)
    | (refine ⟨_, _, a5.at2 0 1 rfl rfl rfl rfl rfl, ?_⟩; conv => whnf)
    | (refine ⟨_, _, a6.at2 0 1 rfl rfl rfl rfl rfl, ?_⟩; conv => whnf)
    | (refine ⟨_, _, a7.at2 0 1 rfl rfl rfl rfl rfl, ?_⟩; conv => whnf)
    | (refine ⟨_, _, a8.at2 0 1 rfl rfl rfl rfl rfl, ?_⟩; conv => whnf)))
  refine ⟨Int, Nat, fun y z => y ≤ 2 ∧ (y = 0 → z = 0) ∧ (y = 1 → z = 2) ∧ (y = 2 → z = 23), fun z => [.cells [.mp 1], mapO eI eV mB 2, .cells [iA 3, iA 1, iA 0], .cells [iA 0, iA 7], .sl 3 [idR (3, 1, 0)], .cells [iA z], .cells [.ptr 0 0]], [(46, .fn (.func 41) [] [.ptr 6 0]), (11, .ptr 5 0), (10, .own 4), (9, bA true), (8, .ptr 3 0), (7, iA 0), (6, iA 10), (5, iA 18), (4, iA 0), (3, iA 0), (2, .ptr 2 0), (1, .ptr 0 0)], 7, _, _, _, [.cells [.mp 1], mapO eI eV mB 2, .dead, .dead, .dead, .dead, .cells [.ptr 0 0]], 0, _, _, ⟨0, ⟨by omega, by omega, by omega, by omega⟩, ?_⟩, rfl, by kernel_rfl, allIt (i := 6) (j := 0) (k := 1) freshB (by decide) rfl rfl rfl, ?_, ?_, ?_, ?_⟩
  · all_goals refine ⟨[], ?_⟩
    repeat (any_goals (first | exact True.intro | exact rfl | with_reducible_and_instances rfl | exact (by kernel_rfl) | refine And.intro ?_ ?_))
    all_goals conv => whnf
  · rintro y x y' ⟨e, _, rfl⟩; rfl
  · rintro y x _; exact ⟨⟨rfl, rfl, rfl, trivial⟩, Nat.le_refl 7⟩
  · rintro y z vals y' ⟨hy, h0, h1, h2⟩ ⟨e, ⟨hx, rfl⟩, rfl⟩
    rw [idsB] at hx
    match y, hx with
    | 0, hx =>
      have he : (2, 0, 0) = e := Option.some.inj hx
      subst he
      have hz := h0 rfl
      subst hz
      conv => whnf
      repeat (any_goals (first
        | exact True.intro
        | (refine Or.inl ?_; conv => whnf)
        | (refine And.intro (fun _ => ?_) tf; conv => whnf)
        | (refine And.intro ft (fun _ => ?_); conv => whnf)
        | (refine And.intro (by kernel_rfl) ?_; conv => whnf)
        | (refine And.intro (by decide) ?_; conv => whnf)
        | (refine And.intro (fun _ => ?_) (fun h => absurd h (by decide)); conv => whnf)
        | (refine And.intro (fun h => absurd h (by decide)) (fun _ => ?_); conv => whnf)
        | (refine And.intro (fun _ => ?_) (fun _ => ?_) <;> conv => whnf)))
      refine ⟨2, ⟨by omega, by omega, by omega, by omega⟩, ?_⟩
      all_goals refine ⟨[], ?_⟩
      repeat (any_goals (first | exact True.intro | exact rfl | with_reducible_and_instances rfl | exact (by kernel_rfl) | refine And.intro ?_ ?_))
      all_goals conv => whnf
    | 1, hx =>
      have he : (3, 1, 0) = e := Option.some.inj hx
      subst he
      have hz := h1 rfl
      subst hz
      conv => whnf
      repeat (any_goals (first
        | exact True.intro
        | (refine Or.inl ?_; conv => whnf)
        | (refine And.intro (fun _ => ?_) tf; conv => whnf)
        | (refine And.intro ft (fun _ => ?_); conv => whnf)
        | (refine And.intro (by kernel_rfl) ?_; conv => whnf)
        | (refine And.intro (by decide) ?_; conv => whnf)
        | (refine And.intro (fun _ => ?_) (fun h => absurd h (by decide)); conv => whnf)
        | (refine And.intro (fun h => absurd h (by decide)) (fun _ => ?_); conv => whnf)
        | (refine And.intro (fun _ => ?_) (fun _ => ?_) <;> conv => whnf)))
      refine ⟨23, ⟨by omega, by omega, by omega, by omega⟩, ?_⟩
      all_goals refine ⟨[], ?_⟩
      repeat (any_goals (first | exact True.intro | exact rfl | with_reducible_and_instances rfl | exact (by kernel_rfl) | refine And.intro ?_ ?_))
      all_goals conv => whnf
    | y + 2, hx => cases hx
  · rintro y z hF ⟨hy, h0, h1, h2⟩
    have hy2 : y = 2 := hF
    have hz := h2 hy2
    subst hz
    conv => whnf
    repeat (any_goals (first
      | exact True.intro
      | (refine ⟨0, rfl, Nat.zero_lt_one, ?_⟩; conv => whnf)
      | (refine ⟨idR (3, 1, 0), rfl, ?_⟩; conv => whnf)
      | (refine Or.inl ?_; conv => whnf)
      | (refine And.intro (fun _ => ?_) tf; conv => whnf)
      | (refine And.intro ft (fun _ => ?_); conv => whnf)
      | (refine And.intro (by kernel_rfl) ?_; conv => whnf)
      | (refine And.intro (by decide) ?_; conv => whnf)
      | (refine And.intro (fun _ => ?_) (fun h => absurd h (by decide)); conv => whnf)
      | (refine And.intro (fun h => absurd h (by decide)) (fun _ => ?_); conv => whnf)
      | (refine And.intro (fun _ => ?_) (fun _ => ?_) <;> conv => whnf)
      | (refine ⟨_, _, new_sat.nw rfl, ?_⟩; conv => whnf)
      | (refine ⟨_, _, a9.at2 0 1 rfl rfl rfl rfl rfl, ?_⟩; conv => whnf)
      | (refine ⟨_, _, a10.at2 0 1 rfl rfl rfl rfl rfl, ?_⟩; conv => whnf)
      | (refine ⟨_, _, a11.at2 0 1 rfl rfl rfl rfl rfl, ?_⟩; conv => whnf)
      | (refine ⟨_, _, eqF [1, 1, 1] (by kernel_rfl) rfl, ?_⟩; conv => whnf)
      | (refine ⟨_, _, hT _ _ _ _ _ _, ?_⟩; conv => whnf)
      | (refine ⟨_, _, a12.at4 0 1 7 8 rfl rfl rfl rfl rfl rfl rfl, ?_⟩; conv => whnf)
      | (refine ⟨_, _, same_nn.pu rfl rfl, ?_⟩; conv => whnf)))
    all_goals trace_state
    all_goals refine ⟨[], ?_⟩
    repeat (any_goals (first | exact True.intro | exact rfl | with_reducible_and_instances rfl | exact (by kernel_rfl) | refine And.intro ?_ ?_))
    all_goals conv => whnf
end Go.Proofs.Ytefidbifgilekaa
/- ledger: a ledger made of facts. -/
namespace Go.Proofs.Ytefidbifgilekaa
set_option linter.unusedSimpArgs false
set_option linter.unusedVariables false
open Go.RowKit Go.Sort
set_option maxRecDepth 100000
abbrev FactP := Id3 × Ver
abbrev factR (f : FactP) : List D := [iD f.1.1, iD f.1.2.1, iD f.1.2.2, iD f.2.1, iD f.2.2]
def stepM (s : Led × Nat) (f : FactP) : Led × Nat := (noteR s.1 s.2 f.1.1 f.1.2.1 f.1.2.2 f.2).1
def madeM (l : List FactP) : Led × Nat := l.foldl stepM ([], 0)
structure LedOK (m : Led) (c n : Nat) : Prop where
  fr : fresh m c
  ks : (m.map (·.1)).Nodup
  ok : okV m
  ln : m.length ≤ n
theorem LedOK.nil : LedOK [] 0 0 := ⟨⟨List.nodup_nil, fun p h => by cases h⟩, List.nodup_nil, fun p h => (by cases h), Nat.le_refl _⟩
theorem LedOK.mono {m : Led} {c n k : Nat} (h : LedOK m c n) (hk : n ≤ k) : LedOK m c k := ⟨h.fr, h.ks, h.ok, Nat.le_trans h.ln hk⟩
theorem find_none {m : Led} {x : Id3} (h : findX m x = none) : x ∉ m.map (·.1) := by
  intro hx
  obtain ⟨p, hp, rfl⟩ := List.mem_map.1 hx
  unfold findX at h
  rw [Option.map_eq_none_iff, List.find?_eq_none] at h
  exact h p hp (by simp)
theorem noteR_cases (m : Led) (c : Nat) (a b d : Int) (v : Ver) :
    (noteR m c a b d v = ((m, c), 10) ∧ badN a b d v) ∨ (¬ badN a b d v ∧ ∃ o, findX m (a, b, d) = some o ∧ ((o = v ∧ noteR m c a b d v = ((m, c), 0)) ∨ (o ≠ v ∧ noteR m c a b d v = ((m, c), 18)))) ∨
    (¬ badN a b d v ∧ findX m (a, b, d) = none ∧ noteR m c a b d v = ((m ++ [((a, b, d), v, c)], c + 1), 0)) := by
  unfold noteR
  by_cases h : badN a b d v
  · rw [if_pos h]; exact .inl ⟨rfl, h⟩
  · rw [if_neg h]
    right
    cases hx : findX m (a, b, d) with
    | none => exact .inr ⟨h, rfl, rfl⟩
    | some o =>
      refine .inl ⟨h, o, rfl, ?_⟩
      by_cases ho : o = v
      · exact .inl ⟨ho, by simp [ho]⟩
      · exact .inr ⟨ho, by simp [ho]⟩
theorem LedOK.note {m : Led} {c n : Nat} (h : LedOK m c n) (a b d : Int) (v : Ver) : LedOK (noteR m c a b d v).1.1 (noteR m c a b d v).1.2 (n + 1) := by
  rcases noteR_cases m c a b d v with ⟨e, _⟩ | ⟨_, o, _, ⟨_, e⟩ | ⟨_, e⟩⟩ | ⟨hb, hx, e⟩
  · rw [e]; exact h.mono (Nat.le_succ _)
  · rw [e]; exact h.mono (Nat.le_succ _)
  · rw [e]; exact h.mono (Nat.le_succ _)
  · rw [e]
    refine ⟨⟨?_, ?_⟩, ?_, ?_, ?_⟩
    · show ((m ++ [((a, b, d), v, c)]).map (·.2.2)).Nodup
      rw [List.map_append, List.nodup_append]
      refine ⟨h.fr.1, by simp, fun x hx y hy exy => ?_⟩
      simp at hy; subst hy exy
      obtain ⟨p, hp, hpe⟩ := List.mem_map.1 hx
      have := h.fr.2 p hp; omega
    · intro p hp
      show p.2.2 < c + 1
      rcases List.mem_append.1 hp with hp | hp
      · have := h.fr.2 p hp; omega
      · rw [List.mem_singleton.1 hp]; exact Nat.lt_succ_self _
    · show ((m ++ [((a, b, d), v, c)]).map (·.1)).Nodup
      rw [List.map_append, List.nodup_append]
      refine ⟨h.ks, by simp, fun x hx' y hy exy => ?_⟩
      simp at hy; subst hy exy
      exact find_none hx hx'
    · intro p hp
      rcases List.mem_append.1 hp with hp | hp
      · exact h.ok p hp
      · rw [List.mem_singleton.1 hp]
        unfold badN at hb
        show 0 ≤ v.1 ∧ v.1 ≤ 6
        omega
    · show (m ++ [((a, b, d), v, c)]).length ≤ n + 1
      have := h.ln
      simp; omega
theorem made_take_succ {l : List FactP} {k : Nat} {f : FactP} (h : l[k]? = some f) : madeM (l.take (k + 1)) = stepM (madeM (l.take k)) f := by
  unfold madeM
  rw [List.take_add_one, h, List.foldl_append]
  rfl
theorem made_ok (l : List FactP) : LedOK (madeM l).1 (madeM l).2 l.length := by
  have : ∀ k, k ≤ l.length → LedOK (madeM (l.take k)).1 (madeM (l.take k)).2 k := by
    intro k
    induction k with
    | zero => intro _; exact LedOK.nil
    | succ k ih =>
      intro hk
      have hx : l[k]? = some l[k] := List.getElem?_eq_getElem (by omega)
      rw [made_take_succ hx]
      exact (ih (by omega)).note _ _ _ _
  have h := this l.length (Nat.le_refl _)
  rw [List.take_length] at h
  exact h
theorem made_sat (l : List FactP) (hn : l.length ≤ 1000000) : Sat Try.prog 19 [.d (.sl 5 (l.map factR))] [] (.ptr 0 0) (ledO (madeM l).1 (madeM l).2) := by
  have hm : (l.map factR).length = l.length := List.length_map _
  refine sat_of_vc (T := tiOf Try.prog) (E := E0) Try.func19 rfl rfl hE0 hm0 rfl ?_
  conv => whnf
  repeat (any_goals (first
    | exact True.intro
    | (refine Or.inl ?_; conv => whnf)
    | (refine And.intro (fun _ => ?_) tf; conv => whnf)
    | (refine And.intro ft (fun _ => ?_); conv => whnf)
    | (refine And.intro (by kernel_rfl) ?_; conv => whnf)
    | (refine And.intro (by decide) ?_; conv => whnf)
    | (refine And.intro (fun _ => ?_) (fun h => absurd h (by decide)); conv => whnf)
    | (refine And.intro (fun h => absurd h (by decide)) (fun _ => ?_); conv => whnf)
    | (refine And.intro (fun _ => ?_) (fun _ => ?_) <;> conv => whnf)
    | (refine ⟨_, _, eqP (by kernel_rfl), ?_⟩; conv => whnf)
    | (refine ⟨_, _, new_sat.nw rfl, ?_⟩; conv => whnf)))
  refine ⟨Nat × (Led × Nat), fun y => y.1 ≤ l.length ∧ y.2 = madeM (l.take y.1), fun y => ([(4, iA y.1), (3, .ptr 0 0), (0, .d (.sl 5 (l.map factR)))], [.cells [.mp 1], mapO eI eV y.2.1 y.2.2]), fun y => l.length - y.1, ⟨(0, ([], 0)), ⟨Nat.zero_le _, rfl⟩, ?_⟩, ?_⟩
  · all_goals refine ⟨[], ?_⟩
    repeat (any_goals (first | exact True.intro | exact rfl | with_reducible_and_instances rfl | exact (by kernel_rfl) | refine And.intro ?_ ?_))
    all_goals conv => whnf
  rintro ⟨k, s⟩ ⟨hk, hs⟩
  replace hk : k ≤ l.length := hk
  replace hs : s = madeM (l.take k) := hs
  conv => whnf
  by_cases hlt : k < l.length
  · have hx : l[k]? = some l[k] := List.getElem?_eq_getElem hlt
    generalize l[k] = f at hx
    obtain ⟨⟨a, b, d⟩, r, z⟩ := f
    have hst := made_take_succ hx
    rw [← hs] at hst
    have nt := note_sat s.1 s.2 a b d r z
    repeat (any_goals (first
      | exact True.intro
      | (refine ⟨k, _, rfl, map_get hx, ?_⟩; conv => whnf)
      | (refine Or.inl ?_; conv => whnf)
      | (refine And.intro (fun _ => ?_) tf; conv => whnf)
      | (refine And.intro ft (fun _ => ?_); conv => whnf)
      | (refine And.intro (by kernel_rfl) ?_; conv => whnf)
      | (refine And.intro (by decide) ?_; conv => whnf)
      | (refine And.intro (fun _ => ?_) (fun h => absurd h (by decide)); conv => whnf)
      | (refine And.intro (fun h => absurd h (by decide)) (fun _ => ?_); conv => whnf)
      | (refine And.intro (fun _ => ?_) (fun _ => ?_) <;> conv => whnf)
      | (refine ⟨_, _, nt.at2 0 1 rfl rfl rfl rfl rfl, ?_⟩; conv => whnf)))
    all_goals try (exfalso; simp only [decide_eq_true_eq, decide_eq_false_iff_not, Bool.not_eq_true', Bool.not_eq_false', Bool.not_eq_true, Bool.not_eq_false, beq_iff_eq, bne_iff_ne, beq_eq_false_iff_ne, bne_eq_false_iff_eq, ne_eq, Decidable.not_not] at *; first | omega | contradiction | (simp_all; done) | (simp_all; omega))
    refine ⟨(k + 1, stepM s ((a, b, d), r, z)), ⟨hlt, hst.symm⟩, show l.length - (k + 1) < l.length - k by omega, ?_⟩
    all_goals refine ⟨[], ?_⟩
    repeat (any_goals (first | exact True.intro | exact rfl | with_reducible_and_instances rfl | exact (by kernel_rfl) | refine And.intro ?_ ?_))
    all_goals conv => whnf
    exact wk1 (by omega)
  · have hke : k = l.length := by omega
    subst hke
    rw [List.take_length] at hs
    subst hs
    repeat (any_goals (first
      | exact True.intro
      | (refine Or.inl ?_; conv => whnf)
      | (refine And.intro (fun _ => ?_) tf; conv => whnf)
      | (refine And.intro ft (fun _ => ?_); conv => whnf)
      | (refine And.intro (by kernel_rfl) ?_; conv => whnf)
      | (refine And.intro (by decide) ?_; conv => whnf)
      | (refine And.intro (fun _ => ?_) (fun h => absurd h (by decide)); conv => whnf)
      | (refine And.intro (fun h => absurd h (by decide)) (fun _ => ?_); conv => whnf)
      | (refine And.intro (fun _ => ?_) (fun _ => ?_) <;> conv => whnf)))
    all_goals try (exfalso; simp only [decide_eq_true_eq, decide_eq_false_iff_not, Bool.not_eq_true', Bool.not_eq_false', Bool.not_eq_true, Bool.not_eq_false, beq_iff_eq, bne_iff_ne, beq_eq_false_iff_ne, bne_eq_false_iff_eq, ne_eq, Decidable.not_not] at *; first | omega | contradiction | (simp_all; done) | (simp_all; omega))
    all_goals refine ⟨[], ?_⟩
    repeat (any_goals (first | exact True.intro | exact rfl | with_reducible_and_instances rfl | exact (by kernel_rfl) | refine And.intro ?_ ?_))
    all_goals conv => whnf
theorem ty_facts {x : D} (h : TyV Try.prog 22 x) : ∃ l : List FactP, x = .sl 5 (l.map factR) ∧ (∀ f ∈ l, in64 f.1.1 ∧ in64 f.1.2.1 ∧ in64 f.1.2.2 ∧ in64 f.2.1 ∧ in64 f.2.2) := by
  obtain ⟨rows, rfl, h2, h3⟩ := ty_slice h Try.underlying22
  obtain ⟨l, rfl, hl⟩ := rows_map (f := factR) (p := fun f => in64 f.1.1 ∧ in64 f.1.2.1 ∧ in64 f.1.2.2 ∧ in64 f.2.1 ∧ in64 f.2.2) fun r hr => by
    have g : TyB (Ty Try.prog 7) Try.prog 35 r := h2 r hr
    unfold TyB at g
    rw [Try.underlying35] at g
    obtain ⟨dss, rfl, g2⟩ := g
    obtain ⟨d1, r1, e1, g3, g4⟩ := g2
    obtain ⟨d2, r2, e2, g5, g6⟩ := g4
    have g6 : r2 = [] := g6
    subst e1 e2 g6
    obtain ⟨zs, q1, rfl, q2⟩ := ty_ints (n := 3) (m := 5) g3 (by kernel_rfl)
    obtain ⟨ws, q3, rfl, q4⟩ := ty_ints (n := 2) (m := 5) g5 (by kernel_rfl)
    match zs, q1, q2, ws, q3, q4 with
    | [a, b, c], _, q2, [d, e], _, q4 => exact ⟨((a, b, c), d, e), rfl, q2 a (by simp), q2 b (by simp), q2 c (by simp), q4 d (by simp), q4 e (by simp)⟩
  refine ⟨l, ?_, hl⟩
  rw [show Try.prog.cellsOf 35 = 5 by kernel_rfl]
end Go.Proofs.Ytefidbifgilekaa
/- ledger: sums, in plain Lean. -/
namespace Go.Proofs.Ytefidbifgilekaa
set_option linter.unusedSimpArgs false
set_option linter.unusedVariables false
set_option linter.unusedSectionVars false
open Go.RowKit Go.Sort
set_option maxRecDepth 100000
/-! ### maps whose entries bear numbers of their own -/
section
variable {κ ν : Type} [DecidableEq κ]
structure Fr (m : Es κ ν) (c : Nat) : Prop where
  nd : (m.map (·.2.2)).Nodup
  lt : ∀ p ∈ m, p.2.2 < c
  ks : (m.map (·.1)).Nodup
theorem Fr.nil : Fr ([] : Es κ ν) 0 := ⟨List.nodup_nil, fun p h => (by cases h), List.nodup_nil⟩
theorem Fr.find {m : Es κ ν} {c : Nat} (h : Fr m c) {p : κ × ν × Nat} (hp : p ∈ m) : (m.find? fun q => q.2.2 == p.2.2) = some p := by
  have hn := h.nd
  clear h
  induction m with
  | nil => simp at hp
  | cons q m ih =>
    rw [List.map_cons, List.nodup_cons] at hn
    rw [List.find?_cons]
    rcases List.mem_cons.1 hp with e | e
    · subst e; simp
    · have : (q.2.2 == p.2.2) = false := by
        rw [beq_eq_false_iff_ne]
        intro e2
        exact hn.1 (by rw [e2]; exact List.mem_map.2 ⟨p, e, rfl⟩)
      rw [this]
      exact ih e hn.2
theorem hasX_iff {m : Es κ ν} {k : κ} : hasX m k = true ↔ k ∈ m.map (·.1) := by
  unfold hasX findX
  rw [Option.isSome_map, List.find?_isSome]
  simp only [decide_eq_true_eq, List.mem_map]
theorem putX_new {m : Es κ ν} {k : κ} {v : ν} {c : Nat} (h : k ∉ m.map (·.1)) : putX k v c m = m ++ [(k, v, c)] := by
  induction m with
  | nil => rfl
  | cons p m ih =>
    rw [List.map_cons, List.mem_cons, not_or] at h
    show (if p.1 = k then _ else p :: putX k v c m) = _
    rw [if_neg (fun e => h.1 e.symm), ih h.2]; rfl
theorem putX_keys {m : Es κ ν} {k : κ} {v : ν} {c : Nat} (h : k ∈ m.map (·.1)) : (putX k v c m).map (·.1) = m.map (·.1) ∧ (putX k v c m).map (·.2.2) = m.map (·.2.2) := by
  induction m with
  | nil => cases h
  | cons p m ih =>
    by_cases e : p.1 = k
    · have : putX k v c (p :: m) = (k, v, p.2.2) :: m := if_pos e
      rw [this]; simp [e]
    · have : putX k v c (p :: m) = p :: putX k v c m := if_neg e
      rw [this]
      have := ih (by rcases List.mem_cons.1 h with q | q; exact absurd q.symm e; exact q)
      simp [this.1, this.2]
theorem Fr.put {m : Es κ ν} {c : Nat} (h : Fr m c) (k : κ) (v : ν) : Fr (putX k v c m) (clkX k m c) ∧ ∀ x, x ∈ (putX k v c m).map (·.1) ↔ x = k ∨ x ∈ m.map (·.1) := by
  by_cases hk : k ∈ m.map (·.1)
  · obtain ⟨e1, e2⟩ := putX_keys (v := v) (c := c) hk
    have hc : clkX k m c = c := if_pos (hasX_iff.2 hk)
    rw [hc]
    refine ⟨⟨by rw [e2]; exact h.nd, fun p hp => ?_, by rw [e1]; exact h.ks⟩, fun x => ?_⟩
    · have : p.2.2 ∈ (putX k v c m).map (·.2.2) := List.mem_map.2 ⟨p, hp, rfl⟩
      rw [e2] at this
      obtain ⟨q, hq, e⟩ := List.mem_map.1 this
      rw [← e]; exact h.lt q hq
    · rw [e1]
      exact ⟨.inr, fun q => q.elim (fun e => by rw [e]; exact hk) id⟩
  · have e := putX_new (v := v) (c := c) hk
    have hc : clkX k m c = c + 1 := if_neg (fun q => hk (hasX_iff.1 q))
    rw [hc, e]
    refine ⟨⟨?_, fun p hp => ?_, ?_⟩, fun x => ?_⟩
    · rw [List.map_append, List.nodup_append]
      refine ⟨h.nd, by simp, fun x hx y hy exy => ?_⟩
      simp at hy; subst hy exy
      obtain ⟨p, hp, hpe⟩ := List.mem_map.1 hx
      have := h.lt p hp; omega
    · rcases List.mem_append.1 hp with hp | hp
      · have := h.lt p hp; omega
      · rw [List.mem_singleton.1 hp]; exact Nat.lt_succ_self _
    · rw [List.map_append, List.nodup_append]
      refine ⟨h.ks, by simp, fun x hx y hy exy => ?_⟩
      simp at hy; subst hy exy
      exact hk hx
    · rw [List.map_append, List.mem_append]
      simp [or_comm]
/-- All entries have come, each once: they are the entries. -/
theorem Fr.perm {m x : Es κ ν} {c : Nat} (h : Fr m c) (h1 : (x.map (·.2.2)).Nodup) (h2 : ∀ q ∈ x, q ∈ m) (h3 : ∀ p ∈ m, p.2.2 ∈ x.map (·.2.2)) : x.Perm m := by
  have nd : ∀ l : Es κ ν, (l.map (·.2.2)).Nodup → List.Pairwise (· ≠ ·) l := fun l h => by
    induction l with
    | nil => exact List.Pairwise.nil
    | cons a l ih =>
      rw [List.map_cons, List.nodup_cons] at h
      exact List.pairwise_cons.2 ⟨fun b hb e => h.1 (by rw [e]; exact List.mem_map.2 ⟨b, hb, rfl⟩), ih h.2⟩
  refine (List.perm_ext_iff_of_nodup (nd x h1) (nd m h.nd)).2 fun a => ⟨h2 a, fun ha => ?_⟩
  obtain ⟨b, hb, e⟩ := List.mem_map.1 (h3 a ha)
  have f1 := h.find ha
  have f2 := h.find (h2 b hb)
  rw [e, f1] at f2
  rw [Option.some.inj f2]; exact hb
end
theorem LedOK.toFr {m : Led} {c n : Nat} (h : LedOK m c n) : Fr m c := ⟨h.fr.1, h.fr.2, h.ks⟩
theorem find_mem {m : Led} {c : Nat} (h : Fr m c) {p : Id3 × Ver × Nat} (hp : p ∈ m) : findX m p.1 = some p.2.1 := by
  have hk := h.ks
  clear h
  unfold findX
  induction m with
  | nil => cases hp
  | cons q m ih =>
    rw [List.map_cons, List.nodup_cons] at hk
    rw [List.find?_cons]
    rcases List.mem_cons.1 hp with e | e
    · subst e; simp
    · have : decide (q.1 = p.1) = false := decide_eq_false fun e2 => hk.1 (by rw [e2]; exact List.mem_map.2 ⟨p, e, rfl⟩)
      rw [this]
      exact ih e hk.2
theorem ids_mem {m : Led} {c : Nat} (h : Fr m c) {x : Id3} (hx : x ∈ idsL m) : findX m x = some (verL m x) := by
  have hx : x ∈ m.map (·.1) := (sorted_perm cmpI _).mem_iff.1 hx
  obtain ⟨p, hp, rfl⟩ := List.mem_map.1 hx
  have := find_mem h hp
  rw [this]; unfold verL; rw [this]; rfl
theorem ids_count {m : Led} {c : Nat} (h : Fr m c) : ((idsL m).countP fun x => decide ((verL m x).1 = 0) : Nat) = cntR m 0 := by
  unfold idsL
  rw [(sorted_perm cmpI (m.map (·.1))).countP_eq, List.countP_map]
  unfold cntR
  congr 1
  refine List.countP_congr fun p hp => ?_
  have := find_mem h hp
  simp only [Function.comp_apply, verL, this, Option.getD_some]
theorem cnt_all {m : Led} (h : okV m) : cntR m 0 + cntR m 1 + cntR m 2 + cntR m 3 + cntR m 4 + cntR m 5 + cntR m 6 = m.length := by
  induction m with
  | nil => rfl
  | cons p m ih =>
    have ih := ih fun q hq => h q (List.mem_cons_of_mem _ hq)
    have hp := h p (List.mem_cons_self ..)
    have hc : ∀ r, cntR (p :: m) r = cntR m r + if p.2.1.1 = r then 1 else 0 := fun r => by
      unfold cntR
      rw [List.countP_cons]
      by_cases e : p.2.1.1 = r <;> simp [e]
    simp only [hc, List.length_cons]
    have : p.2.1.1 = 0 ∨ p.2.1.1 = 1 ∨ p.2.1.1 = 2 ∨ p.2.1.1 = 3 ∨ p.2.1.1 = 4 ∨ p.2.1.1 = 5 ∨ p.2.1.1 = 6 := by omega
    rcases this with e | e | e | e | e | e | e <;> simp [e] <;> omega
/-! ### windows -/
abbrev WinM := Es Int Bool
def winStep (m : Led) (s : WinM × Nat) (x : Id3) : WinM × Nat := if (verL m x).1 = 0 then (putX (verL m x).2 true s.2 s.1, clkX (verL m x).2 s.1 s.2) else s
def winK (m : Led) (k : Nat) : WinM × Nat := ((idsL m).take k).foldl (winStep m) ([], 0)
theorem winK_succ {m : Led} {k : Nat} {x : Id3} (h : (idsL m)[k]? = some x) : winK m (k + 1) = winStep m (winK m k) x := by
  unfold winK
  rw [List.take_add_one, h, List.foldl_append]
  rfl
theorem winK_ok (m : Led) : ∀ k, k ≤ (idsL m).length → Fr (winK m k).1 (winK m k).2 ∧ (∀ z, z ∈ (winK m k).1.map (·.1) ↔ ∃ x ∈ (idsL m).take k, verL m x = (0, z)) ∧ (winK m k).1.length ≤ k
  | 0, _ => ⟨Fr.nil, fun z => by simp [winK], Nat.zero_le _⟩
  | k + 1, hk => by
    obtain ⟨h1, h2, h3⟩ := winK_ok m k (by omega)
    have hx : (idsL m)[k]? = some (idsL m)[k] := List.getElem?_eq_getElem (by omega)
    generalize (idsL m)[k] = x at hx
    rw [winK_succ hx, List.take_add_one, hx]
    generalize winK m k = s at *
    unfold winStep
    by_cases e : (verL m x).1 = 0
    · rw [if_pos e]
      obtain ⟨g1, g2⟩ := h1.put (verL m x).2 true
      refine ⟨g1, fun z => ?_, ?_⟩
      · rw [g2, h2]
        constructor
        · rintro (rfl | ⟨y, hy, hv⟩)
          · exact ⟨x, by simp, by rw [← e]⟩
          · exact ⟨y, by simp [hy], hv⟩
        · rintro ⟨y, hy, hv⟩
          rcases List.mem_append.1 hy with hy | hy
          · exact .inr ⟨y, hy, hv⟩
          · simp at hy; subst hy
            exact .inl (by rw [hv])
      · have hl : ∀ (l : WinM) (z : Int) (c : Nat), (putX z true c l).length ≤ l.length + 1 := by
          intro l z c
          induction l with
          | nil => exact Nat.le_refl _
          | cons p l ih =>
            by_cases q : p.1 = z
            · have : putX z true c (p :: l) = (z, true, p.2.2) :: l := if_pos q
              rw [this]; simp
            · have : putX z true c (p :: l) = p :: putX z true c l := if_neg q
              rw [this]; simpa using ih
        have := hl s.1 (verL m x).2 s.2
        show (putX _ _ _ _).length ≤ _
        omega
    · rw [if_neg e]
      refine ⟨h1, fun z => ?_, by omega⟩
      rw [h2]
      constructor
      · rintro ⟨y, hy, hv⟩
        exact ⟨y, by simp [hy], hv⟩
      · rintro ⟨y, hy, hv⟩
        rcases List.mem_append.1 hy with hy | hy
        · exact ⟨y, hy, hv⟩
        · simp at hy; subst hy
          rw [hv] at e; exact absurd rfl e
def lenIn (m : Led) (z : Int) : Nat := (inK m z m.length).length
theorem sum_cover (f : Id3 → Ver) : ∀ (ids : List Id3) (K : List Int), K.Nodup → (∀ x ∈ ids, (f x).1 = 0 → (f x).2 ∈ K) → (K.map fun z => (ids.filter fun x => decide (f x = (0, z))).length).sum = ids.countP fun x => decide ((f x).1 = 0)
  | [], K, _, _ => by
    have : (K.map fun z => (([] : List Id3).filter fun x => decide (f x = (0, z))).length) = K.map fun _ => 0 := rfl
    have hz : ∀ K : List Int, (K.map fun _ => (0 : Nat)).sum = 0 := fun K => by
      induction K with
      | nil => rfl
      | cons a K ih => rw [List.map_cons, List.sum_cons, ih]
    rw [this]
    exact hz K
  | x :: ids, K, hn, hc => by
    have ih := sum_cover f ids K hn fun y hy => hc y (List.mem_cons_of_mem _ hy)
    have hx := hc x (List.mem_cons_self ..)
    have hone : ∀ (K : List Int), K.Nodup → (K.map fun z => ((x :: ids).filter fun x => decide (f x = (0, z))).length).sum = (K.map fun z => (ids.filter fun x => decide (f x = (0, z))).length).sum + if (f x).1 = 0 ∧ (f x).2 ∈ K then 1 else 0 := by
      intro K hn
      induction K with
      | nil => simp
      | cons a K ih2 =>
        have hn := List.nodup_cons.1 hn
        have ih2 := ih2 hn.2
        simp only [List.map_cons, List.sum_cons, ih2]
        rw [List.filter_cons]
        by_cases e : f x = (0, a)
        · have e1 : (f x).1 = 0 := by rw [e]
          have e2 : (f x).2 = a := by rw [e]
          simp only [e, decide_true, if_true, List.length_cons]
          have : ¬ (a ∈ K) := hn.1
          simp [this]; omega
        · have hd : decide (f x = (0, a)) = false := decide_eq_false e
          rw [hd]
          have : ((f x).1 = 0 ∧ (f x).2 ∈ a :: K) ↔ ((f x).1 = 0 ∧ (f x).2 ∈ K) := by
            constructor
            · rintro ⟨q1, q2⟩
              rcases List.mem_cons.1 q2 with q | q
              · exact absurd (Prod.ext q1 q) e
              · exact ⟨q1, q⟩
            · rintro ⟨q1, q2⟩
              exact ⟨q1, List.mem_cons_of_mem _ q2⟩
          simp only [this]
          simp; omega
    rw [hone K hn, ih, List.countP_cons]
    by_cases e : (f x).1 = 0
    · simp [e, hx e]
    · simp [e]
theorem in_sum {m : Led} {c : Nat} (h : Fr m c) : ((((winK m m.length).1.map fun p => lenIn m p.1).sum : Nat) : Int) = cntR m 0 := by
  obtain ⟨h1, h2, _⟩ := winK_ok m m.length (by rw [idsL_len]; exact Nat.le_refl _)
  have ht : (idsL m).take m.length = idsL m := List.take_of_length_le (by rw [idsL_len]; exact Nat.le_refl _)
  rw [ht] at h2
  have e : ((winK m m.length).1.map fun p => lenIn m p.1) = ((winK m m.length).1.map (·.1)).map fun z => ((idsL m).filter fun x => decide (verL m x = (0, z))).length := by
    rw [List.map_map]
    refine List.map_congr_left fun p _ => ?_
    show (inK m p.1 m.length).length = _
    unfold inK
    rw [ht]; rfl
  rw [e, sum_cover (verL m) (idsL m) _ h1.ks (fun x hx h0 => (h2 _).2 ⟨x, hx, by rw [← h0]⟩)]
  exact ids_count h
end Go.Proofs.Ytefidbifgilekaa
/- ledger: an id has the first verdict that it got; in plain Lean. -/
namespace Go.Proofs.Ytefidbifgilekaa
set_option linter.unusedSimpArgs false
set_option linter.unusedVariables false
open Go.RowKit Go.Sort
set_option maxRecDepth 100000
def fo (p : Id3 × Ver × Nat) : FactP := (p.1, p.2.1)
def goodF (f : FactP) : Prop := ¬ badN f.1.1 f.1.2.1 f.1.2.2 f.2
theorem find_not {m : Led} {x : Id3} (h : x ∉ m.map (·.1)) : findX m x = none := by
  cases e : findX m x with
  | none => rfl
  | some o =>
    have : hasX m x = true := by unfold hasX; rw [e]; rfl
    exact absurd (hasX_iff.1 this) h
theorem note_good {m : Led} {c : Nat} (a b d : Int) (v : Ver) (h : ∀ p ∈ m, goodF (fo p)) : ∀ p ∈ (noteR m c a b d v).1.1, goodF (fo p) := by
  rcases noteR_cases m c a b d v with ⟨e, _⟩ | ⟨_, o, _, ⟨_, e⟩ | ⟨_, e⟩⟩ | ⟨hb, hx, e⟩
  · rw [e]; exact h
  · rw [e]; exact h
  · rw [e]; exact h
  · rw [e]
    intro p hp
    rcases List.mem_append.1 hp with hp | hp
    · exact h p hp
    · rw [List.mem_singleton.1 hp]; exact hb
theorem made_good (l : List FactP) : ∀ k, k ≤ l.length → ∀ p ∈ (madeM (l.take k)).1, goodF (fo p)
  | 0, _ => fun p hp => by cases hp
  | k + 1, hk => by
    have hx : l[k]? = some l[k] := List.getElem?_eq_getElem (by omega)
    rw [made_take_succ hx]
    exact note_good _ _ _ _ (made_good l k (by omega))
theorem note_new {m : Led} {c : Nat} {f : FactP} (hg : goodF f) (hn : f.1 ∉ m.map (·.1)) : stepM (m, c) f = (m ++ [(f.1, f.2, c)], c + 1) := by
  unfold stepM noteR
  rw [if_neg hg]
  have : findX m (f.1.1, f.1.2.1, f.1.2.2) = none := find_not hn
  simp only [this]
theorem made_of (U : List FactP) (hg : ∀ f ∈ U, goodF f) (hn : (U.map (·.1)).Nodup) : ∀ k, k ≤ U.length → (madeM (U.take k)).1.map fo = U.take k
  | 0, _ => rfl
  | k + 1, hk => by
    have ih := made_of U hg hn k (by omega)
    have hx : U[k]? = some U[k] := List.getElem?_eq_getElem (by omega)
    have hkx : U[k].1 ∉ (madeM (U.take k)).1.map (·.1) := by
      intro hm
      have : (madeM (U.take k)).1.map (·.1) = (U.take k).map (·.1) := by
        have h2 := congrArg (List.map (·.1)) ih
        rw [List.map_map] at h2
        exact h2
      rw [this] at hm
      have hs : U.map (·.1) = (U.take k).map (·.1) ++ (U.drop k).map (·.1) := by rw [← List.map_append, List.take_append_drop]
      rw [hs, List.nodup_append] at hn
      refine hn.2.2 _ hm _ ?_ rfl
      exact List.mem_map.2 ⟨U[k], by rw [List.drop_eq_getElem_cons (by omega)]; exact List.mem_cons_self .., rfl⟩
    have hgx := hg U[k] (List.getElem_mem _)
    generalize U[k] = f at hx hkx hgx
    rw [made_take_succ hx]
    generalize madeM (U.take k) = s at ih hkx ⊢
    obtain ⟨s1, s2⟩ := s
    rw [note_new hgx hkx, List.take_add_one, hx]
    show (s1 ++ [(f.1, f.2, s2)]).map fo = _
    rw [List.map_append, ih]; rfl
theorem turn_eq {m : Led} {c n : Nat} (h : LedOK m c n) (hg : ∀ p ∈ m, goodF (fo p)) (k : Nat) : eqMB m (madeM ((m.map fo).drop k ++ (m.map fo).take k)).1 = true := by
  have hU : (((m.map fo).drop k ++ (m.map fo).take k)).Perm (m.map fo) := by
    have := (List.perm_append_comm : ((m.map fo).drop k ++ (m.map fo).take k).Perm ((m.map fo).take k ++ (m.map fo).drop k))
    rwa [List.take_append_drop] at this
  generalize ((m.map fo).drop k ++ (m.map fo).take k) = U at hU ⊢
  have hgU : ∀ f ∈ U, goodF f := fun f hf => by
    obtain ⟨p, hp, rfl⟩ := List.mem_map.1 (hU.mem_iff.1 hf)
    exact hg p hp
  have hnU : (U.map (·.1)).Nodup := by
    have h1 := (hU.map (·.1)).nodup_iff.2 (by rw [List.map_map]; exact h.ks)
    exact h1
  have hof := made_of U hgU hnU U.length (Nat.le_refl _)
  rw [List.take_length] at hof
  have hok := (made_ok U).toFr
  generalize madeM U = s at hof hok ⊢
  refine eqMB_good ?_ fun p hp => ?_
  · have := hU.length_eq
    rw [List.length_map] at this
    rw [← this, ← hof, List.length_map]
  · have : fo p ∈ s.1.map fo := by rw [hof]; exact hU.mem_iff.2 (List.mem_map.2 ⟨p, hp, rfl⟩)
    obtain ⟨q, hq, e⟩ := List.mem_map.1 this
    have := find_mem hok hq
    unfold fo at e
    injection e with e1 e2
    rw [← e1, ← e2]; exact this
end Go.Proofs.Ytefidbifgilekaa
/- A slice of the call's own is handed over for good; new objects come back. No program is named here. -/
namespace Go.Proofs.Ytefidbifgilekaa
set_option linter.unusedSimpArgs false
set_option linter.unusedVariables false
open Go.RowKit
section
variable {P : Program} {w : World} {F : Nat → Prop} {ρ : Nat → Option Value} {H : Hp} {L : List AObj} {n : Nat} {g : FuncId}
theorem Env.frz {i s : Nat} {rows : List (List D)} (En : Env F ρ H w) (hi : H i = some (.sl s rows)) :
    Step F ρ H w (fun b => F b ∨ ∃ hh, ρ i = some hh ∧ blkOf hh = some b) ρ (updF H i (some .dead)) w ∧ Env (fun b => F b ∨ ∃ hh, ρ i = some hh ∧ blkOf hh = some b) ρ (updF H i (some .dead)) w := by
  have hH : ∀ hh, ρ i = some hh → ∀ b, blkOf hh = some b → b < w.heap.size ∧ Lv ρ H b := by
    intro hh hρ b hb
    obtain ⟨h0, e1, _, e3⟩ := En.rep i _ hi rfl
    rw [hρ] at e1; injection e1 with e1; subst e1
    exact ⟨(e3 b hb).1, i, _, hh, hi, rfl, hρ, hb⟩
  have hk : ∀ j o, updF H i (some .dead) j = some o → o.live = true → j ≠ i ∧ H j = some o := by
    intro j o hj hl
    by_cases e : j = i
    · subst e; rw [updF_same] at hj; injection hj with hj; subst hj; cases hl
    · rw [updF_ne _ _ e] at hj; exact ⟨e, hj⟩
  refine ⟨⟨rfl, rfl, rfl, Nat.le_refl _, fun _ _ _ => rfl, fun b hb => .inl hb, fun b hb => ?_, fun b ⟨j, o, hh, h1, h2, h3, h4⟩ => .inr ⟨j, o, hh, (hk j o h1 h2).2, h2, h3, h4⟩⟩, ⟨fun b hb => ?_, fun j hj => ?_, fun j o hj hl => ?_, fun j k o o' hh hh' b e1 e2 l1 l2 => En.inj j k o o' hh hh' b (hk j o e1 l1).2 (hk k o' e2 l2).2 l1 l2⟩⟩
  · rcases hb with q | ⟨hh, h1, h2⟩
    · exact .inl q
    · exact .inr (.inr (hH hh h1 b h2).2)
  · rcases hb with q | ⟨hh, h1, h2⟩
    · exact En.fb b q
    · exact (hH hh h1 b h2).1
  · by_cases e : j = i
    · subst e; rw [updF_same] at hj; cases hj
    · rw [updF_ne _ _ e] at hj; exact En.abs j hj
  · obtain ⟨hne, hj'⟩ := hk j o hj hl
    obtain ⟨hh, e1, e2, e3⟩ := En.rep j o hj' hl
    refine ⟨hh, e1, e2.mono (Nat.le_refl _) (fun b _ _ => rfl) (fun b _ => rfl) (fun b hb => .inl hb) (Keep.refl _), fun b hb => ⟨(e3 b hb).1, fun q => ?_⟩⟩
    rcases q with q | ⟨hh', h1, h2⟩
    · exact (e3 b hb).2 q
    · exact hne (En.inj j i o _ hh hh' b hj' hi hl rfl e1 h1 hb h2)
theorem Sat.frzNew {i s : Nat} {rows : List (List D)} {r : AV} {H' : List AObj} (h : Sat P g [.d (.sl s rows)] [] r H') (hi : L[i]? = some (.sl s rows)) : CallOK P g [.own i] L n ⟨[i], [(i, .dead)], AObj.rns (sub [] n) H'⟩ (r.rn (sub [] n)) := by
  have hl : Lend L [.own i] [.d (.sl s rows)] [i] := ⟨[], rfl, hi, rfl⟩
  intro K F ρ w vals En hrs hnew hv
  have hKi : K i = some (.sl s rows) := (hrs i (List.mem_singleton.2 rfl)).trans hi
  obtain ⟨S0, E1⟩ := En.frz hKi
  have hv1 := hl.ras (F1 := fun b => F b ∨ ∃ hh, ρ i = some hh ∧ blkOf hh = some b) En (fun _ h => .inl h) hrs (fun j hj hh h1 b h2 => by
    rw [List.mem_singleton.1 hj] at h1
    exact .inr ⟨hh, h1, h2⟩) hv
  have hv2 : RAs w (fun b => F b ∨ ∃ hh, ρ i = some hh ∧ blkOf hh = some b) ρ [.d (.sl s rows)] vals := by
    cases hv1 with | cons h1 h2 =>
    cases h2
    cases h1 with | d h1 => exact .cons (.d h1) .nil
  have C := h.nw (L := L) (n := n) rfl
  refine (C (updF K i (some .dead)) _ ρ w vals E1 (fun j hj => by cases hj) (fun k hk => ?_) hv2).mono ?_
  · have := hnew k hk
    rw [updF_ne _ _ (fun e => by rw [e, hKi] at this; cases this)]
    exact this
  · rintro en w' ⟨v, rfl, F', ρ', S, K', E', R⟩
    exact ⟨v, rfl, F', ρ', S0.trans S, K', E', R⟩
end
end Go.Proofs.Ytefidbifgilekaa
