/- Parts Ht, Hq, Laid of the proof, put together. -/
import Derived.Test.YtoammbfipinejaaM10
import Derived.Test.YtoammbfipinejaaChecked
import Derived.Test.YtoammbfipinejaaRows
/- HistCounts, its law: every Of, Add and Merge is answered as the document says. -/
namespace Go.Proofs.Ytoammbfipinejaa
set_option linter.unusedSimpArgs false
set_option linter.unusedVariables false
open Go.RowKit
set_option maxRecDepth 100000
theorem eqIn_h (l l' : List Int) (hl : l.length = 65) (hl' : l'.length = 65) (w : World) : (Op.equalIn 10000 69 (.agg (hc l)) (.agg (hc l'))).run Try.prog w = .ok (decide (l = l')) w := by
  obtain ⟨i, hi, _⟩ : ∃ i, Try.prog.info? 2 = some i ∧ True := by
    have : (Try.prog.info? 2).isSome = true := by kernel_rfl
    obtain ⟨i, hi⟩ := Option.isSome_iff_exists.1 this
    exact ⟨i, hi, trivial⟩
  have hc1 : Try.prog.cellsOf 2 = 1 := by kernel_rfl
  rw [run_equalIn_array w 9999 (hc l) (hc l') Try.underlying69 hi, hc1, eqItems_h l l' hl hl' w _ (fun i hi => List.mem_range.1 hi)]
  have : ((List.range 65).all fun i => decide (l[i]? = l'[i]?)) = decide (l = l') := by
    rw [Bool.eq_iff_iff, List.all_eq_true, decide_eq_true_eq]
    refine ⟨fun h => ext65 hl hl' fun b hb => ?_, fun h => by subst h; simp⟩
    have := h b (List.mem_range.2 hb)
    rw [of_decide_eq_true this]
  rw [this]
section
variable {L : List AObj} {ty n : Nat} {x y : Operand} {t' : TypeId}
theorem guardT : Try.prog.eqGuardType Try.prog.depth 69 = false := by kernel_rfl
theorem eqH {l l' : List Int} (hl : l.length = 65) (hl' : l'.length = 65) : Does Try.prog (.binOp .eql 69 x y t') ty L n [.d (hD l), .d (hD l')] e0 (.d (.v (.bool (decide (l = l'))))) :=
  does_ra2 rfl fun o w F ρ ev u v ho h1 h2 hu hv => by
    have := FlatW.eq (.d (hD_flat l)) hu
    subst this
    have := FlatW.eq (.d (hD_flat l')) hv
    subst this
    exact exec_eq ho h1 h2 (run_eqGuard_agg w .eql _ _ _ _ _ guardT) (by rw [run_eql_struct, eqIn_h l l' hl hl']; rfl)
theorem neH {l l' : List Int} (hl : l.length = 65) (hl' : l'.length = 65) : Does Try.prog (.binOp .neq 69 x y t') ty L n [.d (hD l), .d (hD l')] e0 (.d (.v (.bool (!decide (l = l'))))) :=
  does_ra2 rfl fun o w F ρ ev u v ho h1 h2 hu hv => by
    have := FlatW.eq (.d (hD_flat l)) hu
    subst this
    have := FlatW.eq (.d (hD_flat l')) hv
    subst this
    exact exec_eq ho h1 h2 (run_eqGuard_agg w .neq _ _ _ _ _ guardT) (by rw [run_neq_struct, eqIn_h l l' hl hl']; rfl)
end
theorem neHH {L : List AObj} {ty n : Nat} {x y : Operand} {t' : TypeId} {l : List Int} (hl : l.length = 65) : Does Try.prog (.binOp .neq 69 x y t') ty L n [.d (hD l), .d (hD l)] e0 (.d (.v (.bool false))) := by
  have h := neH (L := L) (ty := ty) (n := n) (x := x) (y := y) (t' := t') hl hl
  rw [show (!decide (l = l)) = false by simp] at h
  exact h
theorem eqHH {L : List AObj} {ty n : Nat} {x y : Operand} {t' : TypeId} {l : List Int} (hl : l.length = 65) : Does Try.prog (.binOp .eql 69 x y t') ty L n [.d (hD l), .d (hD l)] e0 (.d (.v (.bool true))) := by
  have h := eqH (L := L) (ty := ty) (n := n) (x := x) (y := y) (t' := t') hl hl
  rw [show decide (l = l) = true by simp] at h
  exact h
theorem alive5_sat : Sat Try.prog 37 [] [] (bA true) [] := .of_calls .nil (.d (.v _)) alive5_any
theorem copyL_sat (l : List Int) (hn : l.length ≤ 1000000) : Sat Try.prog 39 [.d (lD l)] [] (.own 0) [.sl 1 (l.map lR)] := by
  have hm : (l.map lR).length = l.length := List.length_map _
  refine sat_of_vc (T := tiOf Try.prog) (E := E0) Try.func39 rfl rfl hE0 hm0 rfl ?_
  conv => whnf
  repeat (any_goals (first
    | exact True.intro
    | (refine Or.inl ?_; conv => whnf)
    | (refine And.intro (fun _ => ?_) tf; conv => whnf)
    | (refine And.intro ft (fun _ => ?_); conv => whnf)
    | (refine And.intro (by kernel_rfl) ?_; conv => whnf)
    | (refine And.intro (by decide) ?_; conv => whnf)
    | (refine And.intro (fun _ => ?_) (fun h => absurd h (by decide)); conv => whnf)
    | (refine And.intro (fun h => absurd h (by decide)) (fun _ => ?_); conv => whnf)
    | (refine And.intro (fun _ => ?_) (fun _ => ?_) <;> conv => whnf)
    | (refine ⟨_, _, apd 1 8 (by kernel_rfl) rfl (by simp; omega), ?_⟩; conv => whnf)))
  all_goals refine ⟨[(0, 1)], ?_⟩
  repeat (any_goals (first | exact True.intro | exact rfl | with_reducible_and_instances rfl | exact (by kernel_rfl) | refine And.intro ?_ ?_))
  all_goals conv => whnf
theorem s69 : (tiOf Try.prog 69).size = 65 := by kernel_rfl
theorem mergeR_len (ls : List (List Int)) : (mergeR ls).length = 65 := by
  unfold mergeR
  split
  · simp [mergeL]
  · rfl
theorem flat_hR : ∀ (l : List Int), flatDs (hR l) = true
  | [] => by simp [flatDs]
  | z :: l => by
    show flatDs (iD z :: hR l) = true
    rw [flatDs, flat_hR l]; rfl
theorem flat_hD (l : List Int) : flatD (hD l) = true := by
  show flatD (.agg (hR l)) = true
  rw [flatD]; exact flat_hR l
theorem flat_hA (l : List Int) : flatA (.d (hD l)) = true := by rw [flatA]; exact flat_hD l
theorem flat_hE (l : List Int) (e : Int) : flatA (.tup [.d (hD l), iA e]) = true := by
  rw [flatA, flatAs, flatAs, flatAs, flat_hA]; rfl
theorem lt_hA (l : List Int) : AV.lt 0 (.d (hD l)) = true := by rw [AV.lt]
theorem z69 : List.map D.v (tiOf Try.prog 69).zero = hR z65 := by kernel_rfl
theorem z68 : List.map D.v (tiOf Try.prog 68).zero = hR z65 := by kernel_rfl
theorem fit69 {l : List Int} (h : l.length = 65) : 0 + (hR l).length ≤ (List.map D.v (tiOf Try.prog 69).zero).length := by rw [z69]; exact sets_fit z65_len h
theorem fit68 {l : List Int} (h : l.length = 65) : 0 + (hR l).length ≤ (List.map D.v (tiOf Try.prog 68).zero).length := by rw [z68]; exact sets_fit z65_len h
theorem set69 {l : List Int} (h : l.length = 65) : sets (List.map D.v (tiOf Try.prog 69).zero) 0 (hR l) = hR l := by rw [z69]; exact rows_whole z65_len h
theorem set68 {l : List Int} (h : l.length = 65) : sets (List.map D.v (tiOf Try.prog 68).zero) 0 (hR l) = hR l := by rw [z68]; exact rows_whole z65_len h
theorem add_merge (q : List Int) (v : Int) (hq : q.length = 65) (hv : in64 v) (hx : ∀ z ∈ q, in64 z) : addL q v = mergeR [q, histL [v]] ∧ addE q v = mergeE [q, histL [v]] := by
  have hb := bkt_lt v hv.2
  have hok := histL_ok [v]
  have hs : ∀ j, sumAt [q, histL [v]] j = q[j]?.getD 0 + (histL [v])[j]?.getD 0 := fun j => by simp [sumAt]
  have hw : ∀ j, j < 65 → (histL [v])[j]?.getD 0 = if bkt v = j then 1 else 0 := fun j hj => by
    rw [histL_get [v] j hj]
    simp [List.countP_cons]
    split <;> rfl
  have hqj : ∀ j, j < 65 → q[j]?.getD 0 ≤ 9223372036854775807 := fun j hj => by
    rw [List.getElem?_eq_getElem (by omega)]
    exact (hx _ (List.getElem_mem _)).2
  by_cases h1 : okH q = true
  · have hall : [q, histL [v]].all okH = true := by simp [h1, hok]
    by_cases h2 : q[bkt v]? = some 9223372036854775807
    · have e : addE q v = 12 := by unfold addE; rw [if_neg (by simp [h1]), if_pos h2]
      obtain ⟨m1, m2⟩ := merge_over hall hb (by rw [hs, hw _ hb, if_pos rfl, h2]; simp)
      rw [m1, m2, e]
      exact ⟨by unfold addL; rw [e]; rfl, rfl⟩
    · have e : addE q v = 0 := by unfold addE; rw [if_neg (by simp [h1]), if_neg h2]
      obtain ⟨m1, m2⟩ := merge_fine hall (fun k hk => by
        rw [hs, hw k hk]
        have := hqj k hk
        split
        · rename_i e; subst e
          rcases Int.lt_or_eq_of_le this with q1 | q1
          · omega
          · exfalso
            apply h2
            rw [List.getElem?_eq_getElem (by omega)] at q1 ⊢
            simpa using q1
        · omega)
      rw [m1, m2, e]
      refine ⟨?_, rfl⟩
      unfold addL
      rw [e, if_pos rfl]
      refine ext65 (by rw [bump_len, hq]) (by simp [mergeL]) fun b hb2 => ?_
      have : (mergeL [q, histL [v]])[b]?.getD 0 = sumAt [q, histL [v]] b := by unfold mergeL; rw [List.getElem?_map, List.getElem?_range hb2]; rfl
      rw [this, hs, hw b hb2]
      unfold bump
      rw [List.getElem?_set]
      by_cases e : bkt v = b
      · subst e; simp [hq, hb]
      · simp [e]
  · have h1 : okH q = false := by simpa using h1
    have e : addE q v = 10 := by unfold addE; rw [if_pos h1]
    obtain ⟨m1, m2⟩ := merge_form (ls := [q, histL [v]]) (by simp [h1])
    rw [m1, m2, e]
    exact ⟨by unfold addL; rw [e]; rfl, rfl⟩
theorem dropK0 {k : List D → Prop} (xs : List D) (h : k xs) : dropK xs 0 k := by cases xs <;> exact h
theorem counts_sat (l : List Int) (ls : List (List Int)) (v : Int) (hl : ∀ z ∈ l, in64 z) (hs : ∀ l ∈ ls, l.length = 65) (hx : ∀ l ∈ ls, ∀ z ∈ l, in64 z) (hv : in64 v) : Sat Try.prog 8 [.d (lD l), .d (.sl 65 (ls.map hR)), iA v] [] (bA true) [] := by
  have hm : (l.map lR).length = l.length := List.length_map _
  have hm2 : (ls.map hR).length = ls.length := List.length_map _
  by_cases hbig : 200 < l.length ∨ 20 < ls.length
  · refine sat_of_vc (T := tiOf Try.prog) (E := E0) Try.func8 rfl rfl hE0 hm0 rfl ?_
    conv => whnf
    repeat (any_goals (first
      | exact True.intro
      | (refine Or.inl ?_; conv => whnf)
      | (refine And.intro (fun _ => ?_) tf; conv => whnf)
      | (refine And.intro ft (fun _ => ?_); conv => whnf)
      | (refine And.intro (by kernel_rfl) ?_; conv => whnf)
      | (refine And.intro (by decide) ?_; conv => whnf)
      | (refine And.intro (fun _ => ?_) (fun h => absurd h (by decide)); conv => whnf)
      | (refine And.intro (fun h => absurd h (by decide)) (fun _ => ?_); conv => whnf)
      | (refine And.intro (fun _ => ?_) (fun _ => ?_) <;> conv => whnf)
      | (refine ⟨_, _, alive5_sat.pu rfl rfl, ?_⟩; conv => whnf)))
    all_goals try (exfalso; simp only [decide_eq_true_eq, decide_eq_false_iff_not, Bool.not_eq_true', Bool.not_eq_false', Bool.not_eq_true, Bool.not_eq_false, beq_iff_eq, bne_iff_ne, beq_eq_false_iff_ne, bne_eq_false_iff_eq, ne_eq, Decidable.not_not] at *; first | omega | contradiction | (simp_all; done) | (simp_all; omega))
    all_goals refine ⟨[], ?_⟩
    repeat (any_goals (first | exact True.intro | exact rfl | with_reducible_and_instances rfl | exact (by kernel_rfl) | refine And.intro ?_ ?_))
    all_goals conv => whnf
  have h200 : l.length ≤ 200 := by omega
  have h20 : ls.length ≤ 20 := by omega
  have c1 := copyL_sat l (by omega)
  have o1 := of_sat l hl (by omega)
  have r1 := refOf_sat l hl (by omega)
  have m1 := merge_sat ls hs hx (by omega)
  have m2 := refMerge_sat ls hs hx (by omega)
  have hh := histL_len l
  have hM := mergeR_len ls
  generalize histL l = h at o1 r1 hh
  generalize mergeR ls = M at m1 m2 hM
  generalize (mergeE ls : Int) = e at m1 m2
  refine sat_of_vc (T := tiOf Try.prog) (E := E0) Try.func8 rfl rfl hE0 hm0 rfl ?_
  conv => whnf
  repeat (any_goals (first
    | exact True.intro
    | (refine And.intro (whole_len s69 hh) ?_; conv => whnf)
    | (refine And.intro (fit69 hh) ?_; conv => whnf)
    | (refine ⟨_, set69 hh, ?_⟩; conv => whnf)
    | (refine And.intro (fun _ => ?_) tf; conv => whnf)
    | (refine And.intro ft (fun _ => ?_); conv => whnf)
    | (refine And.intro (by kernel_rfl) ?_; conv => whnf)
    | (refine And.intro (by decide) ?_; conv => whnf)
    | (refine And.intro (fun _ => ?_) (fun h => absurd h (by decide)); conv => whnf)
    | (refine And.intro (fun h => absurd h (by decide)) (fun _ => ?_); conv => whnf)
    | (refine And.intro (fun _ => ?_) (fun _ => ?_) <;> conv => whnf)
    | (refine ⟨_, _, alive5_sat.pu rfl rfl, ?_⟩; conv => whnf)
    | (refine ⟨_, _, c1.nw rfl, ?_⟩; conv => whnf)
    | (refine ⟨_, _, lendO o1 rfl (flat_hA _), ?_⟩; conv => whnf)))
  all_goals try (exfalso; simp only [decide_eq_true_eq, decide_eq_false_iff_not, Bool.not_eq_true', Bool.not_eq_false', Bool.not_eq_true, Bool.not_eq_false, beq_iff_eq, bne_iff_ne, beq_eq_false_iff_ne, bne_eq_false_iff_eq, ne_eq, Decidable.not_not] at *; first | omega | contradiction | (simp_all; done) | (simp_all; omega))
  all_goals try (refine Or.inl ?_; conv => whnf)
  repeat (any_goals (first
    | exact True.intro
    | (refine And.intro (whole_len s69 hh) ?_; conv => whnf)
    | (refine And.intro (fit69 hh) ?_; conv => whnf)
    | (refine ⟨_, set69 hh, ?_⟩; conv => whnf)
    | (refine And.intro (fun _ => ?_) tf; conv => whnf)
    | (refine And.intro ft (fun _ => ?_); conv => whnf)
    | (refine And.intro (by kernel_rfl) ?_; conv => whnf)
    | (refine And.intro (by decide) ?_; conv => whnf)
    | (refine And.intro (fun _ => ?_) (fun h => absurd h (by decide)); conv => whnf)
    | (refine And.intro (fun h => absurd h (by decide)) (fun _ => ?_); conv => whnf)
    | (refine And.intro (fun _ => ?_) (fun _ => ?_) <;> conv => whnf)
    | (refine ⟨_, _, alive5_sat.pu rfl rfl, ?_⟩; conv => whnf)
    | (refine ⟨_, _, c1.nw rfl, ?_⟩; conv => whnf)
    | (refine ⟨_, _, lendO o1 rfl (flat_hA _), ?_⟩; conv => whnf)))
  all_goals try (exfalso; simp only [decide_eq_true_eq, decide_eq_false_iff_not, Bool.not_eq_true', Bool.not_eq_false', Bool.not_eq_true, Bool.not_eq_false, beq_iff_eq, bne_iff_ne, beq_eq_false_iff_ne, bne_eq_false_iff_eq, ne_eq, Decidable.not_not] at *; first | omega | contradiction | (simp_all; done) | (simp_all; omega))
  all_goals try (refine Or.inl ?_; conv => whnf)
  repeat (any_goals (first
    | exact True.intro
    | (refine And.intro (whole_len s69 hh) ?_; conv => whnf)
    | (refine And.intro (fit69 hh) ?_; conv => whnf)
    | (refine ⟨_, set69 hh, ?_⟩; conv => whnf)
    | (refine And.intro (fun _ => ?_) tf; conv => whnf)
    | (refine And.intro ft (fun _ => ?_); conv => whnf)
    | (refine And.intro (by kernel_rfl) ?_; conv => whnf)
    | (refine And.intro (by decide) ?_; conv => whnf)
    | (refine And.intro (fun _ => ?_) (fun h => absurd h (by decide)); conv => whnf)
    | (refine And.intro (fun h => absurd h (by decide)) (fun _ => ?_); conv => whnf)
    | (refine And.intro (fun _ => ?_) (fun _ => ?_) <;> conv => whnf)
    | (refine ⟨_, _, alive5_sat.pu rfl rfl, ?_⟩; conv => whnf)
    | (refine ⟨_, _, c1.nw rfl, ?_⟩; conv => whnf)
    | (refine ⟨_, _, lendO o1 rfl (flat_hA _), ?_⟩; conv => whnf)))
  all_goals try (exfalso; simp only [decide_eq_true_eq, decide_eq_false_iff_not, Bool.not_eq_true', Bool.not_eq_false', Bool.not_eq_true, Bool.not_eq_false, beq_iff_eq, bne_iff_ne, beq_eq_false_iff_ne, bne_eq_false_iff_eq, ne_eq, Decidable.not_not] at *; first | omega | contradiction | (simp_all; done) | (simp_all; omega))
  all_goals try (refine Or.inl ?_; conv => whnf)
  repeat (any_goals (first
    | exact True.intro
    | (refine And.intro (whole_len s69 hh) ?_; conv => whnf)
    | (refine And.intro (fit69 hh) ?_; conv => whnf)
    | (refine ⟨_, set69 hh, ?_⟩; conv => whnf)
    | (refine And.intro (fun _ => ?_) tf; conv => whnf)
    | (refine And.intro ft (fun _ => ?_); conv => whnf)
    | (refine And.intro (by kernel_rfl) ?_; conv => whnf)
    | (refine And.intro (by decide) ?_; conv => whnf)
    | (refine And.intro (fun _ => ?_) (fun h => absurd h (by decide)); conv => whnf)
    | (refine And.intro (fun h => absurd h (by decide)) (fun _ => ?_); conv => whnf)
    | (refine And.intro (fun _ => ?_) (fun _ => ?_) <;> conv => whnf)
    | (refine ⟨_, _, alive5_sat.pu rfl rfl, ?_⟩; conv => whnf)
    | (refine ⟨_, _, c1.nw rfl, ?_⟩; conv => whnf)
    | (refine ⟨_, _, lendO o1 rfl (flat_hA _), ?_⟩; conv => whnf)))
  all_goals try (exfalso; simp only [decide_eq_true_eq, decide_eq_false_iff_not, Bool.not_eq_true', Bool.not_eq_false', Bool.not_eq_true, Bool.not_eq_false, beq_iff_eq, bne_iff_ne, beq_eq_false_iff_ne, bne_eq_false_iff_eq, ne_eq, Decidable.not_not] at *; first | omega | contradiction | (simp_all; done) | (simp_all; omega))
  all_goals try (refine Or.inl ?_; conv => whnf)
  repeat (any_goals (first
    | exact True.intro
    | (refine And.intro (whole_len s69 hh) ?_; conv => whnf)
    | (refine And.intro (fit69 hh) ?_; conv => whnf)
    | (refine ⟨_, set69 hh, ?_⟩; conv => whnf)
    | (refine And.intro (fun _ => ?_) tf; conv => whnf)
    | (refine And.intro ft (fun _ => ?_); conv => whnf)
    | (refine And.intro (by kernel_rfl) ?_; conv => whnf)
    | (refine And.intro (by decide) ?_; conv => whnf)
    | (refine And.intro (fun _ => ?_) (fun h => absurd h (by decide)); conv => whnf)
    | (refine And.intro (fun h => absurd h (by decide)) (fun _ => ?_); conv => whnf)
    | (refine And.intro (fun _ => ?_) (fun _ => ?_) <;> conv => whnf)
    | (refine ⟨_, _, alive5_sat.pu rfl rfl, ?_⟩; conv => whnf)
    | (refine ⟨_, _, c1.nw rfl, ?_⟩; conv => whnf)
    | (refine ⟨_, _, lendO o1 rfl (flat_hA _), ?_⟩; conv => whnf)))
  all_goals try (exfalso; simp only [decide_eq_true_eq, decide_eq_false_iff_not, Bool.not_eq_true', Bool.not_eq_false', Bool.not_eq_true, Bool.not_eq_false, beq_iff_eq, bne_iff_ne, beq_eq_false_iff_ne, bne_eq_false_iff_eq, ne_eq, Decidable.not_not] at *; first | omega | contradiction | (simp_all; done) | (simp_all; omega))
  all_goals try (refine Or.inl ?_; conv => whnf)
  repeat (any_goals (first
    | exact True.intro
    | (refine And.intro (whole_len s69 hh) ?_; conv => whnf)
    | (refine And.intro (fit69 hh) ?_; conv => whnf)
    | (refine ⟨_, set69 hh, ?_⟩; conv => whnf)
    | (refine And.intro (fun _ => ?_) tf; conv => whnf)
    | (refine And.intro ft (fun _ => ?_); conv => whnf)
    | (refine And.intro (by kernel_rfl) ?_; conv => whnf)
    | (refine And.intro (by decide) ?_; conv => whnf)
    | (refine And.intro (fun _ => ?_) (fun h => absurd h (by decide)); conv => whnf)
    | (refine And.intro (fun h => absurd h (by decide)) (fun _ => ?_); conv => whnf)
    | (refine And.intro (fun _ => ?_) (fun _ => ?_) <;> conv => whnf)
    | (refine ⟨_, _, alive5_sat.pu rfl rfl, ?_⟩; conv => whnf)
    | (refine ⟨_, _, c1.nw rfl, ?_⟩; conv => whnf)
    | (refine ⟨_, _, lendO o1 rfl (flat_hA _), ?_⟩; conv => whnf)))
  all_goals try (exfalso; simp only [decide_eq_true_eq, decide_eq_false_iff_not, Bool.not_eq_true', Bool.not_eq_false', Bool.not_eq_true, Bool.not_eq_false, beq_iff_eq, bne_iff_ne, beq_eq_false_iff_ne, bne_eq_false_iff_eq, ne_eq, Decidable.not_not] at *; first | omega | contradiction | (simp_all; done) | (simp_all; omega))
  all_goals try (refine Or.inl ?_; conv => whnf)
  repeat (any_goals (first
    | exact True.intro
    | (refine And.intro (whole_len s69 hh) ?_; conv => whnf)
    | (refine And.intro (fit69 hh) ?_; conv => whnf)
    | (refine ⟨_, set69 hh, ?_⟩; conv => whnf)
    | (refine And.intro (fun _ => ?_) tf; conv => whnf)
    | (refine And.intro ft (fun _ => ?_); conv => whnf)
    | (refine And.intro (by kernel_rfl) ?_; conv => whnf)
    | (refine And.intro (by decide) ?_; conv => whnf)
    | (refine And.intro (fun _ => ?_) (fun h => absurd h (by decide)); conv => whnf)
    | (refine And.intro (fun h => absurd h (by decide)) (fun _ => ?_); conv => whnf)
    | (refine And.intro (fun _ => ?_) (fun _ => ?_) <;> conv => whnf)
    | (refine ⟨_, _, alive5_sat.pu rfl rfl, ?_⟩; conv => whnf)
    | (refine ⟨_, _, c1.nw rfl, ?_⟩; conv => whnf)
    | (refine ⟨_, _, lendO o1 rfl (flat_hA _), ?_⟩; conv => whnf)))
  all_goals try (exfalso; simp only [decide_eq_true_eq, decide_eq_false_iff_not, Bool.not_eq_true', Bool.not_eq_false', Bool.not_eq_true, Bool.not_eq_false, beq_iff_eq, bne_iff_ne, beq_eq_false_iff_ne, bne_eq_false_iff_eq, ne_eq, Decidable.not_not] at *; first | omega | contradiction | (simp_all; done) | (simp_all; omega))
  refine ⟨Nat, fun i => i ≤ ls.length, fun i => ([(9, iA i), (8, .own 2), (7, .ptr 1 0), (0, .d (lD l)), (1, .d (.sl 65 (ls.map hR))), (2, iA v)], [.dead, .row (hR h), .sl 65 ((ls.take i).map hR)]), fun i => ls.length - i, ⟨0, Nat.zero_le _, ?_⟩, ?_⟩
  · all_goals refine ⟨[], ?_⟩
    repeat (any_goals (first | exact True.intro | exact rfl | with_reducible_and_instances rfl | exact (by kernel_rfl) | refine And.intro ?_ ?_))
    all_goals conv => whnf
  intro i hi
  have hi : i ≤ ls.length := hi
  have hml : ((ls.take i).map hR).length = i := by simp; omega
  conv => whnf
  by_cases hlt : i < ls.length
  · have hx1 : ls[i]? = some ls[i] := List.getElem?_eq_getElem hlt
    have hl1 := hs _ (List.mem_of_getElem? hx1)
    generalize ls[i] = q at hx1 hl1
    repeat (any_goals (first
      | exact True.intro
      | (refine ⟨i, _, rfl, map_get hx1, ?_⟩; conv => whnf)
      | (refine ⟨_, hR_take s68 hl1, whole_len s68 hl1, ?_⟩; conv => whnf)
      | (refine And.intro (whole_len rfl hl1) ?_; conv => whnf)
      | (refine Or.inl ?_; conv => whnf)
      | (refine And.intro (fun _ => ?_) tf; conv => whnf)
      | (refine And.intro ft (fun _ => ?_); conv => whnf)
      | (refine And.intro (by kernel_rfl) ?_; conv => whnf)
      | (refine And.intro (by decide) ?_; conv => whnf)
      | (refine And.intro (fun _ => ?_) (fun h => absurd h (by decide)); conv => whnf)
      | (refine And.intro (fun h => absurd h (by decide)) (fun _ => ?_); conv => whnf)
      | (refine And.intro (fun _ => ?_) (fun _ => ?_) <;> conv => whnf)
      | (refine ⟨_, _, ap 65 520 (by kernel_rfl) rfl rfl (by simp [hml]; omega), ?_⟩; conv => whnf)))
    all_goals try (exfalso; simp only [decide_eq_true_eq, decide_eq_false_iff_not, Bool.not_eq_true', Bool.not_eq_false', Bool.not_eq_true, Bool.not_eq_false, beq_iff_eq, bne_iff_ne, beq_eq_false_iff_ne, bne_eq_false_iff_eq, ne_eq, Decidable.not_not] at *; first | omega | contradiction | (simp_all; done) | (simp_all; omega))
    refine ⟨i + 1, hlt, show ls.length - (i + 1) < ls.length - i by omega, ?_⟩
    all_goals refine ⟨[(2, 4)], ?_⟩
    repeat (any_goals (first | exact True.intro | exact rfl | with_reducible_and_instances rfl | exact (by kernel_rfl) | refine And.intro ?_ ?_))
    all_goals conv => whnf
    · exact wk1 (by omega)
    · show AObj.sl 65 ((ls.take i).map hR ++ [hR q]) = .sl 65 ((ls.take (i + 1)).map hR)
      rw [map_take_succ hx1]
  · have hie : i = ls.length := by omega
    subst hie
    rw [show ls.map hR = (ls.take ls.length).map hR by rw [List.take_length]] at m1
    repeat (any_goals (first
      | exact True.intro
      | (refine And.intro (whole_len s69 hh) ?_; conv => whnf)
      | (refine And.intro (whole_len s69 hM) ?_; conv => whnf)
      | (refine And.intro (whole_len s68 hM) ?_; conv => whnf)
      | (refine And.intro (fit69 hM) ?_; conv => whnf)
      | (refine And.intro (fit68 hM) ?_; conv => whnf)
      | (refine ⟨_, set69 hM, ?_⟩; conv => whnf)
      | (refine ⟨_, set68 hM, ?_⟩; conv => whnf)
      | (refine ⟨_, whole_row s69 hh, whole_len s69 hh, ?_⟩; conv => whnf)
      | (refine ⟨_, whole_row s69 hM, whole_len s69 hM, ?_⟩; conv => whnf)
      | (refine ⟨_, whole_row s68 hM, whole_len s68 hM, ?_⟩; conv => whnf)
      | (refine ⟨_, rfl, ?_⟩; conv => whnf)
      | (refine ⟨_, _, neHH hh, ?_⟩; conv => whnf)
      | (refine ⟨_, _, neHH hM, ?_⟩; conv => whnf)
      | (refine And.intro (fun _ => ?_) tf; conv => whnf)
      | (refine And.intro ft (fun _ => ?_); conv => whnf)
      | (refine And.intro (by kernel_rfl) ?_; conv => whnf)
      | (refine And.intro (by decide) ?_; conv => whnf)
      | (refine And.intro (fun _ => ?_) (fun h => absurd h (by decide)); conv => whnf)
      | (refine And.intro (fun h => absurd h (by decide)) (fun _ => ?_); conv => whnf)
      | (refine And.intro (fun _ => ?_) (fun _ => ?_) <;> conv => whnf)
      | (refine ⟨_, _, lendO m1 rfl (flat_hE _ _), ?_⟩; conv => whnf)
      | (refine ⟨_, _, m2.pu rfl rfl, ?_⟩; conv => whnf)
      | (refine ⟨_, _, r1.pu rfl rfl, ?_⟩; conv => whnf)))
    all_goals try (exfalso; simp only [decide_eq_true_eq, decide_eq_false_iff_not, Bool.not_eq_true', Bool.not_eq_false', Bool.not_eq_true, Bool.not_eq_false, beq_iff_eq, bne_iff_ne, beq_eq_false_iff_ne, bne_eq_false_iff_eq, ne_eq, Decidable.not_not] at *; first | omega | contradiction | (simp_all; done) | (simp_all; omega))
    all_goals try (refine Or.inl ?_; conv => whnf)
    repeat (any_goals (first
      | exact True.intro
      | (refine And.intro (whole_len s69 hh) ?_; conv => whnf)
      | (refine And.intro (whole_len s69 hM) ?_; conv => whnf)
      | (refine And.intro (whole_len s68 hM) ?_; conv => whnf)
      | (refine And.intro (fit69 hM) ?_; conv => whnf)
      | (refine And.intro (fit68 hM) ?_; conv => whnf)
      | (refine ⟨_, set69 hM, ?_⟩; conv => whnf)
      | (refine ⟨_, set68 hM, ?_⟩; conv => whnf)
      | (refine ⟨_, whole_row s69 hh, whole_len s69 hh, ?_⟩; conv => whnf)
      | (refine ⟨_, whole_row s69 hM, whole_len s69 hM, ?_⟩; conv => whnf)
      | (refine ⟨_, whole_row s68 hM, whole_len s68 hM, ?_⟩; conv => whnf)
      | (refine ⟨_, rfl, ?_⟩; conv => whnf)
      | (refine ⟨_, _, neHH hh, ?_⟩; conv => whnf)
      | (refine ⟨_, _, neHH hM, ?_⟩; conv => whnf)
      | (refine And.intro (fun _ => ?_) tf; conv => whnf)
      | (refine And.intro ft (fun _ => ?_); conv => whnf)
      | (refine And.intro (by kernel_rfl) ?_; conv => whnf)
      | (refine And.intro (by decide) ?_; conv => whnf)
      | (refine And.intro (fun _ => ?_) (fun h => absurd h (by decide)); conv => whnf)
      | (refine And.intro (fun h => absurd h (by decide)) (fun _ => ?_); conv => whnf)
      | (refine And.intro (fun _ => ?_) (fun _ => ?_) <;> conv => whnf)
      | (refine ⟨_, _, lendO m1 rfl (flat_hE _ _), ?_⟩; conv => whnf)
      | (refine ⟨_, _, m2.pu rfl rfl, ?_⟩; conv => whnf)
      | (refine ⟨_, _, r1.pu rfl rfl, ?_⟩; conv => whnf)))
    all_goals try (exfalso; simp only [decide_eq_true_eq, decide_eq_false_iff_not, Bool.not_eq_true', Bool.not_eq_false', Bool.not_eq_true, Bool.not_eq_false, beq_iff_eq, bne_iff_ne, beq_eq_false_iff_ne, bne_eq_false_iff_eq, ne_eq, Decidable.not_not] at *; first | omega | contradiction | (simp_all; done) | (simp_all; omega))
    all_goals try (refine Or.inl ?_; conv => whnf)
    repeat (any_goals (first
      | exact True.intro
      | (refine And.intro (whole_len s69 hh) ?_; conv => whnf)
      | (refine And.intro (whole_len s69 hM) ?_; conv => whnf)
      | (refine And.intro (whole_len s68 hM) ?_; conv => whnf)
      | (refine And.intro (fit69 hM) ?_; conv => whnf)
      | (refine And.intro (fit68 hM) ?_; conv => whnf)
      | (refine ⟨_, set69 hM, ?_⟩; conv => whnf)
      | (refine ⟨_, set68 hM, ?_⟩; conv => whnf)
      | (refine ⟨_, whole_row s69 hh, whole_len s69 hh, ?_⟩; conv => whnf)
      | (refine ⟨_, whole_row s69 hM, whole_len s69 hM, ?_⟩; conv => whnf)
      | (refine ⟨_, whole_row s68 hM, whole_len s68 hM, ?_⟩; conv => whnf)
      | (refine ⟨_, rfl, ?_⟩; conv => whnf)
      | (refine ⟨_, _, neHH hh, ?_⟩; conv => whnf)
      | (refine ⟨_, _, neHH hM, ?_⟩; conv => whnf)
      | (refine And.intro (fun _ => ?_) tf; conv => whnf)
      | (refine And.intro ft (fun _ => ?_); conv => whnf)
      | (refine And.intro (by kernel_rfl) ?_; conv => whnf)
      | (refine And.intro (by decide) ?_; conv => whnf)
      | (refine And.intro (fun _ => ?_) (fun h => absurd h (by decide)); conv => whnf)
      | (refine And.intro (fun h => absurd h (by decide)) (fun _ => ?_); conv => whnf)
      | (refine And.intro (fun _ => ?_) (fun _ => ?_) <;> conv => whnf)
      | (refine ⟨_, _, lendO m1 rfl (flat_hE _ _), ?_⟩; conv => whnf)
      | (refine ⟨_, _, m2.pu rfl rfl, ?_⟩; conv => whnf)
      | (refine ⟨_, _, r1.pu rfl rfl, ?_⟩; conv => whnf)))
    all_goals try (exfalso; simp only [decide_eq_true_eq, decide_eq_false_iff_not, Bool.not_eq_true', Bool.not_eq_false', Bool.not_eq_true, Bool.not_eq_false, beq_iff_eq, bne_iff_ne, beq_eq_false_iff_ne, bne_eq_false_iff_eq, ne_eq, Decidable.not_not] at *; first | omega | contradiction | (simp_all; done) | (simp_all; omega))
    all_goals try (refine Or.inl ?_; conv => whnf)
    repeat (any_goals (first
      | exact True.intro
      | (refine And.intro (fun _ => ?_) tf; conv => whnf)
      | (refine And.intro ft (fun _ => ?_); conv => whnf)
      | (refine And.intro (by kernel_rfl) ?_; conv => whnf)
      | (refine And.intro (by decide) ?_; conv => whnf)
      | (refine And.intro (fun _ => ?_) (fun h => absurd h (by decide)); conv => whnf)
      | (refine And.intro (fun h => absurd h (by decide)) (fun _ => ?_); conv => whnf)
      | (refine And.intro (fun _ => ?_) (fun _ => ?_) <;> conv => whnf)))
    · all_goals refine ⟨[], ?_⟩
      repeat (any_goals (first | exact True.intro | exact rfl | with_reducible_and_instances rfl | exact (by kernel_rfl) | refine And.intro ?_ ?_))
      all_goals conv => whnf
    rename_i h0
    obtain ⟨q, rest, rfl⟩ : ∃ q rest, ls = q :: rest := by
      cases ls with
      | nil => simp at h0
      | cons q rest => exact ⟨q, rest, rfl⟩
    have hq := hs q (List.mem_cons_self ..)
    have hqx := hx q (List.mem_cons_self ..)
    have hw := histL_len [v]
    have ad := add_sat q v hq hv hqx
    have ro := refOf_sat [v] (by intro z hz; simp at hz; subst hz; exact hv) (by simp)
    have rm := refMerge_sat [q, histL [v]] (by intro a ha; simp at ha; rcases ha with rfl | rfl <;> assumption) (by
      intro a ha z hz
      simp at ha
      rcases ha with rfl | rfl
      · exact hqx z hz
      · have := histL_mem [v] z hz
        simp at this
        unfold in64
        omega) (by simp)
    obtain ⟨e1, e2⟩ := add_merge q v hq hv hqx
    rw [← e1, ← e2] at rm
    have hA : (addL q v).length = 65 := by rw [e1]; exact mergeR_len _
    generalize addL q v = a at ad rm hA
    generalize (addE q v : Int) = b at ad rm
    generalize histL [v] = w at ro rm hw
    repeat (any_goals (first
      | exact True.intro
      | (refine dropK0 _ ?_; conv => whnf)
      | (refine ⟨0, rfl, Nat.succ_pos _, ?_⟩; conv => whnf)
      | (refine ⟨0, _, rfl, rfl, ?_⟩; conv => whnf)
      | (refine And.intro rfl ?_; conv => whnf)
      | (refine ⟨hR q, rfl, ?_⟩; conv => whnf)
      | (refine ⟨_, hR_take s69 hq, whole_len s69 hq, ?_⟩; conv => whnf)
      | (refine ⟨_, hR_take s68 hq, whole_len s68 hq, ?_⟩; conv => whnf)
      | (refine And.intro (whole_len s69 hA) ?_; conv => whnf)
      | (refine And.intro (whole_len s68 hA) ?_; conv => whnf)
      | (refine And.intro (fit69 hA) ?_; conv => whnf)
      | (refine And.intro (fit68 hA) ?_; conv => whnf)
      | (refine ⟨_, set69 hA, ?_⟩; conv => whnf)
      | (refine ⟨_, set68 hA, ?_⟩; conv => whnf)
      | (refine And.intro (whole_len rfl hq) ?_; conv => whnf)
      | (refine And.intro (whole_len rfl hw) ?_; conv => whnf)
      | (refine ⟨_, whole_row s69 hA, whole_len s69 hA, ?_⟩; conv => whnf)
      | (refine ⟨_, whole_row s68 hA, whole_len s68 hA, ?_⟩; conv => whnf)
      | (refine ⟨_, rfl, ?_⟩; conv => whnf)
      | (refine ⟨_, _, eqHH hA, ?_⟩; conv => whnf)
      | (refine ⟨_, _, eqHH hq, ?_⟩; conv => whnf)
      | (refine And.intro (fun _ => ?_) tf; conv => whnf)
      | (refine And.intro ft (fun _ => ?_); conv => whnf)
      | (refine And.intro (by kernel_rfl) ?_; conv => whnf)
      | (refine And.intro (by decide) ?_; conv => whnf)
      | (refine And.intro (fun _ => ?_) (fun h => absurd h (by decide)); conv => whnf)
      | (refine And.intro (fun h => absurd h (by decide)) (fun _ => ?_); conv => whnf)
      | (refine And.intro (fun _ => ?_) (fun _ => ?_) <;> conv => whnf)
      | (refine ⟨_, _, ad.pu rfl rfl, ?_⟩; conv => whnf)
      | (refine ⟨_, _, ro.pu rfl rfl, ?_⟩; conv => whnf)
      | (refine ⟨_, _, lendO ro rfl (flat_hA _), ?_⟩; conv => whnf)
      | (refine ⟨_, _, lendO rm rfl (flat_hE _ _), ?_⟩; conv => whnf)))
    all_goals try (exfalso; simp only [decide_eq_true_eq, decide_eq_false_iff_not, Bool.not_eq_true', Bool.not_eq_false', Bool.not_eq_true, Bool.not_eq_false, beq_iff_eq, bne_iff_ne, beq_eq_false_iff_ne, bne_eq_false_iff_eq, ne_eq, Decidable.not_not] at *; first | omega | contradiction | (simp_all; done) | (simp_all; omega))
    all_goals try (refine Or.inl ?_; conv => whnf)
    repeat (any_goals (first
      | exact True.intro
      | (refine dropK0 _ ?_; conv => whnf)
      | (refine ⟨0, rfl, Nat.succ_pos _, ?_⟩; conv => whnf)
      | (refine ⟨0, _, rfl, rfl, ?_⟩; conv => whnf)
      | (refine And.intro rfl ?_; conv => whnf)
      | (refine ⟨hR q, rfl, ?_⟩; conv => whnf)
      | (refine ⟨_, hR_take s69 hq, whole_len s69 hq, ?_⟩; conv => whnf)
      | (refine ⟨_, hR_take s68 hq, whole_len s68 hq, ?_⟩; conv => whnf)
      | (refine And.intro (whole_len s69 hA) ?_; conv => whnf)
      | (refine And.intro (whole_len s68 hA) ?_; conv => whnf)
      | (refine And.intro (fit69 hA) ?_; conv => whnf)
      | (refine And.intro (fit68 hA) ?_; conv => whnf)
      | (refine ⟨_, set69 hA, ?_⟩; conv => whnf)
      | (refine ⟨_, set68 hA, ?_⟩; conv => whnf)
      | (refine And.intro (whole_len rfl hq) ?_; conv => whnf)
      | (refine And.intro (whole_len rfl hw) ?_; conv => whnf)
      | (refine ⟨_, whole_row s69 hA, whole_len s69 hA, ?_⟩; conv => whnf)
      | (refine ⟨_, whole_row s68 hA, whole_len s68 hA, ?_⟩; conv => whnf)
      | (refine ⟨_, rfl, ?_⟩; conv => whnf)
      | (refine ⟨_, _, eqHH hA, ?_⟩; conv => whnf)
      | (refine ⟨_, _, eqHH hq, ?_⟩; conv => whnf)
      | (refine And.intro (fun _ => ?_) tf; conv => whnf)
      | (refine And.intro ft (fun _ => ?_); conv => whnf)
      | (refine And.intro (by kernel_rfl) ?_; conv => whnf)
      | (refine And.intro (by decide) ?_; conv => whnf)
      | (refine And.intro (fun _ => ?_) (fun h => absurd h (by decide)); conv => whnf)
      | (refine And.intro (fun h => absurd h (by decide)) (fun _ => ?_); conv => whnf)
      | (refine And.intro (fun _ => ?_) (fun _ => ?_) <;> conv => whnf)
      | (refine ⟨_, _, ad.pu rfl rfl, ?_⟩; conv => whnf)
      | (refine ⟨_, _, ro.pu rfl rfl, ?_⟩; conv => whnf)
      | (refine ⟨_, _, lendO ro rfl (flat_hA _), ?_⟩; conv => whnf)
      | (refine ⟨_, _, lendO rm rfl (flat_hE _ _), ?_⟩; conv => whnf)))
    all_goals try (exfalso; simp only [decide_eq_true_eq, decide_eq_false_iff_not, Bool.not_eq_true', Bool.not_eq_false', Bool.not_eq_true, Bool.not_eq_false, beq_iff_eq, bne_iff_ne, beq_eq_false_iff_ne, bne_eq_false_iff_eq, ne_eq, Decidable.not_not] at *; first | omega | contradiction | (simp_all; done) | (simp_all; omega))
    all_goals refine ⟨[], ?_⟩
    repeat (any_goals (first | exact True.intro | exact rfl | with_reducible_and_instances rfl | exact (by kernel_rfl) | refine And.intro ?_ ?_))
    all_goals conv => whnf
/-! ### the arguments -/
theorem ty_long1 {P : Program} {m : Nat} {t : TypeId} {ds : List D} (h : Ty P (m + 1) t ds) (hu : P.underlying t = some (.int .i64)) : ∃ z, ds = [iD z] ∧ in64 z := by
  have h : TyB (Ty P m) P t ds := h
  unfold TyB at h
  rw [hu] at h
  obtain ⟨z, h1, h2⟩ := h
  exact ⟨z, h1, wf_i64 h2⟩
theorem ty_longs {P : Program} {t e : TypeId} {x : D} (h : TyV P t x) (hu : P.underlying t = some (.slice e)) (he : P.underlying e = some (.int .i64)) (hc : P.cellsOf e = 1) : ∃ l : List Int, x = lD l ∧ ∀ z ∈ l, in64 z := by
  obtain ⟨rows, rfl, h1, _⟩ := ty_slice h hu
  obtain ⟨l, rfl, h2⟩ := rows_map (f := lR) (p := in64) fun r hr => ty_long1 (h1 r hr) he
  exact ⟨l, by rw [hc], h2⟩
theorem flat_ints (l : List Int) : (l.map lR).flatten = hR l := by
  induction l with
  | nil => rfl
  | cons z l ih => rw [List.map_cons, List.flatten_cons, ih]; rfl
theorem ty_harr {P : Program} {m : Nat} {t e : TypeId} {ds : List D} (h : Ty P (m + 2) t ds) (hu : P.underlying t = some (.array 65 e)) (he : P.underlying e = some (.int .i64)) : ∃ q : List Int, ds = hR q ∧ q.length = 65 ∧ ∀ z ∈ q, in64 z := by
  have h : TyB (Ty P (m + 1)) P t ds := h
  unfold TyB at h
  rw [hu] at h
  obtain ⟨dss, rfl, h1, h2⟩ := h
  obtain ⟨l, rfl, h3⟩ := rows_map (f := lR) (p := in64) fun r hr => ty_long1 (h2 r hr) he
  exact ⟨l, flat_ints l, by simpa using h1, h3⟩
theorem ty_harrs {P : Program} {t a e : TypeId} {x : D} (h : TyV P t x) (hu : P.underlying t = some (.slice a)) (ha : P.underlying a = some (.array 65 e)) (he : P.underlying e = some (.int .i64)) (hc : P.cellsOf a = 65) : ∃ ls : List (List Int), x = .sl 65 (ls.map hR) ∧ (∀ l ∈ ls, l.length = 65) ∧ ∀ l ∈ ls, ∀ z ∈ l, in64 z := by
  obtain ⟨rows, rfl, h1, _⟩ := ty_slice h hu
  obtain ⟨ls, rfl, h2⟩ := rows_map (f := hR) (p := fun q => q.length = 65 ∧ ∀ z ∈ q, in64 z) fun r hr => ty_harr (h1 r hr) ha he
  exact ⟨ls, by rw [hc], fun l hl => (h2 l hl).1, fun l hl => (h2 l hl).2⟩
theorem ty_harr1 {P : Program} {t e : TypeId} {x : D} (h : TyV P t x) (hu : P.underlying t = some (.array 65 e)) (he : P.underlying e = some (.int .i64)) : ∃ q : List Int, x = hD q ∧ q.length = 65 ∧ ∀ z ∈ q, in64 z := by
  unfold TyV at h
  rw [hu] at h
  obtain ⟨ds, rfl, h⟩ := h
  obtain ⟨q, rfl, h1, h2⟩ := ty_harr h hu he
  exact ⟨q, rfl, h1, h2⟩
theorem counts_law (H : Type) (enc : TypeId × Value → H) : LawWalk H enc Try.prog 8 Try.f8 :=
  lawWalk_of_sat (by kernel_rfl) fun args h => by
    obtain ⟨a, _, rfl, h1, h⟩ := h
    obtain ⟨b, _, rfl, h2, h⟩ := h
    obtain ⟨c, _, rfl, h3, h⟩ := h
    obtain rfl := h
    obtain ⟨l, rfl, hl⟩ := ty_longs h1 Try.underlying44 Try.underlying2 (by kernel_rfl)
    obtain ⟨ls, rfl, hs, hx⟩ := ty_harrs h2 Try.underlying67 Try.underlying68 Try.underlying2 (by kernel_rfl)
    obtain ⟨v, rfl, hv⟩ := ty_i64 h3 Try.underlying2
    exact counts_sat l ls v hl hs hx hv
end Go.Proofs.Ytoammbfipinejaa
/- HistRanks, its law: every Total, Rank and Full is answered as the document says. -/
namespace Go.Proofs.Ytoammbfipinejaa
set_option linter.unusedSimpArgs false
set_option linter.unusedVariables false
open Go.RowKit
set_option maxRecDepth 100000
theorem full_sat (l : List Int) : Sat Try.prog 50 [.d (hD l)] [] (.fn (.func 89) [] [.ptr 0 0]) [.row (hR l)] := by
  refine sat_of_vc (T := tiOf Try.prog) (E := E0) Try.func50 rfl rfl hE0 hm0 rfl ?_
  conv => whnf
  repeat (any_goals (first
    | exact True.intro
    | (refine Or.inl ?_; conv => whnf)
    | (refine And.intro (fun _ => ?_) tf; conv => whnf)
    | (refine And.intro ft (fun _ => ?_); conv => whnf)
    | (refine And.intro (by kernel_rfl) ?_; conv => whnf)
    | (refine And.intro (by decide) ?_; conv => whnf)
    | (refine And.intro (fun _ => ?_) (fun h => absurd h (by decide)); conv => whnf)
    | (refine And.intro (fun h => absurd h (by decide)) (fun _ => ?_); conv => whnf)
    | (refine And.intro (fun _ => ?_) (fun _ => ?_) <;> conv => whnf)))
  all_goals refine ⟨[], ?_⟩
  repeat (any_goals (first | exact True.intro | exact rfl | with_reducible_and_instances rfl | exact (by kernel_rfl) | refine And.intro ?_ ?_))
  all_goals conv => whnf
theorem sum65 {l : List Int} (hl : l.length = 65) (hx : ∀ z ∈ l, in64 z) : in64 (hiZ l.sum) := by
  have := sum_abs l hx
  rw [hl] at this
  unfold hiZ word in64
  omega
/-- A wide number that is handed in. -/
theorem ty_wide {x : D} (h : TyV Try.prog 81 x) : ∃ K, x = wD K ∧ in64 (hiZ K) := by
  unfold TyV at h
  have hu := Try.underlying81
  rw [hu] at h
  obtain ⟨ds, rfl, g⟩ := h
  have g2 : TyB (Ty Try.prog 8) Try.prog 81 ds := g
  unfold TyB at g2
  rw [hu] at g2
  obtain ⟨dss, e0, g3⟩ := g2
  obtain ⟨d1, r1, e1, h1, g4⟩ := g3
  obtain ⟨d2, r2, e2, h2, g5⟩ := g4
  have g5 : r2 = [] := g5
  subst e0 e1 e2 g5
  obtain ⟨hi, rfl, hh⟩ := ty_long1 h1 Try.underlying2
  have h2 : TyB (Ty Try.prog 7) Try.prog 48 d2 := h2
  unfold TyB at h2
  rw [Try.underlying48] at h2
  obtain ⟨lo, rfl, hl⟩ := h2
  simp only [Lit.wf, Bool.and_eq_true, decide_eq_true_eq] at hl
  have hl : 0 ≤ lo ∧ lo ≤ 18446744073709551615 := hl
  obtain ⟨e1, e2⟩ := wideZ_hi (hi := hi) hl.1 (by unfold word; omega)
  refine ⟨wideZ hi lo, ?_, by rw [e1]; exact hh⟩
  show D.agg [iD hi, .v (.int .u64 lo)] = D.agg [.v (.int .i64 (hiZ (wideZ hi lo))), .v (.int .u64 (loZ (wideZ hi lo)))]
  rw [e1, e2]
theorem ranks_sat (l : List Int) (K : Int) (hl : l.length = 65) (hx : ∀ z ∈ l, in64 z) (hK : in64 (hiZ K)) : Sat Try.prog 9 [.d (hD l), .d (wD K)] [] (bA true) [] := by
  have hK0 : 0 ≤ loZ K ∧ loZ K < word := by unfold loZ word; omega
  have s65 := sum65 hl hx
  have w1 := words_num l.sum (few_mono (few_sum5 hx (by omega)) (by omega))
  rw [if_pos s65] at w1
  have t1 := total_sat l hl hx
  have k1 := rank_sat l K hl hx
  have k2 := refRank_sat l (hiZ K) (loZ K) hl hx hK hK0.1 hK0.2
  rw [wide_split] at k2
  have f1 := full_sat l
  refine sat_of_vc (T := tiOf Try.prog) (E := E0) Try.func9 rfl rfl hE0 hm0 rfl ?_
  conv => whnf
  repeat (any_goals (first
    | exact True.intro
    | (refine And.intro (whole_len s68 hl) ?_; conv => whnf)
    | (refine And.intro (whole_len s69 hl) ?_; conv => whnf)
    | (refine ⟨_, whole_row s68 hl, whole_len s68 hl, ?_⟩; conv => whnf)
    | (refine And.intro (fit69 hl) ?_; conv => whnf)
    | (refine ⟨_, set69 hl, ?_⟩; conv => whnf)
    | (refine ⟨_, rfl, ?_⟩; conv => whnf)
    | (refine And.intro (fun _ => ?_) tf; conv => whnf)
    | (refine And.intro ft (fun _ => ?_); conv => whnf)
    | (refine And.intro (by kernel_rfl) ?_; conv => whnf)
    | (refine And.intro (by decide) ?_; conv => whnf)
    | (refine And.intro (fun _ => ?_) (fun h => absurd h (by decide)); conv => whnf)
    | (refine And.intro (fun h => absurd h (by decide)) (fun _ => ?_); conv => whnf)
    | (refine And.intro (fun _ => ?_) (fun _ => ?_) <;> conv => whnf)
    | (refine ⟨_, _, alive5_sat.pu rfl rfl, ?_⟩; conv => whnf)))
  all_goals try (exfalso; simp only [decide_eq_true_eq, decide_eq_false_iff_not, Bool.not_eq_true', Bool.not_eq_false', Bool.not_eq_true, Bool.not_eq_false, beq_iff_eq, bne_iff_ne, beq_eq_false_iff_ne, bne_eq_false_iff_eq, ne_eq, Decidable.not_not] at *; first | omega | contradiction | (simp_all; done) | (simp_all; omega))
  all_goals try (refine Or.inl ?_; conv => whnf)
  repeat (any_goals (first
    | exact True.intro
    | (refine And.intro (whole_len s68 hl) ?_; conv => whnf)
    | (refine And.intro (whole_len s69 hl) ?_; conv => whnf)
    | (refine ⟨_, whole_row s68 hl, whole_len s68 hl, ?_⟩; conv => whnf)
    | (refine And.intro (fit69 hl) ?_; conv => whnf)
    | (refine ⟨_, set69 hl, ?_⟩; conv => whnf)
    | (refine ⟨_, rfl, ?_⟩; conv => whnf)
    | (refine And.intro (fun _ => ?_) tf; conv => whnf)
    | (refine And.intro ft (fun _ => ?_); conv => whnf)
    | (refine And.intro (by kernel_rfl) ?_; conv => whnf)
    | (refine And.intro (by decide) ?_; conv => whnf)
    | (refine And.intro (fun _ => ?_) (fun h => absurd h (by decide)); conv => whnf)
    | (refine And.intro (fun h => absurd h (by decide)) (fun _ => ?_); conv => whnf)
    | (refine And.intro (fun _ => ?_) (fun _ => ?_) <;> conv => whnf)
    | (refine ⟨_, _, alive5_sat.pu rfl rfl, ?_⟩; conv => whnf)))
  all_goals try (exfalso; simp only [decide_eq_true_eq, decide_eq_false_iff_not, Bool.not_eq_true', Bool.not_eq_false', Bool.not_eq_true, Bool.not_eq_false, beq_iff_eq, bne_iff_ne, beq_eq_false_iff_ne, bne_eq_false_iff_eq, ne_eq, Decidable.not_not] at *; first | omega | contradiction | (simp_all; done) | (simp_all; omega))
  all_goals try (refine Or.inl ?_; conv => whnf)
  repeat (any_goals (first
    | exact True.intro
    | (refine And.intro (whole_len s68 hl) ?_; conv => whnf)
    | (refine And.intro (whole_len s69 hl) ?_; conv => whnf)
    | (refine ⟨_, whole_row s68 hl, whole_len s68 hl, ?_⟩; conv => whnf)
    | (refine And.intro (fit69 hl) ?_; conv => whnf)
    | (refine ⟨_, set69 hl, ?_⟩; conv => whnf)
    | (refine ⟨_, rfl, ?_⟩; conv => whnf)
    | (refine And.intro (fun _ => ?_) tf; conv => whnf)
    | (refine And.intro ft (fun _ => ?_); conv => whnf)
    | (refine And.intro (by kernel_rfl) ?_; conv => whnf)
    | (refine And.intro (by decide) ?_; conv => whnf)
    | (refine And.intro (fun _ => ?_) (fun h => absurd h (by decide)); conv => whnf)
    | (refine And.intro (fun h => absurd h (by decide)) (fun _ => ?_); conv => whnf)
    | (refine And.intro (fun _ => ?_) (fun _ => ?_) <;> conv => whnf)
    | (refine ⟨_, _, alive5_sat.pu rfl rfl, ?_⟩; conv => whnf)))
  all_goals try (exfalso; simp only [decide_eq_true_eq, decide_eq_false_iff_not, Bool.not_eq_true', Bool.not_eq_false', Bool.not_eq_true, Bool.not_eq_false, beq_iff_eq, bne_iff_ne, beq_eq_false_iff_ne, bne_eq_false_iff_eq, ne_eq, Decidable.not_not] at *; first | omega | contradiction | (simp_all; done) | (simp_all; omega))
  refine ⟨Nat × Int × List Int, fun y => y.1 ≤ 65 ∧ y.2.1 = (l.take y.1).sum ∧ y.2.2 = canL y.2.1.natAbs, fun y => ([(7, iA y.1), (6, .ptr 4 0), (5, .ptr 3 0), (4, .ptr 2 0), (3, .ptr 1 0), (2, .ptr 0 0)], [.row (hR l), .cells [iA (hiZ K), .d (.v (.int .u64 (loZ K)))], .cells [bA false], .row (hR l), .cells [bA (decide (y.2.1 < 0)), .d (lD y.2.2)]]), fun y => 65 - y.1, ⟨(0, 0, []), ⟨by omega, rfl, canL_zero.symm⟩, ?_⟩, ?_⟩
  · all_goals refine ⟨[], ?_⟩
    repeat (any_goals (first | exact True.intro | exact rfl | with_reducible_and_instances rfl | exact (by kernel_rfl) | refine And.intro ?_ ?_))
    all_goals conv => whnf
  rintro ⟨k, S, d⟩ ⟨(hk : k ≤ 65), (hS : S = (l.take k).sum), (hd : d = canL S.natAbs)⟩
  subst hd
  conv => whnf
  by_cases hlt : k < 65
  · have hxk : l[k]? = some l[k] := List.getElem?_eq_getElem (by omega)
    have hz := hx _ (List.mem_of_getElem? hxk)
    have hsu := sum_take_succ hxk
    generalize l[k] = z at hxk hz hsu
    have fS : few 5 S := by rw [hS]; exact few_sum5 (take_in hx k) (by rw [List.length_take]; omega)
    have o1 := of_num z hz
    have a1 := add_few (k := 5) (by omega) fS (few_mono (few_i64 hz) (by omega))
    repeat (any_goals (first
      | exact True.intro
      | (refine ⟨k, rfl, hlt, ?_⟩; conv => whnf)
      | (refine ⟨_, rfl, _, _, drop_row hxk, ?_⟩; conv => whnf)
      | (refine Or.inl ?_; conv => whnf)
      | (refine And.intro (fun _ => ?_) tf; conv => whnf)
      | (refine And.intro ft (fun _ => ?_); conv => whnf)
      | (refine And.intro (by kernel_rfl) ?_; conv => whnf)
      | (refine And.intro (by decide) ?_; conv => whnf)
      | (refine And.intro (fun _ => ?_) (fun h => absurd h (by decide)); conv => whnf)
      | (refine And.intro (fun h => absurd h (by decide)) (fun _ => ?_); conv => whnf)
      | (refine And.intro (fun _ => ?_) (fun _ => ?_) <;> conv => whnf)
      | (refine ⟨_, _, o1.pu rfl rfl, ?_⟩; conv => whnf)
      | (refine ⟨_, _, a1.pu rfl rfl, ?_⟩; conv => whnf)))
    all_goals try (exfalso; simp only [decide_eq_true_eq, decide_eq_false_iff_not, Bool.not_eq_true', Bool.not_eq_false', Bool.not_eq_true, Bool.not_eq_false, beq_iff_eq, bne_iff_ne, beq_eq_false_iff_ne, bne_eq_false_iff_eq, ne_eq, Decidable.not_not] at *; first | omega | contradiction | (simp_all; done) | (simp_all; omega))
    refine ⟨(k + 1, S + z, canL (S + z).natAbs), ⟨hlt, show S + z = (l.take (k + 1)).sum by omega, rfl⟩, show 65 - (k + 1) < 65 - k by omega, ?_⟩
    all_goals refine ⟨[], ?_⟩
    repeat (any_goals (first | exact True.intro | exact rfl | with_reducible_and_instances rfl | exact (by kernel_rfl) | refine And.intro ?_ ?_))
    all_goals conv => whnf
    exact wk1 (show k ≤ _ by omega)
  · have hke : k = 65 := by omega
    rw [List.take_of_length_le (by omega)] at hS
    subst hS
    rcases hr : rankF l K with _ | b
    all_goals rw [hr] at k1 k2
    all_goals
      repeat (any_goals (first
        | exact True.intro
        | (refine ⟨_, whole_row s68 hl, whole_len s68 hl, ?_⟩; conv => whnf)
        | (refine ⟨_, whole_row s69 hl, whole_len s69 hl, ?_⟩; conv => whnf)
        | (refine ⟨_, rfl, ?_⟩; conv => whnf)
        | (refine And.intro (fun _ => ?_) tf; conv => whnf)
        | (refine And.intro ft (fun _ => ?_); conv => whnf)
        | (refine And.intro (by kernel_rfl) ?_; conv => whnf)
        | (refine And.intro (by decide) ?_; conv => whnf)
        | (refine And.intro (fun _ => ?_) (fun h => absurd h (by decide)); conv => whnf)
        | (refine And.intro (fun h => absurd h (by decide)) (fun _ => ?_); conv => whnf)
        | (refine And.intro (fun _ => ?_) (fun _ => ?_) <;> conv => whnf)
        | (refine ⟨_, _, w1.pu rfl rfl, ?_⟩; conv => whnf)
        | (refine ⟨_, _, t1.pu rfl rfl, ?_⟩; conv => whnf)
        | (refine ⟨_, _, neS (by kernel_rfl), ?_⟩; conv => whnf)
        | (refine ⟨_, _, k1.pu rfl rfl, ?_⟩; conv => whnf)
        | (refine ⟨_, _, k2.pu rfl rfl, ?_⟩; conv => whnf)
        | (refine ⟨_, _, neB (by kernel_rfl), ?_⟩; conv => whnf)
        | (refine ⟨_, _, f1.nw rfl, ?_⟩; conv => whnf)))
      all_goals try (exfalso; simp only [decide_eq_true_eq, decide_eq_false_iff_not, Bool.not_eq_true', Bool.not_eq_false', Bool.not_eq_true, Bool.not_eq_false, beq_iff_eq, bne_iff_ne, beq_eq_false_iff_ne, bne_eq_false_iff_eq, ne_eq, Decidable.not_not] at *; first | omega | contradiction | (simp_all; done) | (simp_all; omega))
      all_goals try (refine Or.inl ?_; conv => whnf)
      repeat (any_goals (first
        | exact True.intro
        | (refine ⟨_, whole_row s68 hl, whole_len s68 hl, ?_⟩; conv => whnf)
        | (refine ⟨_, whole_row s69 hl, whole_len s69 hl, ?_⟩; conv => whnf)
        | (refine ⟨_, rfl, ?_⟩; conv => whnf)
        | (refine And.intro (fun _ => ?_) tf; conv => whnf)
        | (refine And.intro ft (fun _ => ?_); conv => whnf)
        | (refine And.intro (by kernel_rfl) ?_; conv => whnf)
        | (refine And.intro (by decide) ?_; conv => whnf)
        | (refine And.intro (fun _ => ?_) (fun h => absurd h (by decide)); conv => whnf)
        | (refine And.intro (fun h => absurd h (by decide)) (fun _ => ?_); conv => whnf)
        | (refine And.intro (fun _ => ?_) (fun _ => ?_) <;> conv => whnf)
        | (refine ⟨_, _, w1.pu rfl rfl, ?_⟩; conv => whnf)
        | (refine ⟨_, _, t1.pu rfl rfl, ?_⟩; conv => whnf)
        | (refine ⟨_, _, neS (by kernel_rfl), ?_⟩; conv => whnf)
        | (refine ⟨_, _, k1.pu rfl rfl, ?_⟩; conv => whnf)
        | (refine ⟨_, _, k2.pu rfl rfl, ?_⟩; conv => whnf)
        | (refine ⟨_, _, neB (by kernel_rfl), ?_⟩; conv => whnf)
        | (refine ⟨_, _, f1.nw rfl, ?_⟩; conv => whnf)))
      all_goals try (exfalso; simp only [decide_eq_true_eq, decide_eq_false_iff_not, Bool.not_eq_true', Bool.not_eq_false', Bool.not_eq_true, Bool.not_eq_false, beq_iff_eq, bne_iff_ne, beq_eq_false_iff_ne, bne_eq_false_iff_eq, ne_eq, Decidable.not_not] at *; first | omega | contradiction | (simp_all; done) | (simp_all; omega))
      all_goals try (refine Or.inl ?_; conv => whnf)
      repeat (any_goals (first
        | exact True.intro
        | (refine ⟨_, whole_row s68 hl, whole_len s68 hl, ?_⟩; conv => whnf)
        | (refine ⟨_, whole_row s69 hl, whole_len s69 hl, ?_⟩; conv => whnf)
        | (refine ⟨_, rfl, ?_⟩; conv => whnf)
        | (refine And.intro (fun _ => ?_) tf; conv => whnf)
        | (refine And.intro ft (fun _ => ?_); conv => whnf)
        | (refine And.intro (by kernel_rfl) ?_; conv => whnf)
        | (refine And.intro (by decide) ?_; conv => whnf)
        | (refine And.intro (fun _ => ?_) (fun h => absurd h (by decide)); conv => whnf)
        | (refine And.intro (fun h => absurd h (by decide)) (fun _ => ?_); conv => whnf)
        | (refine And.intro (fun _ => ?_) (fun _ => ?_) <;> conv => whnf)
        | (refine ⟨_, _, w1.pu rfl rfl, ?_⟩; conv => whnf)
        | (refine ⟨_, _, t1.pu rfl rfl, ?_⟩; conv => whnf)
        | (refine ⟨_, _, neS (by kernel_rfl), ?_⟩; conv => whnf)
        | (refine ⟨_, _, k1.pu rfl rfl, ?_⟩; conv => whnf)
        | (refine ⟨_, _, k2.pu rfl rfl, ?_⟩; conv => whnf)
        | (refine ⟨_, _, neB (by kernel_rfl), ?_⟩; conv => whnf)
        | (refine ⟨_, _, f1.nw rfl, ?_⟩; conv => whnf)))
      all_goals try (exfalso; simp only [decide_eq_true_eq, decide_eq_false_iff_not, Bool.not_eq_true', Bool.not_eq_false', Bool.not_eq_true, Bool.not_eq_false, beq_iff_eq, bne_iff_ne, beq_eq_false_iff_ne, bne_eq_false_iff_eq, ne_eq, Decidable.not_not] at *; first | omega | contradiction | (simp_all; done) | (simp_all; omega))
      all_goals try (refine Or.inl ?_; conv => whnf)
      repeat (any_goals (first
        | exact True.intro
        | (refine ⟨_, whole_row s68 hl, whole_len s68 hl, ?_⟩; conv => whnf)
        | (refine ⟨_, whole_row s69 hl, whole_len s69 hl, ?_⟩; conv => whnf)
        | (refine ⟨_, rfl, ?_⟩; conv => whnf)
        | (refine And.intro (fun _ => ?_) tf; conv => whnf)
        | (refine And.intro ft (fun _ => ?_); conv => whnf)
        | (refine And.intro (by kernel_rfl) ?_; conv => whnf)
        | (refine And.intro (by decide) ?_; conv => whnf)
        | (refine And.intro (fun _ => ?_) (fun h => absurd h (by decide)); conv => whnf)
        | (refine And.intro (fun h => absurd h (by decide)) (fun _ => ?_); conv => whnf)
        | (refine And.intro (fun _ => ?_) (fun _ => ?_) <;> conv => whnf)
        | (refine ⟨_, _, w1.pu rfl rfl, ?_⟩; conv => whnf)
        | (refine ⟨_, _, t1.pu rfl rfl, ?_⟩; conv => whnf)
        | (refine ⟨_, _, neS (by kernel_rfl), ?_⟩; conv => whnf)
        | (refine ⟨_, _, k1.pu rfl rfl, ?_⟩; conv => whnf)
        | (refine ⟨_, _, k2.pu rfl rfl, ?_⟩; conv => whnf)
        | (refine ⟨_, _, neB (by kernel_rfl), ?_⟩; conv => whnf)
        | (refine ⟨_, _, f1.nw rfl, ?_⟩; conv => whnf)))
      all_goals try (exfalso; simp only [decide_eq_true_eq, decide_eq_false_iff_not, Bool.not_eq_true', Bool.not_eq_false', Bool.not_eq_true, Bool.not_eq_false, beq_iff_eq, bne_iff_ne, beq_eq_false_iff_ne, bne_eq_false_iff_eq, ne_eq, Decidable.not_not] at *; first | omega | contradiction | (simp_all; done) | (simp_all; omega))
      all_goals try (refine Or.inl ?_; conv => whnf)
      repeat (any_goals (first
        | exact True.intro
        | (refine ⟨_, whole_row s68 hl, whole_len s68 hl, ?_⟩; conv => whnf)
        | (refine ⟨_, whole_row s69 hl, whole_len s69 hl, ?_⟩; conv => whnf)
        | (refine ⟨_, rfl, ?_⟩; conv => whnf)
        | (refine And.intro (fun _ => ?_) tf; conv => whnf)
        | (refine And.intro ft (fun _ => ?_); conv => whnf)
        | (refine And.intro (by kernel_rfl) ?_; conv => whnf)
        | (refine And.intro (by decide) ?_; conv => whnf)
        | (refine And.intro (fun _ => ?_) (fun h => absurd h (by decide)); conv => whnf)
        | (refine And.intro (fun h => absurd h (by decide)) (fun _ => ?_); conv => whnf)
        | (refine And.intro (fun _ => ?_) (fun _ => ?_) <;> conv => whnf)
        | (refine ⟨_, _, w1.pu rfl rfl, ?_⟩; conv => whnf)
        | (refine ⟨_, _, t1.pu rfl rfl, ?_⟩; conv => whnf)
        | (refine ⟨_, _, neS (by kernel_rfl), ?_⟩; conv => whnf)
        | (refine ⟨_, _, k1.pu rfl rfl, ?_⟩; conv => whnf)
        | (refine ⟨_, _, k2.pu rfl rfl, ?_⟩; conv => whnf)
        | (refine ⟨_, _, neB (by kernel_rfl), ?_⟩; conv => whnf)
        | (refine ⟨_, _, f1.nw rfl, ?_⟩; conv => whnf)))
      refine ⟨Nat, Nat, fun y z => z = y ∧ y ≤ 65, fun z => [.row (hR l), .dead, .cells [bA false], .dead, .dead, .cells [iA z], .row (hR l)], [(80, .fn (.func 89) [] [.ptr 6 0]), (14, .ptr 5 0), (4, .ptr 2 0), (2, .ptr 0 0)], 7, _, _, _, [.dead, .dead, .dead, .dead, .dead, .dead, .row (hR l)], 0, _, _, ⟨0, ⟨rfl, by omega⟩, ?_⟩, rfl, rfl, fullN hl rfl, ?_, ?_, ?_, ?_⟩
      · all_goals refine ⟨[], ?_⟩
        repeat (any_goals (first | exact True.intro | exact rfl | with_reducible_and_instances rfl | exact (by kernel_rfl) | refine And.intro ?_ ?_))
        all_goals conv => whnf
      · rintro y x y' ⟨b, v, _, rfl⟩; rfl
      · rintro y z _; exact ⟨⟨rfl, trivial⟩, Nat.le_refl _⟩
      · rintro y z x y' ⟨rfl, hy⟩ ⟨b, v, ⟨hyb, hb, hbv, hv0, hz, rfl⟩, rfl⟩
        conv => whnf
        repeat (any_goals (first
          | exact True.intro
          | (refine ⟨b, rfl, hb, ?_⟩; conv => whnf)
          | (refine ⟨_, rfl, _, _, drop_row hbv, ?_⟩; conv => whnf)
          | (refine And.intro (fun _ => ?_) tf; conv => whnf)
          | (refine And.intro ft (fun _ => ?_); conv => whnf)
          | (refine And.intro (by kernel_rfl) ?_; conv => whnf)
          | (refine And.intro (by decide) ?_; conv => whnf)
          | (refine And.intro (fun _ => ?_) (fun h => absurd h (by decide)); conv => whnf)
          | (refine And.intro (fun h => absurd h (by decide)) (fun _ => ?_); conv => whnf)
          | (refine And.intro (fun _ => ?_) (fun _ => ?_) <;> conv => whnf)))
        all_goals try (exfalso; simp only [decide_eq_true_eq, decide_eq_false_iff_not, Bool.not_eq_true', Bool.not_eq_false', Bool.not_eq_true, Bool.not_eq_false, beq_iff_eq, bne_iff_ne, beq_eq_false_iff_ne, bne_eq_false_iff_eq, ne_eq, Decidable.not_not] at *; first | omega | contradiction | (simp_all; done) | (simp_all; omega))
        all_goals try (refine Or.inl ?_; conv => whnf)
        repeat (any_goals (first
          | exact True.intro
          | (refine ⟨b, rfl, hb, ?_⟩; conv => whnf)
          | (refine ⟨_, rfl, _, _, drop_row hbv, ?_⟩; conv => whnf)
          | (refine And.intro (fun _ => ?_) tf; conv => whnf)
          | (refine And.intro ft (fun _ => ?_); conv => whnf)
          | (refine And.intro (by kernel_rfl) ?_; conv => whnf)
          | (refine And.intro (by decide) ?_; conv => whnf)
          | (refine And.intro (fun _ => ?_) (fun h => absurd h (by decide)); conv => whnf)
          | (refine And.intro (fun h => absurd h (by decide)) (fun _ => ?_); conv => whnf)
          | (refine And.intro (fun _ => ?_) (fun _ => ?_) <;> conv => whnf)))
        all_goals try (exfalso; simp only [decide_eq_true_eq, decide_eq_false_iff_not, Bool.not_eq_true', Bool.not_eq_false', Bool.not_eq_true, Bool.not_eq_false, beq_iff_eq, bne_iff_ne, beq_eq_false_iff_ne, bne_eq_false_iff_eq, ne_eq, Decidable.not_not] at *; first | omega | contradiction | (simp_all; done) | (simp_all; omega))
        all_goals try (refine Or.inl ?_; conv => whnf)
        repeat (any_goals (first
          | exact True.intro
          | (refine ⟨b, rfl, hb, ?_⟩; conv => whnf)
          | (refine ⟨_, rfl, _, _, drop_row hbv, ?_⟩; conv => whnf)
          | (refine And.intro (fun _ => ?_) tf; conv => whnf)
          | (refine And.intro ft (fun _ => ?_); conv => whnf)
          | (refine And.intro (by kernel_rfl) ?_; conv => whnf)
          | (refine And.intro (by decide) ?_; conv => whnf)
          | (refine And.intro (fun _ => ?_) (fun h => absurd h (by decide)); conv => whnf)
          | (refine And.intro (fun h => absurd h (by decide)) (fun _ => ?_); conv => whnf)
          | (refine And.intro (fun _ => ?_) (fun _ => ?_) <;> conv => whnf)))
        all_goals try (exfalso; simp only [decide_eq_true_eq, decide_eq_false_iff_not, Bool.not_eq_true', Bool.not_eq_false', Bool.not_eq_true, Bool.not_eq_false, beq_iff_eq, bne_iff_ne, beq_eq_false_iff_ne, bne_eq_false_iff_eq, ne_eq, Decidable.not_not] at *; first | omega | contradiction | (simp_all; done) | (simp_all; omega))
        refine ⟨Nat, fun j => z ≤ j ∧ j ≤ b, fun j => ([(15, iA b), (14, .ptr 5 0), (4, .ptr 2 0), (2, .ptr 0 0)], [.row (hR l), .dead, .cells [bA false], .dead, .dead, .cells [iA j], .row (hR l)]), fun j => b - j, ⟨z, ⟨Nat.le_refl _, hyb⟩, ?_⟩, ?_⟩
        · all_goals refine ⟨[], ?_⟩
          repeat (any_goals (first | exact True.intro | exact rfl | with_reducible_and_instances rfl | exact (by kernel_rfl) | refine And.intro ?_ ?_))
          all_goals conv => whnf
        rintro j ⟨hzj, hjb⟩
        conv => whnf
        by_cases hjl : j < b
        · have hxj := hz j hzj hjl
          have hj65 : j < 65 := by omega
          repeat (any_goals (first
            | exact True.intro
            | (refine ⟨j, rfl, hj65, ?_⟩; conv => whnf)
            | (refine ⟨_, rfl, _, _, drop_row hxj, ?_⟩; conv => whnf)
            | (refine Or.inl ?_; conv => whnf)
            | (refine And.intro (fun _ => ?_) tf; conv => whnf)
            | (refine And.intro ft (fun _ => ?_); conv => whnf)
            | (refine And.intro (by kernel_rfl) ?_; conv => whnf)
            | (refine And.intro (by decide) ?_; conv => whnf)
            | (refine And.intro (fun _ => ?_) (fun h => absurd h (by decide)); conv => whnf)
            | (refine And.intro (fun h => absurd h (by decide)) (fun _ => ?_); conv => whnf)
            | (refine And.intro (fun _ => ?_) (fun _ => ?_) <;> conv => whnf)))
          all_goals try (exfalso; simp only [decide_eq_true_eq, decide_eq_false_iff_not, Bool.not_eq_true', Bool.not_eq_false', Bool.not_eq_true, Bool.not_eq_false, beq_iff_eq, bne_iff_ne, beq_eq_false_iff_ne, bne_eq_false_iff_eq, ne_eq, Decidable.not_not] at *; first | omega | contradiction | (simp_all; done) | (simp_all; omega))
          refine ⟨j + 1, ⟨by omega, hjl⟩, show b - (j + 1) < b - j by omega, ?_⟩
          all_goals refine ⟨[], ?_⟩
          repeat (any_goals (first | exact True.intro | exact rfl | with_reducible_and_instances rfl | exact (by kernel_rfl) | refine And.intro ?_ ?_))
          all_goals conv => whnf
          exact wk1 (by omega)
        · have hjb : j = b := by omega
          subst hjb
          repeat (any_goals (first
            | exact True.intro
            | (refine Or.inl ?_; conv => whnf)
            | (refine And.intro (fun _ => ?_) tf; conv => whnf)
            | (refine And.intro ft (fun _ => ?_); conv => whnf)
            | (refine And.intro (by kernel_rfl) ?_; conv => whnf)
            | (refine And.intro (by decide) ?_; conv => whnf)
            | (refine And.intro (fun _ => ?_) (fun h => absurd h (by decide)); conv => whnf)
            | (refine And.intro (fun h => absurd h (by decide)) (fun _ => ?_); conv => whnf)
            | (refine And.intro (fun _ => ?_) (fun _ => ?_) <;> conv => whnf)))
          all_goals try (exfalso; simp only [decide_eq_true_eq, decide_eq_false_iff_not, Bool.not_eq_true', Bool.not_eq_false', Bool.not_eq_true, Bool.not_eq_false, beq_iff_eq, bne_iff_ne, beq_eq_false_iff_ne, bne_eq_false_iff_eq, ne_eq, Decidable.not_not] at *; first | omega | contradiction | (simp_all; done) | (simp_all; omega))
          refine ⟨j + 1, ⟨rfl, by omega⟩, ?_⟩
          all_goals refine ⟨[], ?_⟩
          repeat (any_goals (first | exact True.intro | exact rfl | with_reducible_and_instances rfl | exact (by kernel_rfl) | refine And.intro ?_ ?_))
          all_goals conv => whnf
          exact wk1 (by omega)
      · rintro y z ⟨hy, hz⟩ ⟨rfl, _⟩
        conv => whnf
        repeat (any_goals (first
          | exact True.intro
          | (refine And.intro (fun _ => ?_) tf; conv => whnf)
          | (refine And.intro ft (fun _ => ?_); conv => whnf)
          | (refine And.intro (by kernel_rfl) ?_; conv => whnf)
          | (refine And.intro (by decide) ?_; conv => whnf)
          | (refine And.intro (fun _ => ?_) (fun h => absurd h (by decide)); conv => whnf)
          | (refine And.intro (fun h => absurd h (by decide)) (fun _ => ?_); conv => whnf)
          | (refine And.intro (fun _ => ?_) (fun _ => ?_) <;> conv => whnf)))
        all_goals try (refine Or.inl ?_; conv => whnf)
        repeat (any_goals (first
          | exact True.intro
          | (refine And.intro (fun _ => ?_) tf; conv => whnf)
          | (refine And.intro ft (fun _ => ?_); conv => whnf)
          | (refine And.intro (by kernel_rfl) ?_; conv => whnf)
          | (refine And.intro (by decide) ?_; conv => whnf)
          | (refine And.intro (fun _ => ?_) (fun h => absurd h (by decide)); conv => whnf)
          | (refine And.intro (fun h => absurd h (by decide)) (fun _ => ?_); conv => whnf)
          | (refine And.intro (fun _ => ?_) (fun _ => ?_) <;> conv => whnf)))
        all_goals try (refine Or.inl ?_; conv => whnf)
        repeat (any_goals (first
          | exact True.intro
          | (refine And.intro (fun _ => ?_) tf; conv => whnf)
          | (refine And.intro ft (fun _ => ?_); conv => whnf)
          | (refine And.intro (by kernel_rfl) ?_; conv => whnf)
          | (refine And.intro (by decide) ?_; conv => whnf)
          | (refine And.intro (fun _ => ?_) (fun h => absurd h (by decide)); conv => whnf)
          | (refine And.intro (fun h => absurd h (by decide)) (fun _ => ?_); conv => whnf)
          | (refine And.intro (fun _ => ?_) (fun _ => ?_) <;> conv => whnf)))
        refine ⟨Nat, fun j => z ≤ j ∧ j ≤ 65, fun j => ([(14, .ptr 5 0), (4, .ptr 2 0), (2, .ptr 0 0)], [.row (hR l), .dead, .cells [bA false], .dead, .dead, .cells [iA j]]), fun j => 65 - j, ⟨z, ⟨Nat.le_refl _, hy⟩, ?_⟩, ?_⟩
        · all_goals refine ⟨[], ?_⟩
          repeat (any_goals (first | exact True.intro | exact rfl | with_reducible_and_instances rfl | exact (by kernel_rfl) | refine And.intro ?_ ?_))
          all_goals conv => whnf
        rintro j ⟨hzj, hj⟩
        conv => whnf
        by_cases hjl : j < 65
        · have hxj := hz j hzj hjl
          repeat (any_goals (first
            | exact True.intro
            | (refine ⟨j, rfl, hjl, ?_⟩; conv => whnf)
            | (refine ⟨_, rfl, _, _, drop_row hxj, ?_⟩; conv => whnf)
            | (refine Or.inl ?_; conv => whnf)
            | (refine And.intro (fun _ => ?_) tf; conv => whnf)
            | (refine And.intro ft (fun _ => ?_); conv => whnf)
            | (refine And.intro (by kernel_rfl) ?_; conv => whnf)
            | (refine And.intro (by decide) ?_; conv => whnf)
            | (refine And.intro (fun _ => ?_) (fun h => absurd h (by decide)); conv => whnf)
            | (refine And.intro (fun h => absurd h (by decide)) (fun _ => ?_); conv => whnf)
            | (refine And.intro (fun _ => ?_) (fun _ => ?_) <;> conv => whnf)))
          all_goals try (exfalso; simp only [decide_eq_true_eq, decide_eq_false_iff_not, Bool.not_eq_true', Bool.not_eq_false', Bool.not_eq_true, Bool.not_eq_false, beq_iff_eq, bne_iff_ne, beq_eq_false_iff_ne, bne_eq_false_iff_eq, ne_eq, Decidable.not_not] at *; first | omega | contradiction | (simp_all; done) | (simp_all; omega))
          refine ⟨j + 1, ⟨by omega, hjl⟩, show 65 - (j + 1) < 65 - j by omega, ?_⟩
          all_goals refine ⟨[], ?_⟩
          repeat (any_goals (first | exact True.intro | exact rfl | with_reducible_and_instances rfl | exact (by kernel_rfl) | refine And.intro ?_ ?_))
          all_goals conv => whnf
          exact wk1 (by omega)
        · repeat (any_goals (first
            | exact True.intro
            | (refine Or.inl ?_; conv => whnf)
            | (refine And.intro (fun _ => ?_) tf; conv => whnf)
            | (refine And.intro ft (fun _ => ?_); conv => whnf)
            | (refine And.intro (by kernel_rfl) ?_; conv => whnf)
            | (refine And.intro (by decide) ?_; conv => whnf)
            | (refine And.intro (fun _ => ?_) (fun h => absurd h (by decide)); conv => whnf)
            | (refine And.intro (fun h => absurd h (by decide)) (fun _ => ?_); conv => whnf)
            | (refine And.intro (fun _ => ?_) (fun _ => ?_) <;> conv => whnf)))
          all_goals try (exfalso; simp only [decide_eq_true_eq, decide_eq_false_iff_not, Bool.not_eq_true', Bool.not_eq_false', Bool.not_eq_true, Bool.not_eq_false, beq_iff_eq, bne_iff_ne, beq_eq_false_iff_ne, bne_eq_false_iff_eq, ne_eq, Decidable.not_not] at *; first | omega | contradiction | (simp_all; done) | (simp_all; omega))
          all_goals refine ⟨[], ?_⟩
          repeat (any_goals (first | exact True.intro | exact rfl | with_reducible_and_instances rfl | exact (by kernel_rfl) | refine And.intro ?_ ?_))
          all_goals conv => whnf
theorem ranks_law (H : Type) (enc : TypeId × Value → H) : LawWalk H enc Try.prog 9 Try.f9 :=
  lawWalk_of_sat (by kernel_rfl) fun args h => by
    obtain ⟨a, _, rfl, h1, h⟩ := h
    obtain ⟨b, _, rfl, h2, h⟩ := h
    obtain rfl := h
    obtain ⟨l, rfl, hl, hx⟩ := ty_harr1 h1 Try.underlying68 Try.underlying2
    obtain ⟨K, rfl, hK⟩ := ty_wide h2
    exact ranks_sat l K hl hx hK
end Go.Proofs.Ytoammbfipinejaa
/- Two closed facts on the program that every law's statement asks. -/
namespace Go.Proofs.Ytoammbfipinejaa
set_option linter.unusedSimpArgs false
set_option linter.unusedVariables false
open Go.RowKit
theorem own : ownKnob Try.prog.godebug = none := by kernel_rfl
theorem laidOut : laidOutB Try.prog = true := by kernel_rfl
end Go.Proofs.Ytoammbfipinejaa
