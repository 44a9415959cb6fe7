/- ClockRises, by conditions. -/
import Derived.Test.YtgidaifoiljgoaaKf
import Derived.Test.YtgidaifoiljgoaaVcX
import Derived.Test.YtgidaifoiljgoaaKp
namespace Go.Proofs.Ytgidaifoiljgoaa
set_option linter.unusedSimpArgs false
set_option linter.unusedVariables false
open Go.RowKit
set_option maxRecDepth 100000
def inS (s : Smp) : Prop := in64 s.asked ∧ in64 s.got ∧ in64 s.sent ∧ in64 s.came
theorem ty_smp {x : D} (h : TyV Try.prog 33 x) : ∃ s, x = .agg (sR s) ∧ inS s := by
  obtain ⟨zs, h1, rfl, h3⟩ := ty_sints (n := 4) h (by kernel_rfl)
  match zs, h1, h3 with
  | [a, b, c, d], _, h3 => exact ⟨⟨a, b, c, d⟩, rfl, h3 a (by simp), h3 b (by simp), h3 c (by simp), h3 d (by simp)⟩
theorem ty_smps {x : D} (h : TyV Try.prog 22 x) : ∃ l : List Smp, x = .sl 4 (l.map sR) ∧ (∀ s ∈ l, inS s) ∧ l.length * 32 ≤ reachBytes := by
  obtain ⟨rows, rfl, h2, h3⟩ := ty_slice h Try.underlying22
  obtain ⟨l, rfl, hl⟩ := rows_map (f := sR) (p := inS) fun r hr => by
    obtain ⟨zs, h1, rfl, h3⟩ := ty_ints (n := 4) (h2 r hr) (by kernel_rfl)
    match zs, h1, h3 with
    | [a, b, c, d], _, h3 => exact ⟨⟨a, b, c, d⟩, rfl, h3 a (by simp), h3 b (by simp), h3 c (by simp), h3 d (by simp)⟩
  refine ⟨l, ?_, hl, ?_⟩
  · rw [show Try.prog.cellsOf 33 = 4 by kernel_rfl]
  · rw [show Try.prog.bytesOf 33 = 32 by kernel_rfl, List.length_map] at h3; exact h3
theorem rises_sat (s : Smp) (a b rho : Int) (ha : in64 a) (hb : in64 b) : Sat Try.prog 4 [sA s, iA a, iA b, iA rho] [] (bA true) [] := by
  refine sat_of_vc (T := tiOf Try.prog) (E := E0) Try.func4 rfl rfl hE0 hm0 rfl ?_
  conv => whnf
  repeat (any_goals (first
    | exact True.intro
    | (refine Or.inl ?_; conv => whnf)
    | (refine And.intro (fun _ => ?_) tf; conv => whnf)
    | (refine And.intro ft (fun _ => ?_); conv => whnf)
    | (refine And.intro (by kernel_rfl) ?_; conv => whnf)
    | (refine And.intro (by decide) ?_; conv => whnf)
    | (refine And.intro (fun _ => ?_) (fun h => absurd h (by decide)); conv => whnf)
    | (refine And.intro (fun h => absurd h (by decide)) (fun _ => ?_); conv => whnf)
    | (refine And.intro (fun _ => ?_) (fun _ => ?_) <;> conv => whnf)
    | (refine ⟨_, _, alive_sat.pu rfl rfl, ?_⟩; conv => whnf)
    | (refine ⟨_, _, (at_sat s a rho ha.1 ha.2).pu rfl rfl, ?_⟩; conv => whnf)
    | (refine ⟨_, _, (at_sat s b rho hb.1 hb.2).pu rfl rfl, ?_⟩; conv => whnf)))
  · all_goals refine ⟨[], ?_⟩
    repeat (any_goals (first | exact True.intro | exact rfl | with_reducible_and_instances rfl | exact (by kernel_rfl) | refine And.intro ?_ ?_))
    all_goals conv => whnf
  · have h1 : (atR s a rho).2 = 0 := (by (try simp only [decide_eq_true_eq, decide_eq_false_iff_not, Bool.not_eq_true', Bool.not_eq_false', Bool.not_eq_true, Bool.not_eq_false, beq_iff_eq, bne_iff_ne, beq_eq_false_iff_ne, bne_eq_false_iff_eq, ne_eq, Decidable.not_not, Int.natCast_eq_zero] at *); first | omega | assumption | (simp_all; done) | (simp_all; omega))
    have h2 : (atR s b rho).2 = 0 := (by (try simp only [decide_eq_true_eq, decide_eq_false_iff_not, Bool.not_eq_true', Bool.not_eq_false', Bool.not_eq_true, Bool.not_eq_false, beq_iff_eq, bne_iff_ne, beq_eq_false_iff_ne, bne_eq_false_iff_eq, ne_eq, Decidable.not_not, Int.natCast_eq_zero] at *); first | omega | assumption | (simp_all; done) | (simp_all; omega))
    have h3 : a ≤ b := (by (try simp only [decide_eq_true_eq, decide_eq_false_iff_not, Bool.not_eq_true', Bool.not_eq_false', Bool.not_eq_true, Bool.not_eq_false, beq_iff_eq, bne_iff_ne, beq_eq_false_iff_ne, bne_eq_false_iff_eq, ne_eq, Decidable.not_not, Int.natCast_eq_zero] at *); first | omega | assumption | (simp_all; done) | (simp_all; omega))
    rw [decide_eq_true (rises_plain s a b rho h1 h2 h3).2]
    all_goals refine ⟨[], ?_⟩
    repeat (any_goals (first | exact True.intro | exact rfl | with_reducible_and_instances rfl | exact (by kernel_rfl) | refine And.intro ?_ ?_))
    all_goals conv => whnf
  · exfalso
    have h1 : (atR s a rho).2 = 0 := (by (try simp only [decide_eq_true_eq, decide_eq_false_iff_not, Bool.not_eq_true', Bool.not_eq_false', Bool.not_eq_true, Bool.not_eq_false, beq_iff_eq, bne_iff_ne, beq_eq_false_iff_ne, bne_eq_false_iff_eq, ne_eq, Decidable.not_not, Int.natCast_eq_zero] at *); first | omega | assumption | (simp_all; done) | (simp_all; omega))
    have h2 : (atR s b rho).2 = 0 := (by (try simp only [decide_eq_true_eq, decide_eq_false_iff_not, Bool.not_eq_true', Bool.not_eq_false', Bool.not_eq_true, Bool.not_eq_false, beq_iff_eq, bne_iff_ne, beq_eq_false_iff_ne, bne_eq_false_iff_eq, ne_eq, Decidable.not_not, Int.natCast_eq_zero] at *); first | omega | assumption | (simp_all; done) | (simp_all; omega))
    have h3 : a ≤ b := (by (try simp only [decide_eq_true_eq, decide_eq_false_iff_not, Bool.not_eq_true', Bool.not_eq_false', Bool.not_eq_true, Bool.not_eq_false, beq_iff_eq, bne_iff_ne, beq_eq_false_iff_ne, bne_eq_false_iff_eq, ne_eq, Decidable.not_not, Int.natCast_eq_zero] at *); first | omega | assumption | (simp_all; done) | (simp_all; omega))
    have h4 := (rises_plain s a b rho h1 h2 h3).1
    simp_all
  · all_goals refine ⟨[], ?_⟩
    repeat (any_goals (first | exact True.intro | exact rfl | with_reducible_and_instances rfl | exact (by kernel_rfl) | refine And.intro ?_ ?_))
    all_goals conv => whnf
  · all_goals refine ⟨[], ?_⟩
    repeat (any_goals (first | exact True.intro | exact rfl | with_reducible_and_instances rfl | exact (by kernel_rfl) | refine And.intro ?_ ?_))
    all_goals conv => whnf
theorem rises_law (H : Type) (enc : TypeId × Value → H) : LawWalk H enc Try.prog 4 Try.f4 :=
  lawWalk_of_sat (by kernel_rfl) fun args h => by
    obtain ⟨x, _, rfl, h1, h⟩ := h
    obtain ⟨a, _, rfl, h2, h⟩ := h
    obtain ⟨b, _, rfl, h3, h⟩ := h
    obtain ⟨r, _, rfl, h4, h⟩ := h
    obtain rfl := h
    obtain ⟨s, rfl, _⟩ := ty_smp h1
    obtain ⟨a, rfl, ha⟩ := ty_i64 h2 Try.underlying2
    obtain ⟨b, rfl, hb⟩ := ty_i64 h3 Try.underlying2
    obtain ⟨r, rfl, _⟩ := ty_i64 h4 Try.underlying2
    exact rises_sat s a b r ha hb
end Go.Proofs.Ytgidaifoiljgoaa
