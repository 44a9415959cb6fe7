/- What arguments of a law are, by their types: numbers, structs of numbers, slices of such. No program is named here. -/
import Derived.Test.YtgidaifoiljgoaaVcT
namespace Go.Proofs.Ytgidaifoiljgoaa
set_option linter.unusedSimpArgs false
set_option linter.unusedVariables false
open Go.RowKit
section
variable {P : Program} {t : TypeId} {x : D} {m : Nat} {ds : List D}
def in64 (z : Int) : Prop := -9223372036854775808 ≤ z ∧ z ≤ 9223372036854775807
theorem wf_i64 {z : Int} (h : (Lit.int .i64 z).wf = true) : in64 z := by
  simp only [Lit.wf, Bool.and_eq_true, decide_eq_true_eq] at h
  exact h
theorem tyv_one (h : TyV P t x) {d : TypeDesc} (hu : P.underlying t = some d) (h1 : (match d with | .struct _ => false | .array _ _ => false | _ => true) = true) : Ty P 9 t [x] := by
  unfold TyV at h
  rw [hu] at h
  cases d <;> first | exact h | cases h1
theorem ty_int {k : IntKind} (h : TyV P t x) (hu : P.underlying t = some (.int k)) : ∃ z, x = .v (.int k z) ∧ (Lit.int k z).wf = true := by
  have h := tyv_one h hu rfl
  have h : TyB (Ty P 8) P t [x] := h
  unfold TyB at h
  rw [hu] at h
  obtain ⟨z, h1, h2⟩ := h
  injection h1 with h1
  exact ⟨z, h1, h2⟩
theorem ty_i64 (h : TyV P t x) (hu : P.underlying t = some (.int .i64)) : ∃ z, x = .v (.int .i64 z) ∧ in64 z := by
  obtain ⟨z, h1, h2⟩ := ty_int h hu
  exact ⟨z, h1, wf_i64 h2⟩
theorem ty_bool (h : TyV P t x) (hu : P.underlying t = some .bool) : ∃ b, x = .v (.bool b) := by
  have h := tyv_one h hu rfl
  have h : TyB (Ty P 8) P t [x] := h
  unfold TyB at h
  rw [hu] at h
  obtain ⟨b, h1⟩ := h
  injection h1 with h1
  exact ⟨b, h1⟩
theorem ty_string (h : TyV P t x) (hu : P.underlying t = some .string) : ∃ s, x = .v (.string s) ∧ s.size ≤ reachBytes := by
  have h := tyv_one h hu rfl
  have h : TyB (Ty P 8) P t [x] := h
  unfold TyB at h
  rw [hu] at h
  obtain ⟨b, h1, h2⟩ := h
  injection h1 with h1
  exact ⟨b, h1, h2⟩
theorem ty_slice {e : TypeId} (h : TyV P t x) (hu : P.underlying t = some (.slice e)) : ∃ rows, x = .sl (P.cellsOf e) rows ∧ (∀ r ∈ rows, Ty P 8 e r) ∧ rows.length * P.bytesOf e ≤ reachBytes := by
  have h := tyv_one h hu rfl
  have h : TyB (Ty P 8) P t [x] := h
  unfold TyB at h
  rw [hu] at h
  obtain ⟨rows, h1, h2⟩ := h
  injection h1 with h1
  exact ⟨rows, h1, h2⟩
def isI64 (P : Program) (t : TypeId) : Bool := match P.underlying t with | some (.int .i64) => true | _ => false
theorem isI64_out (h : isI64 P t = true) : P.underlying t = some (.int .i64) := by
  unfold isI64 at h
  split at h
  · assumption
  · cases h
theorem tyall_ints : ∀ {ts : List TypeId} {dss : List (List D)}, TyAll (Ty P (m + 1)) ts dss → (ts.all fun t => isI64 P t) = true → ∃ zs : List Int, zs.length = ts.length ∧ dss.flatten = zs.map (fun z => D.v (.int .i64 z)) ∧ ∀ z ∈ zs, in64 z
  | [], dss, h, _ => by
    have h : dss = [] := h
    subst h
    exact ⟨[], rfl, rfl, fun z hz => by simp at hz⟩
  | t :: ts, dss, h, hi => by
    obtain ⟨d, r, rfl, h1, h2⟩ := h
    simp only [List.all_cons, Bool.and_eq_true] at hi
    obtain ⟨zs, g1, g2, g3⟩ := tyall_ints h2 hi.2
    have h1 : TyB (Ty P m) P t d := h1
    unfold TyB at h1
    rw [isI64_out hi.1] at h1
    obtain ⟨z, rfl, hz⟩ := h1
    refine ⟨z :: zs, by simp [g1], by simp [g2], fun y hy => ?_⟩
    rcases List.mem_cons.1 hy with e | e
    · subst e; exact wf_i64 hz
    · exact g3 y e
/-- Structs of n numbers. -/
def intsB (P : Program) (t : TypeId) (n : Nat) : Bool := match P.underlying t with
  | some (.struct fs) => Nat.beq fs.toList.length n && fs.toList.all fun f => isI64 P f.type
  | _ => false
theorem ty_ints {n : Nat} (h : Ty P (m + 2) t ds) (hb : intsB P t n = true) : ∃ zs : List Int, zs.length = n ∧ ds = zs.map (fun z => D.v (.int .i64 z)) ∧ ∀ z ∈ zs, in64 z := by
  unfold intsB at hb
  split at hb
  · rename_i fs hu
    simp only [Bool.and_eq_true] at hb
    have h : TyB (Ty P (m + 1)) P t ds := h
    unfold TyB at h
    rw [hu] at h
    obtain ⟨dss, rfl, h2⟩ := h
    obtain ⟨zs, g1, g2, g3⟩ := tyall_ints h2 (by rw [List.all_map]; exact hb.2)
    exact ⟨zs, by rw [g1, List.length_map]; exact Nat.eq_of_beq_eq_true hb.1, g2, g3⟩
  · cases hb
theorem ty_sints {n : Nat} (h : TyV P t x) (hb : intsB P t n = true) : ∃ zs : List Int, zs.length = n ∧ x = .agg (zs.map (fun z => D.v (.int .i64 z))) ∧ ∀ z ∈ zs, in64 z := by
  have hb' := hb
  unfold intsB at hb
  split at hb
  · rename_i fs hu
    unfold TyV at h
    rw [hu] at h
    obtain ⟨ds, rfl, h⟩ := h
    obtain ⟨zs, g1, g2, g3⟩ := ty_ints h hb'
    exact ⟨zs, g1, by rw [g2], g3⟩
  · cases hb
theorem rows_map {α : Type} {f : α → List D} {p : α → Prop} : ∀ {rows : List (List D)}, (∀ r ∈ rows, ∃ a, r = f a ∧ p a) → ∃ l : List α, rows = l.map f ∧ ∀ a ∈ l, p a
  | [], _ => ⟨[], rfl, fun a h => by simp at h⟩
  | r :: rest, h => by
    obtain ⟨a, rfl, ha⟩ := h r (List.mem_cons_self ..)
    obtain ⟨l, rfl, hl⟩ := rows_map (rows := rest) fun r hr => h r (List.mem_cons_of_mem _ hr)
    exact ⟨a :: l, rfl, fun b hb => (List.mem_cons.1 hb).elim (fun e => e ▸ ha) fun q => hl b q⟩
end
end Go.Proofs.Ytgidaifoiljgoaa
