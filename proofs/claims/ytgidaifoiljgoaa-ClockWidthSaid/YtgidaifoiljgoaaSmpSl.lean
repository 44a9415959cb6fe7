/- Slices of samples: Delete of the first, Clone. -/
import Derived.Test.YtgidaifoiljgoaaClkA
import Derived.Test.YtgidaifoiljgoaaFlow
namespace Go.Proofs.Ytgidaifoiljgoaa
open Go.RowKit
set_option linter.unusedVariables false
set_option linter.unusedSimpArgs false
def scells (l : List Smp) : List Value := (l.map fun s => (smv s).toList).flatten
theorem scells_len : ∀ l : List Smp, (scells l).length = l.length * 4
  | [] => rfl
  | s :: r => by
    have := scells_len r
    unfold scells at this ⊢
    rw [List.map_cons, List.flatten_cons, List.length_append, this, List.length_cons]
    simp [smv]; omega
theorem scells_cons (s : Smp) (r : List Smp) : scells (s :: r) = (smv s).toList ++ scells r := by unfold scells; rw [List.map_cons, List.flatten_cons]
theorem scells_app (a b : List Smp) : scells (a ++ b) = scells a ++ scells b := by unfold scells; rw [List.map_append, List.flatten_append]
theorem scells_one (l : List Smp) : ∀ u ∈ scells l, u.oneCell' = true := by
  intro u hu
  unfold scells at hu
  rw [List.mem_flatten] at hu
  obtain ⟨c, hc, hu⟩ := hu
  obtain ⟨s, _, rfl⟩ := List.mem_map.1 hc
  simp only [smv, List.mem_cons, List.not_mem_nil, or_false] at hu
  rcases hu with rfl | rfl | rfl | rfl <;> rfl
def z4 : List Value := [.int .i64 0, .int .i64 0, .int .i64 0, .int .i64 0]
theorem run_clear1 (b o c : Nat) (w : World) (ty : TypeId) (hc : ∀ j, j < 4 → (w.cell? ⟨b, o + j, none⟩).isSome = true) (hf : ∀ j, j < 4 → w.frozen? ⟨b, o + j, none⟩ = false) :
    (Builtin.clear_ #[22] ty #[.slice (some ⟨b, o, none⟩) 1 c]).run Try.prog w = .ok (.tuple #[]) (w.setCells b o z4) := by
  have hst := run_storeCells_cells (P := Try.prog) b o z4 0 w (by simpa [z4] using hc) (by simpa [z4] using hf) (by intro u hu; simp [z4] at hu; subst hu; rfl)
  have hz : (zeroValue 33).run Try.prog w = .ok (.agg z4.toArray) w := by kernel_rfl
  have hu := run_underlying Try.underlying22 w
  rw [Nat.add_zero] at hst
  have hzc : (Builtin.zeroCells (Value.cells (.agg z4.toArray)) 1).toList = z4 := by kernel_rfl
  simp [Builtin.clear_, Sem.run_bind, hu, hz, Result.andThen, hzc, hst]
set_option maxRecDepth 100000 in
theorem infoSz : (Try.prog.info? 33).map (fun i => (i.zero, i.size, i.bytes)) = some (some (.agg z4.toArray), 4, 32) := by kernel_rfl
theorem drop_scells (l : List Smp) : (scells l).drop 4 = scells (l.drop 1) := by
  cases l with
  | nil => rfl
  | cons s r => rw [scells_cons]; rfl
/-- The world behind append(s[:0], s[1:]...), in place. -/
theorem run_shift (b off n cap : Nat) (xs : List Smp) (w : World) (ty : TypeId) (hn : 1 ≤ n) (hnc : n ≤ cap) (hl : xs.length = n)
    (hroom : ∀ j, j < cap * 4 → (w.cell? ⟨b, off + j, none⟩).isSome = true ∧ w.frozen? ⟨b, off + j, none⟩ = false) (hx : ∀ j (h : j < (scells xs).length), w.cell? ⟨b, off + j, none⟩ = some (scells xs)[j]) :
    (Builtin.append_ #[22, 22] ty #[.slice (some ⟨b, off, none⟩) 0 cap, .slice (some ⟨b, off + 4, none⟩) (n - 1) (cap - 1)]).run Try.prog w = .ok (.slice (some ⟨b, off, none⟩) (n - 1) cap) (w.setCells b off (scells (xs.drop 1))) := by
  obtain ⟨i0, hi, hz0, hz1, hz2⟩ := info_parts infoSz
  have hd : (scells (xs.drop 1)).length = (n - 1) * 4 := by rw [scells_len, List.length_drop, hl]
  have h := run_append_room_cells (P := Try.prog) w 22 ty 33 i0 Try.underlying22 hi b off 0 cap ⟨b, off + 4, none⟩ (n - 1) (cap - 1) (scells (xs.drop 1)) (by rw [hd, hz1])
    (fun j u hu => by
      rw [Addr.add_lit]
      have e2 : (scells xs)[4 + j]? = some u := by rw [← List.getElem?_drop, drop_scells]; exact hu
      obtain ⟨h3, h4⟩ := List.getElem?_eq_some_iff.1 e2
      have := hx (4 + j) h3
      rw [h4] at this
      rw [show off + 4 + j = off + (4 + j) by omega]
      exact this)
    (scells_one _) (by omega) (fun j hj => by rw [Nat.zero_mul, Nat.add_zero]; exact (hroom j (by omega)).1) (fun j hj => by rw [Nat.zero_mul, Nat.add_zero]; exact (hroom j (by omega)).2)
  rw [Nat.zero_mul, Nat.add_zero, Nat.zero_add] at h
  exact h
theorem slice3 (A : Option Addr) (n c : Nat) (w : World) (h : 1 ≤ n) (hn : n ≤ c) (hc : c ≤ 140737488351232) : (Instr.sliceAt 22 (.slice A n c) (some (.int .i64 0)) (some (.int .i64 1)) (some (.int .i64 (n : Int)))).run Try.prog w = .ok (.slice A 1 n) w := by
  have h1 : (0 : Int) ≤ (n : Int) := by omega
  have h2 : (1 : Int) ≤ (n : Int) := by omega
  have h3 : (n : Int) ≤ (c : Int) := by omega
  have h4 : ¬ n = 0 := by omega
  go_simp
theorem sliceTo0 (A : Option Addr) (n c : Nat) (w : World) : (Instr.sliceAt 22 (.slice A n c) none (some (.int .i64 0)) none).run Try.prog w = .ok (.slice A 0 c) w := by
  have h3 : (0 : Int) ≤ (c : Int) := by omega
  go_simp
theorem sliceFrom1 (b off n c : Nat) (w : World) (h : 2 ≤ n) (hn : n ≤ c) : (Instr.sliceAt 22 (.slice (some ⟨b, off, none⟩) n c) (some (.int .i64 1)) none none).run Try.prog w = .ok (.slice (some ⟨b, off + 4, none⟩) (n - 1) (c - 1)) w := by
  have h1 : (1 : Int) ≤ (n : Int) := by omega
  have h2 : (n : Int) ≤ (c : Int) := by omega
  have h3 : ¬ c = 1 := by omega
  go_simp
theorem sliceTail (b off n c : Nat) (w : World) (h : 2 ≤ n) (hn : n ≤ c) : (Instr.sliceAt 22 (.slice (some ⟨b, off, none⟩) (n - 1) c) (some (.int .i64 ((n - 1 : Nat) : Int))) (some (.int .i64 (n : Int))) none).run Try.prog w = .ok (.slice (some ⟨b, off + (n - 1) * 4, none⟩) 1 (c - (n - 1))) w := by
  have h1 : (0 : Int) ≤ ((n - 1 : Nat) : Int) := by omega
  have h2 : ((n - 1 : Nat) : Int) ≤ (n : Int) := by omega
  have h4 : (n : Int) ≤ (c : Int) := by omega
  have h3 : ¬ c = n - 1 := by omega
  have h5 : n - (n - 1) = 1 := by omega
  go_simp
theorem ow_shift (b off n cap lo : Nat) (xs : List Smp) (w : World) (hn : 1 ≤ n) (h : Ow w lo 33 4 (.slice (some ⟨b, off, none⟩) n cap) n (scells xs)) :
    Ow ((w.setCells b off (scells (xs.drop 1))).setCells b (off + (n - 1) * 4) z4) lo 33 4 (.slice (some ⟨b, off, none⟩) (n - 1) cap) (n - 1) (scells (xs.drop 1)) ∧ w.grownBy ((w.setCells b off (scells (xs.drop 1))).setCells b (off + (n - 1) * 4) z4) (some b) ∧ (∀ j, j < 4 → ((w.setCells b off (scells (xs.drop 1))).cell? ⟨b, off + (n - 1) * 4 + j, none⟩).isSome = true ∧ (w.setCells b off (scells (xs.drop 1))).frozen? ⟨b, off + (n - 1) * 4 + j, none⟩ = false) := by
  have hl : xs.length = n := by have := h.1; rw [scells_len] at this; omega
  have hd : (scells (xs.drop 1)).length = (n - 1) * 4 := by rw [scells_len, List.length_drop, hl]
  obtain ⟨g', off', cap', he, hlo, hlt, hnc, hcm, hroom, hx⟩ := h.open_ (by omega)
  simp only [Value.slice.injEq, Option.some.injEq, Addr.mk.injEq, and_true, true_and] at he
  obtain ⟨⟨rfl, rfl⟩, rfl⟩ := he
  have hz : z4.length = 4 := rfl
  have hsome : ∀ j, j < cap * 4 → ((w.setCells b off (scells (xs.drop 1))).cell? ⟨b, off + j, none⟩).isSome = true := by
    intro j hj
    by_cases hin : j < (scells (xs.drop 1)).length
    · have h := World.cell?_setCells_in b (scells (xs.drop 1)) off w (fun q hq => (hroom q (by omega)).1) j hin
      rw [h]; rfl
    · rw [World.cell?_setCells_out b (scells (xs.drop 1)) off w _ (fun _ _ => by simp only; omega)]
      exact (hroom j hj).1
  refine ⟨⟨hd, .inr (.inr ⟨b, off, cap, rfl, hlo, by rw [setCells_size, setCells_size]; exact hlt, by omega, hcm, fun j hj => ?_, fun j hj => ?_⟩)⟩, grown_trans (setCells_grown b off _ w) (setCells_grown b _ _ _), fun j hj => ⟨by rw [Nat.add_assoc]; exact hsome _ (by omega), by rw [World.frozen?_setCells, Nat.add_assoc]; exact (hroom _ (by omega)).2⟩⟩
  · rw [World.frozen?_setCells, World.frozen?_setCells]
    refine ⟨?_, (hroom j hj).2⟩
    by_cases hin : (n - 1) * 4 ≤ j ∧ j < (n - 1) * 4 + 4
    · have h := World.cell?_setCells_in b z4 (off + (n - 1) * 4) (w.setCells b off (scells (xs.drop 1))) (fun q hq => by rw [Nat.add_assoc]; exact hsome _ (by omega)) (j - (n - 1) * 4) (by omega)
      rw [show off + (n - 1) * 4 + (j - (n - 1) * 4) = off + j by omega] at h
      rw [h]; rfl
    · rw [World.cell?_setCells_out b z4 (off + (n - 1) * 4) _ _ (fun _ _ => by simp only; omega)]
      exact hsome j hj
  · rw [World.cell?_setCells_out b z4 (off + (n - 1) * 4) _ _ (fun _ _ => by simp only; omega)]
    have h := World.cell?_setCells_in b (scells (xs.drop 1)) off w (fun q hq => (hroom q (by omega)).1) j hj
    rw [h]
theorem grown_drew {w w' : World} {row : Option Nat} (h : w.drew.grownBy w' row) : w.grownBy w' row := ⟨h.os, h.tape, h.output, h.size, h.block⟩
set_option maxHeartbeats 1000000 in
set_option maxRecDepth 100000 in
theorem delete1_any (b off n cap lo : Nat) (xs : List Smp) (w : World) (hn : 2 ≤ n) (hc : cap ≤ 9223372036854775807) (h : Ow w lo 33 4 (.slice (some ⟨b, off, none⟩) n cap) n (scells xs)) :
    Calls Try.prog 44 #[.slice (some ⟨b, off, none⟩) n cap, .int .i64 0, .int .i64 1] w fun e w' => e = .returned (.slice (some ⟨b, off, none⟩) (n - 1) cap) ∧ Ow w' lo 33 4 (.slice (some ⟨b, off, none⟩) (n - 1) cap) (n - 1) (scells (xs.drop 1)) ∧ w.grownBy w' (some b) := by
  have hl : xs.length = n := by have := h.1; rw [scells_len] at this; omega
  obtain ⟨g', off', cap', he, hlo, hlt, hnc, hcm, hroom, hx⟩ := h.open_ (by omega)
  simp only [Value.slice.injEq, Option.some.injEq, Addr.mk.injEq, and_true, true_and] at he
  obtain ⟨⟨rfl, rfl⟩, rfl⟩ := he
  have HS := hide (run_shift b off n cap xs w.drew 22 (by omega) hnc hl hroom hx)
  have HO := hide (ow_shift b off n cap lo xs w.drew (by omega) h.drew)
  have h0 : (0 : Int) ≤ (n : Int) := by omega
  have h1 : (1 : Int) ≤ (n : Int) := by omega
  have h2 : (n : Int) ≤ (cap : Int) := by omega
  clear h hroom hx hl
  go_enter Try.func44, Try.ntmps44
  go_wp2_with fail
  refine region_flow (by kernel_rfl) (by kernel_rfl) (Γ := Unit) (fun _ => [.slice (some ⟨b, off, none⟩) n cap, .int .i64 0, .slice (some ⟨b, off, none⟩) 0 cap, .slice (some ⟨b, off, none⟩) n cap, .int .i64 1, .slice (some ⟨b, off + 4, none⟩) (n - 1) (cap - 1), .slice (some ⟨b, off, none⟩) (n - 1) cap, .slice (some ⟨b, off, none⟩) (n - 1) cap])
    (fun l γ W => W = if l 6 = true then w.drew.setCells b off (scells (xs.drop 1)) else w.drew) (fun _ => rfl) () rfl ?step ?fin
  case step =>
    refine ⟨?_, ?_, ?_, ?_, ?_, ?_, ?_, ?_, trivial⟩
    · intro l γ W hG hl hw hcl; exact stepV_value rfl _ rfl (.inr rfl) hG
    · intro l γ W hG hl hw hcl; exact stepV_value rfl _ rfl (.inr rfl) hG
    · intro l γ W hG hl hw hcl; exact stepV_value rfl _ (exec_slice _ _ _ _ _ rfl _ n cap rfl (sliceTo0 _ n cap W)) (.inr rfl) hG
    · intro l γ W hG hl hw hcl; exact stepV_value rfl _ rfl (.inr rfl) hG
    · intro l γ W hG hl hw hcl; exact stepV_value rfl _ rfl (.inr rfl) hG
    · intro l γ W hG hl hw hcl; exact stepV_value rfl _ (exec_slice _ _ _ _ _ rfl _ n cap rfl (sliceFrom1 b off n cap W hn hnc)) (.inr rfl) hG
    · intro l γ W hG hl hw hcl
      rw [show l 6 = false from hl, if_neg (by simp)] at hG
      subst hG
      exact stepV_run rfl _ _ γ (exec_append _ _ _ rfl _ _ rfl rfl HS.out) (SameV.refl _ _ _) (.inr rfl) rfl
    · intro l γ W hG hl hw hcl; exact stepV_value rfl _ rfl (.inr rfl) hG
  case fin =>
    intro l γ W hall hG
    rw [hall 6 (by simp), if_pos rfl] at hG
    subst hG
    have ho := HO.out
    have hcz := fun ty => run_clear1 b (off + (n - 1) * 4) (cap - (n - 1)) (w.drew.setCells b off (scells (xs.drop 1))) ty (fun j hj => (ho.2.2 j hj).1) (fun j hj => (ho.2.2 j hj).2)
    have hst := sliceTail b off n cap (w.drew.setCells b off (scells (xs.drop 1))) hn hnc
    generalize w.drew.setCells b off (scells (xs.drop 1)) = w5 at *
    have HO2 := hide ho
    have HCZ := hide hcz
    clear ho hcz HO HS
    simp only [putAll, Act.put, List.setIfInBounds_toArray, List.set_cons_succ, List.set_cons_zero]
    have h6 : (0 : Int) ≤ ((n - 1 : Nat) : Int) := by omega
    have h7 : ((n - 1 : Nat) : Int) ≤ (n : Int) := by omega
    go_wp2_with (first | refine pause (.slice _ _ _ _ _) rfl ?_ | refine pause (.call { callee := .builtin .clear, args := _, argTypes := _ }) rfl ?_)
    refine unpause ?_
    refine wpList_exec rfl _ (exec_slice _ _ _ _ _ rfl _ _ _ rfl hst) ?_
    go_wp2_with (refine pause (.call { callee := .builtin .clear, args := _, argTypes := _ }) rfl ?_)
    refine unpause ?_
    refine wpList_exec rfl _ (exec_clear _ _ rfl _ rfl (HCZ.out _)) ?_
    go_wp2_with fail
    go_ret
    exact ⟨rfl, HO2.out.1, grown_drew HO2.out.2.1⟩
set_option maxHeartbeats 1000000 in
set_option maxRecDepth 100000 in
theorem cloneS_any (A : Option Addr) (n c : Nat) (xs : List Smp) (w : World) (hr : Rd w w.heap.size 4 A n (scells xs)) (hn : n ≤ 1000) :
    Calls Try.prog 61 #[.slice A n c] w fun e w' => ∃ v, e = .returned v ∧ Ow w' w.heap.size 33 4 v n (scells xs) ∧ Below w.heap.size w w' := by
  obtain ⟨i0, hi0, hz0, hz1, hz2⟩ := info_parts infoSz
  cases A with
  | none =>
    have h0 : n = 0 := by
      rcases Nat.eq_zero_or_pos n with h | h
      · exact h
      · obtain ⟨b, off, h, _⟩ := hr.at_ h
        cases h
    subst h0
    have hx : scells xs = [] := hr.nil'
    have hq := Lib.run_eql_slice_nil (P := Try.prog) (w := w) 22
    go_enter Try.func61, Try.ntmps61
    go_wp2_with fail
    go_ret
    exact ⟨_, rfl, by rw [hx]; exact Ow.nil _ _ _ _, Below.refl _ _⟩
  | some a =>
    have hq := Lib.run_eql_slice_nil (P := Try.prog) (w := w) 22
    go_enter Try.func61, Try.ntmps61
    go_wp2_with (at_builtin; refine wpList_append_ow _ rfl (.tmp 5) (.tmp 6) _ rfl w.heap.size 33 i0 _ 4 32 Try.underlying22 hi0 hz0 hz1 hz2 rfl (by omega) (.slice (some ⟨w.heap.size, 0, none⟩) 0 0) 0 [] rfl (Ow.lit w #[] 0 (Nat.le_refl _) (by simp [maxLen]) rfl) w.heap.size (some a) n c (scells xs) rfl (hr.alloc (Nat.le_refl _) _) (scells_one xs) (by simp only [maxLen]; omega) (by omega) (by simp) ?_; intro v1 w1 hown1 hg1 hat1 hnn1)
    go_ret
    refine ⟨_, rfl, by simpa using hown1, ?_⟩
    exact (((Below.refl _ _).alloc (Nat.le_refl _) _).grown hg1 (by simp) (by simp [Value.ownBlock]))
end Go.Proofs.Ytgidaifoiljgoaa
