/- Parts SmpSl, Meet, Ka, Kb, Rm, Kc, Kd of the proof, put together. -/
import Derived.Test.YtgidaifoiljgoaaM7
import Derived.Outline
/- Slices of samples: Delete of the first, Clone. -/
namespace Go.Proofs.Ytgidaifoiljgoaa
open Go.RowKit
set_option linter.unusedVariables false
set_option linter.unusedSimpArgs false
def scells (l : List Smp) : List Value := (l.map fun s => (smv s).toList).flatten
theorem scells_len : ∀ l : List Smp, (scells l).length = l.length * 4
  | [] => rfl
  | s :: r => by
    have := scells_len r
    unfold scells at this ⊢
    rw [List.map_cons, List.flatten_cons, List.length_append, this, List.length_cons]
    simp [smv]; omega
theorem scells_cons (s : Smp) (r : List Smp) : scells (s :: r) = (smv s).toList ++ scells r := by unfold scells; rw [List.map_cons, List.flatten_cons]
theorem scells_app (a b : List Smp) : scells (a ++ b) = scells a ++ scells b := by unfold scells; rw [List.map_append, List.flatten_append]
theorem scells_one (l : List Smp) : ∀ u ∈ scells l, u.oneCell' = true := by
  intro u hu
  unfold scells at hu
  rw [List.mem_flatten] at hu
  obtain ⟨c, hc, hu⟩ := hu
  obtain ⟨s, _, rfl⟩ := List.mem_map.1 hc
  simp only [smv, List.mem_cons, List.not_mem_nil, or_false] at hu
  rcases hu with rfl | rfl | rfl | rfl <;> rfl
def z4 : List Value := [.int .i64 0, .int .i64 0, .int .i64 0, .int .i64 0]
theorem run_clear1 (b o c : Nat) (w : World) (ty : TypeId) (hc : ∀ j, j < 4 → (w.cell? ⟨b, o + j, none⟩).isSome = true) (hf : ∀ j, j < 4 → w.frozen? ⟨b, o + j, none⟩ = false) :
    (Builtin.clear_ #[22] ty #[.slice (some ⟨b, o, none⟩) 1 c]).run Try.prog w = .ok (.tuple #[]) (w.setCells b o z4) := by
  have hst := run_storeCells_cells (P := Try.prog) b o z4 0 w (by simpa [z4] using hc) (by simpa [z4] using hf) (by intro u hu; simp [z4] at hu; subst hu; rfl)
  have hz : (zeroValue 33).run Try.prog w = .ok (.agg z4.toArray) w := by kernel_rfl
  have hu := run_underlying Try.underlying22 w
  rw [Nat.add_zero] at hst
  have hzc : (Builtin.zeroCells (Value.cells (.agg z4.toArray)) 1).toList = z4 := by kernel_rfl
  simp [Builtin.clear_, Sem.run_bind, hu, hz, Result.andThen, hzc, hst]
set_option maxRecDepth 100000 in
theorem infoSz : (Try.prog.info? 33).map (fun i => (i.zero, i.size, i.bytes)) = some (some (.agg z4.toArray), 4, 32) := by kernel_rfl
theorem drop_scells (l : List Smp) : (scells l).drop 4 = scells (l.drop 1) := by
  cases l with
  | nil => rfl
  | cons s r => rw [scells_cons]; rfl
/-- The world behind append(s[:0], s[1:]...), in place. -/
theorem run_shift (b off n cap : Nat) (xs : List Smp) (w : World) (ty : TypeId) (hn : 1 ≤ n) (hnc : n ≤ cap) (hl : xs.length = n)
    (hroom : ∀ j, j < cap * 4 → (w.cell? ⟨b, off + j, none⟩).isSome = true ∧ w.frozen? ⟨b, off + j, none⟩ = false) (hx : ∀ j (h : j < (scells xs).length), w.cell? ⟨b, off + j, none⟩ = some (scells xs)[j]) :
    (Builtin.append_ #[22, 22] ty #[.slice (some ⟨b, off, none⟩) 0 cap, .slice (some ⟨b, off + 4, none⟩) (n - 1) (cap - 1)]).run Try.prog w = .ok (.slice (some ⟨b, off, none⟩) (n - 1) cap) (w.setCells b off (scells (xs.drop 1))) := by
  obtain ⟨i0, hi, hz0, hz1, hz2⟩ := info_parts infoSz
  have hd : (scells (xs.drop 1)).length = (n - 1) * 4 := by rw [scells_len, List.length_drop, hl]
  have h := run_append_room_cells (P := Try.prog) w 22 ty 33 i0 Try.underlying22 hi b off 0 cap ⟨b, off + 4, none⟩ (n - 1) (cap - 1) (scells (xs.drop 1)) (by rw [hd, hz1])
    (fun j u hu => by
      rw [Addr.add_lit]
      have e2 : (scells xs)[4 + j]? = some u := by rw [← List.getElem?_drop, drop_scells]; exact hu
      obtain ⟨h3, h4⟩ := List.getElem?_eq_some_iff.1 e2
      have := hx (4 + j) h3
      rw [h4] at this
      rw [show off + 4 + j = off + (4 + j) by omega]
      exact this)
    (scells_one _) (by omega) (fun j hj => by rw [Nat.zero_mul, Nat.add_zero]; exact (hroom j (by omega)).1) (fun j hj => by rw [Nat.zero_mul, Nat.add_zero]; exact (hroom j (by omega)).2)
  rw [Nat.zero_mul, Nat.add_zero, Nat.zero_add] at h
  exact h
theorem slice3 (A : Option Addr) (n c : Nat) (w : World) (h : 1 ≤ n) (hn : n ≤ c) (hc : c ≤ 140737488351232) : (Instr.sliceAt 22 (.slice A n c) (some (.int .i64 0)) (some (.int .i64 1)) (some (.int .i64 (n : Int)))).run Try.prog w = .ok (.slice A 1 n) w := by
  have h1 : (0 : Int) ≤ (n : Int) := by omega
  have h2 : (1 : Int) ≤ (n : Int) := by omega
  have h3 : (n : Int) ≤ (c : Int) := by omega
  have h4 : ¬ n = 0 := by omega
  go_simp
theorem sliceTo0 (A : Option Addr) (n c : Nat) (w : World) : (Instr.sliceAt 22 (.slice A n c) none (some (.int .i64 0)) none).run Try.prog w = .ok (.slice A 0 c) w := by
  have h3 : (0 : Int) ≤ (c : Int) := by omega
  go_simp
theorem sliceFrom1 (b off n c : Nat) (w : World) (h : 2 ≤ n) (hn : n ≤ c) : (Instr.sliceAt 22 (.slice (some ⟨b, off, none⟩) n c) (some (.int .i64 1)) none none).run Try.prog w = .ok (.slice (some ⟨b, off + 4, none⟩) (n - 1) (c - 1)) w := by
  have h1 : (1 : Int) ≤ (n : Int) := by omega
  have h2 : (n : Int) ≤ (c : Int) := by omega
  have h3 : ¬ c = 1 := by omega
  go_simp
theorem sliceTail (b off n c : Nat) (w : World) (h : 2 ≤ n) (hn : n ≤ c) : (Instr.sliceAt 22 (.slice (some ⟨b, off, none⟩) (n - 1) c) (some (.int .i64 ((n - 1 : Nat) : Int))) (some (.int .i64 (n : Int))) none).run Try.prog w = .ok (.slice (some ⟨b, off + (n - 1) * 4, none⟩) 1 (c - (n - 1))) w := by
  have h1 : (0 : Int) ≤ ((n - 1 : Nat) : Int) := by omega
  have h2 : ((n - 1 : Nat) : Int) ≤ (n : Int) := by omega
  have h4 : (n : Int) ≤ (c : Int) := by omega
  have h3 : ¬ c = n - 1 := by omega
  have h5 : n - (n - 1) = 1 := by omega
  go_simp
theorem ow_shift (b off n cap lo : Nat) (xs : List Smp) (w : World) (hn : 1 ≤ n) (h : Ow w lo 33 4 (.slice (some ⟨b, off, none⟩) n cap) n (scells xs)) :
    Ow ((w.setCells b off (scells (xs.drop 1))).setCells b (off + (n - 1) * 4) z4) lo 33 4 (.slice (some ⟨b, off, none⟩) (n - 1) cap) (n - 1) (scells (xs.drop 1)) ∧ w.grownBy ((w.setCells b off (scells (xs.drop 1))).setCells b (off + (n - 1) * 4) z4) (some b) ∧ (∀ j, j < 4 → ((w.setCells b off (scells (xs.drop 1))).cell? ⟨b, off + (n - 1) * 4 + j, none⟩).isSome = true ∧ (w.setCells b off (scells (xs.drop 1))).frozen? ⟨b, off + (n - 1) * 4 + j, none⟩ = false) := by
  have hl : xs.length = n := by have := h.1; rw [scells_len] at this; omega
  have hd : (scells (xs.drop 1)).length = (n - 1) * 4 := by rw [scells_len, List.length_drop, hl]
  obtain ⟨g', off', cap', he, hlo, hlt, hnc, hcm, hroom, hx⟩ := h.open_ (by omega)
  simp only [Value.slice.injEq, Option.some.injEq, Addr.mk.injEq, and_true, true_and] at he
  obtain ⟨⟨rfl, rfl⟩, rfl⟩ := he
  have hz : z4.length = 4 := rfl
  have hsome : ∀ j, j < cap * 4 → ((w.setCells b off (scells (xs.drop 1))).cell? ⟨b, off + j, none⟩).isSome = true := by
    intro j hj
    by_cases hin : j < (scells (xs.drop 1)).length
    · have h := World.cell?_setCells_in b (scells (xs.drop 1)) off w (fun q hq => (hroom q (by omega)).1) j hin
      rw [h]; rfl
    · rw [World.cell?_setCells_out b (scells (xs.drop 1)) off w _ (fun _ _ => by simp only; omega)]
      exact (hroom j hj).1
  refine ⟨⟨hd, .inr (.inr ⟨b, off, cap, rfl, hlo, by rw [setCells_size, setCells_size]; exact hlt, by omega, hcm, fun j hj => ?_, fun j hj => ?_⟩)⟩, grown_trans (setCells_grown b off _ w) (setCells_grown b _ _ _), fun j hj => ⟨by rw [Nat.add_assoc]; exact hsome _ (by omega), by rw [World.frozen?_setCells, Nat.add_assoc]; exact (hroom _ (by omega)).2⟩⟩
  · rw [World.frozen?_setCells, World.frozen?_setCells]
    refine ⟨?_, (hroom j hj).2⟩
    by_cases hin : (n - 1) * 4 ≤ j ∧ j < (n - 1) * 4 + 4
    · have h := World.cell?_setCells_in b z4 (off + (n - 1) * 4) (w.setCells b off (scells (xs.drop 1))) (fun q hq => by rw [Nat.add_assoc]; exact hsome _ (by omega)) (j - (n - 1) * 4) (by omega)
      rw [show off + (n - 1) * 4 + (j - (n - 1) * 4) = off + j by omega] at h
      rw [h]; rfl
    · rw [World.cell?_setCells_out b z4 (off + (n - 1) * 4) _ _ (fun _ _ => by simp only; omega)]
      exact hsome j hj
  · rw [World.cell?_setCells_out b z4 (off + (n - 1) * 4) _ _ (fun _ _ => by simp only; omega)]
    have h := World.cell?_setCells_in b (scells (xs.drop 1)) off w (fun q hq => (hroom q (by omega)).1) j hj
    rw [h]
theorem grown_drew {w w' : World} {row : Option Nat} (h : w.drew.grownBy w' row) : w.grownBy w' row := ⟨h.os, h.tape, h.output, h.size, h.block⟩
set_option maxHeartbeats 1000000 in
set_option maxRecDepth 100000 in
theorem delete1_any (b off n cap lo : Nat) (xs : List Smp) (w : World) (hn : 2 ≤ n) (hc : cap ≤ 9223372036854775807) (h : Ow w lo 33 4 (.slice (some ⟨b, off, none⟩) n cap) n (scells xs)) :
    Calls Try.prog 44 #[.slice (some ⟨b, off, none⟩) n cap, .int .i64 0, .int .i64 1] w fun e w' => e = .returned (.slice (some ⟨b, off, none⟩) (n - 1) cap) ∧ Ow w' lo 33 4 (.slice (some ⟨b, off, none⟩) (n - 1) cap) (n - 1) (scells (xs.drop 1)) ∧ w.grownBy w' (some b) := by
  have hl : xs.length = n := by have := h.1; rw [scells_len] at this; omega
  obtain ⟨g', off', cap', he, hlo, hlt, hnc, hcm, hroom, hx⟩ := h.open_ (by omega)
  simp only [Value.slice.injEq, Option.some.injEq, Addr.mk.injEq, and_true, true_and] at he
  obtain ⟨⟨rfl, rfl⟩, rfl⟩ := he
  have HS := hide (run_shift b off n cap xs w.drew 22 (by omega) hnc hl hroom hx)
  have HO := hide (ow_shift b off n cap lo xs w.drew (by omega) h.drew)
  have h0 : (0 : Int) ≤ (n : Int) := by omega
  have h1 : (1 : Int) ≤ (n : Int) := by omega
  have h2 : (n : Int) ≤ (cap : Int) := by omega
  clear h hroom hx hl
  go_enter Try.func44, Try.ntmps44
  go_wp2_with fail
  refine region_flow (by kernel_rfl) (by kernel_rfl) (Γ := Unit) (fun _ => [.slice (some ⟨b, off, none⟩) n cap, .int .i64 0, .slice (some ⟨b, off, none⟩) 0 cap, .slice (some ⟨b, off, none⟩) n cap, .int .i64 1, .slice (some ⟨b, off + 4, none⟩) (n - 1) (cap - 1), .slice (some ⟨b, off, none⟩) (n - 1) cap, .slice (some ⟨b, off, none⟩) (n - 1) cap])
    (fun l γ W => W = if l 6 = true then w.drew.setCells b off (scells (xs.drop 1)) else w.drew) (fun _ => rfl) () rfl ?step ?fin
  case step =>
    refine ⟨?_, ?_, ?_, ?_, ?_, ?_, ?_, ?_, trivial⟩
    · intro l γ W hG hl hw hcl; exact stepV_value rfl _ rfl (.inr rfl) hG
    · intro l γ W hG hl hw hcl; exact stepV_value rfl _ rfl (.inr rfl) hG
    · intro l γ W hG hl hw hcl; exact stepV_value rfl _ (exec_slice _ _ _ _ _ rfl _ n cap rfl (sliceTo0 _ n cap W)) (.inr rfl) hG
    · intro l γ W hG hl hw hcl; exact stepV_value rfl _ rfl (.inr rfl) hG
    · intro l γ W hG hl hw hcl; exact stepV_value rfl _ rfl (.inr rfl) hG
    · intro l γ W hG hl hw hcl; exact stepV_value rfl _ (exec_slice _ _ _ _ _ rfl _ n cap rfl (sliceFrom1 b off n cap W hn hnc)) (.inr rfl) hG
    · intro l γ W hG hl hw hcl
      rw [show l 6 = false from hl, if_neg (by simp)] at hG
      subst hG
      exact stepV_run rfl _ _ γ (exec_append _ _ _ rfl _ _ rfl rfl HS.out) (SameV.refl _ _ _) (.inr rfl) rfl
    · intro l γ W hG hl hw hcl; exact stepV_value rfl _ rfl (.inr rfl) hG
  case fin =>
    intro l γ W hall hG
    rw [hall 6 (by simp), if_pos rfl] at hG
    subst hG
    have ho := HO.out
    have hcz := fun ty => run_clear1 b (off + (n - 1) * 4) (cap - (n - 1)) (w.drew.setCells b off (scells (xs.drop 1))) ty (fun j hj => (ho.2.2 j hj).1) (fun j hj => (ho.2.2 j hj).2)
    have hst := sliceTail b off n cap (w.drew.setCells b off (scells (xs.drop 1))) hn hnc
    generalize w.drew.setCells b off (scells (xs.drop 1)) = w5 at *
    have HO2 := hide ho
    have HCZ := hide hcz
    clear ho hcz HO HS
    simp only [putAll, Act.put, List.setIfInBounds_toArray, List.set_cons_succ, List.set_cons_zero]
    have h6 : (0 : Int) ≤ ((n - 1 : Nat) : Int) := by omega
    have h7 : ((n - 1 : Nat) : Int) ≤ (n : Int) := by omega
    go_wp2_with (first | refine pause (.slice _ _ _ _ _) rfl ?_ | refine pause (.call { callee := .builtin .clear, args := _, argTypes := _ }) rfl ?_)
    refine unpause ?_
    refine wpList_exec rfl _ (exec_slice _ _ _ _ _ rfl _ _ _ rfl hst) ?_
    go_wp2_with (refine pause (.call { callee := .builtin .clear, args := _, argTypes := _ }) rfl ?_)
    refine unpause ?_
    refine wpList_exec rfl _ (exec_clear _ _ rfl _ rfl (HCZ.out _)) ?_
    go_wp2_with fail
    go_ret
    exact ⟨rfl, HO2.out.1, grown_drew HO2.out.2.1⟩
set_option maxHeartbeats 1000000 in
set_option maxRecDepth 100000 in
theorem cloneS_any (A : Option Addr) (n c : Nat) (xs : List Smp) (w : World) (hr : Rd w w.heap.size 4 A n (scells xs)) (hn : n ≤ 1000) :
    Calls Try.prog 61 #[.slice A n c] w fun e w' => ∃ v, e = .returned v ∧ Ow w' w.heap.size 33 4 v n (scells xs) ∧ Below w.heap.size w w' := by
  obtain ⟨i0, hi0, hz0, hz1, hz2⟩ := info_parts infoSz
  cases A with
  | none =>
    have h0 : n = 0 := by
      rcases Nat.eq_zero_or_pos n with h | h
      · exact h
      · obtain ⟨b, off, h, _⟩ := hr.at_ h
        cases h
    subst h0
    have hx : scells xs = [] := hr.nil'
    have hq := Lib.run_eql_slice_nil (P := Try.prog) (w := w) 22
    go_enter Try.func61, Try.ntmps61
    go_wp2_with fail
    go_ret
    exact ⟨_, rfl, by rw [hx]; exact Ow.nil _ _ _ _, Below.refl _ _⟩
  | some a =>
    have hq := Lib.run_eql_slice_nil (P := Try.prog) (w := w) 22
    go_enter Try.func61, Try.ntmps61
    go_wp2_with (at_builtin; refine wpList_append_ow _ rfl (.tmp 5) (.tmp 6) _ rfl w.heap.size 33 i0 _ 4 32 Try.underlying22 hi0 hz0 hz1 hz2 rfl (by omega) (.slice (some ⟨w.heap.size, 0, none⟩) 0 0) 0 [] rfl (Ow.lit w #[] 0 (Nat.le_refl _) (by simp [maxLen]) rfl) w.heap.size (some a) n c (scells xs) rfl (hr.alloc (Nat.le_refl _) _) (scells_one xs) (by simp only [maxLen]; omega) (by omega) (by simp) ?_; intro v1 w1 hown1 hg1 hat1 hnn1)
    go_ret
    refine ⟨_, rfl, by simpa using hown1, ?_⟩
    exact (((Below.refl _ _).alloc (Nat.le_refl _) _).grown hg1 (by simp) (by simp [Value.ownBlock]))
end Go.Proofs.Ytgidaifoiljgoaa
/- gap.Meet; sweep.Agree. -/
namespace Go.Proofs.Ytgidaifoiljgoaa
open Go.RowKit
set_option linter.unusedVariables false
set_option linter.unusedSimpArgs false
theorem rd_to {w1 W : World} {s n : Nat} {A : Option Addr} {xs : List Value} (hr : Rd w1 w1.heap.size s A n xs) (h : Below w1.heap.size w1 W) : Rd W W.heap.size s A n xs := (hr.below h).more h.size
def gcell (g : Int × Int) : List Value := [.int .i64 g.1, .int .i64 g.2]
def gcells (gs : List (Int × Int)) : List Value := (gs.map gcell).flatten
theorem gcells_len : ∀ gs : List (Int × Int), (gcells gs).length = gs.length * 2
  | [] => rfl
  | g :: r => by
    have := gcells_len r
    unfold gcells at this ⊢
    rw [List.map_cons, List.flatten_cons, List.length_append, this, List.length_cons]
    simp [gcell]; omega
theorem gcells_get : ∀ (gs : List (Int × Int)) (k j : Nat) (g : Int × Int), gs[k]? = some g → j < 2 → (gcells gs)[k * 2 + j]? = (gcell g)[j]?
  | [], k, j, g, h, _ => by simp at h
  | x :: r, 0, j, g, h, hj => by
    simp at h
    subst h
    unfold gcells
    rw [List.map_cons, List.flatten_cons, Nat.zero_mul, Nat.zero_add, List.getElem?_append_left (by simpa [gcell] using hj)]
  | x :: r, k + 1, j, g, h, hj => by
    have ih := gcells_get r k j g (by simpa using h) hj
    unfold gcells at ih ⊢
    rw [List.map_cons, List.flatten_cons, List.getElem?_append_right (by simp [gcell]; omega)]
    rw [show (k + 1) * 2 + j - (gcell x).length = k * 2 + j by simp [gcell]; omega]
    exact ih
/-- One gap of a slice. -/
theorem Rd.gap {w : World} {B n : Nat} {A : Option Addr} {gs : List (Int × Int)} (h : Rd w B 2 A n (gcells gs)) {k : Nat} (hk : k < n) :
    ∃ b off g, A = some ⟨b, off, none⟩ ∧ b < B ∧ gs[k]? = some g ∧ w.cell? ⟨b, off + k * 2, none⟩ = some (.int .i64 g.1) ∧ w.cell? ⟨b, off + k * 2 + 1, none⟩ = some (.int .i64 g.2) := by
  obtain ⟨b, off, e, hb, hc⟩ := h.at_ hk
  have hl := h.1
  rw [gcells_len] at hl
  have hlt : k < gs.length := by omega
  refine ⟨b, off, gs[k], e, hb, List.getElem?_eq_getElem hlt, ?_, ?_⟩
  · have h0 := gcells_get gs k 0 gs[k] (List.getElem?_eq_getElem hlt) (by omega)
    obtain ⟨h1, h2⟩ := List.getElem?_eq_some_iff.1 (h0.trans (show (gcell gs[k])[0]? = some _ from rfl))
    have := hc (k * 2 + 0) h1
    rw [h2] at this
    exact this
  · have h0 := gcells_get gs k 1 gs[k] (List.getElem?_eq_getElem hlt) (by omega)
    obtain ⟨h1, h2⟩ := List.getElem?_eq_some_iff.1 (h0.trans (show (gcell gs[k])[1]? = some _ from rfl))
    have := hc (k * 2 + 1) h1
    rw [h2] at this
    exact this
theorem Rd.lenG {w : World} {B n : Nat} {A : Option Addr} {gs : List (Int × Int)} (h : Rd w B 2 A n (gcells gs)) : gs.length = n := by
  have := h.1
  rw [gcells_len] at this
  omega
def okG (g : Int × Int) : Bool := decide (g.1 ≤ g.2)
def meetL (s : Int × Int) (gs : List (Int × Int)) : Int × Int := gs.foldl (fun a g => (max a.1 g.1, min a.2 g.2)) s
def foldR (s : Int × Int) (gs : List (Int × Int)) : (Int × Int) × Nat := if gs.all okG = false then ((0, 0), 10) else if okG (meetL s gs) = true then (meetL s gs, 0) else ((0, 0), 13)
theorem gv_ret {a b c d : Int} (h : a = c) (h' : b = d) : Ending.returned (.agg #[.int .i64 a, .int .i64 b]) = .returned (.agg #[.int .i64 c, .int .i64 d]) := by rw [h, h']
theorem meetF_any (a b c d : Int) (w : World) : Calls Try.prog 63 #[.agg (gv a b), .agg (gv c d)] w fun e w' => e = .returned (.agg (gv (max a c) (min b d))) ∧ Below w.heap.size w w' := by
  unfold gv
  have hsz : ((w.alloc (.cells #[.int .i64 a, .int .i64 b] 39)).alloc (.cells #[.int .i64 c, .int .i64 d] 39)).heap.size = w.heap.size + 1 + 1 := by simp
  go_enter Try.func63, Try.ntmps63
  go_wp2_with fail
  all_goals
    refine bodyPost_ret_by (results_cell rfl _ (w.heap.size + 1 + 1) rfl (gv _ _) _ (by rw [← hsz]; exact Blk.new _ _ _) Try.underlying39 rfl info100) rfl ⟨?_, (((Below.refl _ _).alloc (Nat.le_refl _) _).alloc (by simp) _).alloc (by simp; omega) _⟩
    exact gv_ret (by omega) (by omega)
set_option maxHeartbeats 1000000 in
set_option maxRecDepth 100000 in
theorem fold_any (s : Int × Int) (A : Option Addr) (n c : Nat) (gs : List (Int × Int)) (w : World) (hr : Rd w w.heap.size 2 A n (gcells gs)) (hn : n ≤ 140737488351232) :
    Calls Try.prog 62 #[.agg (gv s.1 s.2), .slice A n c, .func (.func 63) #[] #[]] w fun e w' => e = .returned (.tuple #[.agg (gv (foldR s gs).1.1 (foldR s gs).1.2), .int .i64 (foldR s gs).2]) ∧ Below w.heap.size w w' := by
  have HN := hide hr.lenG
  obtain ⟨R, hR⟩ : ∃ R, R = foldR s gs := ⟨_, rfl⟩
  rw [← hR]
  have HR := hide hR
  clear hR
  obtain ⟨s1, s2⟩ := s
  have hr0 := hide hr
  have K0 := hide (((Blks.nil w).new 39 (gv s1 s2)).new 39 (gv 0 0))
  rw [World.size_alloc] at K0
  have B0 := hide (show Below w.heap.size w ((w.alloc (.cells (gv s1 s2) 39)).alloc (.cells (gv 0 0) 39)) from ((Below.refl _ _).alloc (Nat.le_refl _) _).alloc (by simp) _)
  clear hr
  go_enter Try.func62, Try.ntmps62
  go_wp2_with fail
  go_loopw [7, 12] (fun e i wr => ∃ (k : Nat) (m1 m2 : Int), k ≤ n ∧ e = .int .i64 0 ∧ i = .int .i64 k ∧ Hid (Blks wr [(w.heap.size + 1, 39, gv 0 0), (w.heap.size, 39, gv m1 m2)]) ∧ Hid (Below w.heap.size w wr) ∧ Hid ((gs.take k).all okG = true ∧ meetL (s1, s2) (gs.take k) = (m1, m2))) (fun _ i _ => n - (intOf i).toNat)
  case atStart => exact ⟨0, s1, s2, Nat.zero_le _, rfl, rfl, K0, B0, hide ⟨rfl, rfl⟩⟩
  case round =>
    clear K0 B0
    obtain ⟨k, m1, m2, hk, rfl, rfl, KR, BR, HM⟩ := hrel
    by_cases hk1 : k < n
    · obtain ⟨b, off, ⟨g1, g2⟩, rfl, hb, hg, hc0, hc1⟩ := hr0.out.gap hk1
      have c0 := (BR.out.cell (p := ⟨b, off + k * 2, none⟩) hb).trans hc0
      have c1 := (BR.out.cell (p := ⟨b, off + k * 2 + 1, none⟩) hb).trans hc1
      have HG := hide hg
      clear hg hc0 hc1
      by_cases hok : g1 ≤ g2
      · have hok2 : decide (g1 ≤ g2) = true := decide_eq_true hok
        have BRs : w.heap.size ≤ wr.heap.size := BR.out.size
        go_wp2_with fail
        refine (gapRight_any g1 g2 _).mono ?_
        rintro e w1 ⟨rfl, hb1⟩
        rw [hok2]
        have K1 := hide ((KR.out.new 39 (gv g1 g2)).next hb1)
        have B1 := hide ((BR.out.alloc BRs (.cells (gv g1 g2) 39)).trans (hb1.mono (by simp; omega)))
        have k9 := K1.out.get 0 rfl
        have k3 := K1.out.get 2 rfl
        have d0 := k9.cell 0
        have d1 := k9.cell 1
        have e0 := k3.cell 0
        have e1 := k3.cell 1
        have f0 := k3.frozen 0
        have f1 := k3.frozen 1
        simp only [gv, List.getElem?_toArray, List.getElem?_cons_zero, List.getElem?_cons_succ] at d0 d1 e0 e1
        clear hb1 k9 k3 c0 c1
        go_wp2_with fail
        refine (meetF_any m1 m2 g1 g2 _).mono ?_
        rintro e w2 ⟨rfl, hb2⟩
        have K2 := hide (K1.out.next hb2)
        have B2 := hide (B1.out.trans (hb2.mono B1.out.size))
        clear hb2 d0 d1 e0 e1 f0 f1
        go_wp2_with (refine pause (.store 39 _ _) rfl ?_)
        refine unpause ?_
        have K3 := hide (show Blks (w2.setRow w.heap.size (gv (max m1 g1) (min m2 g2))) [(w.heap.size + 1, 39, gv 0 0), (w.heap.size, 39, gv (max m1 g1) (min m2 g2))] from (K2.out.row 2 rfl _).tail)
        have B3 := hide (below_setRow B2.out (g := w.heap.size) (Nat.le_refl _) (gv (max m1 g1) (min m2 g2)))
        refine wpList_store_blk rfl 39 (.tmp 3) (.tmp 23) rfl w.heap.size rfl (gv m1 m2) (gv (max m1 g1) (min m2 g2)) rfl (K2.out.get 2 rfl) rfl info100 (gv_one _ _) ?_
        have HM2 := hide (show (gs.take (k + 1)).all okG = true ∧ meetL (s1, s2) (gs.take (k + 1)) = (max m1 g1, min m2 g2) by
          have h := HM.out
          have e : gs.take (k + 1) = gs.take k ++ [(g1, g2)] := by rw [List.take_add_one, HG.out]; rfl
          rw [e, List.all_append, h.1]
          refine ⟨by simp [okG, hok], ?_⟩
          unfold meetL at h ⊢
          rw [List.foldl_append, h.2]
          rfl)
        generalize w2.setRow w.heap.size (gv (max m1 g1) (min m2 g2)) = w3 at *
        clear K1 B1 K2 B2 KR BR HM
        go_wp2_with fail
        go_roundw
        case rel => exact ⟨k + 1, _, _, by omega, rfl, by go_num, K3, B3, HM2⟩
        case measure => simp [intOf]; omega
      · have hok2 : decide (g1 ≤ g2) = false := decide_eq_false hok
        have BRs : w.heap.size ≤ wr.heap.size := BR.out.size
        have HF := hide (show R = ((0, 0), 10) by
          rw [HR.out]
          unfold foldR
          rw [if_pos]
          rw [List.all_eq_false]
          exact ⟨(g1, g2), List.mem_of_getElem? HG.out, by simp [okG, hok]⟩)
        go_wp2_with fail
        refine (gapRight_any g1 g2 _).mono ?_
        rintro e w1 ⟨rfl, hb1⟩
        rw [hok2]
        have K1 := hide ((KR.out.new 39 (gv g1 g2)).next hb1)
        have B1 := hide ((BR.out.alloc BRs (.cells (gv g1 g2) 39)).trans (hb1.mono (by simp; omega)))
        clear hb1 c0 c1
        go_wp2_with (refine pause (.store 39 _ _) rfl ?_)
        refine unpause ?_
        refine wpList_store_blk rfl 39 (.tmp 6) (.tmp 19) rfl (w.heap.size + 1) rfl (gv 0 0) (gv 0 0) rfl (K1.out.get 1 rfl) rfl info100 (gv_one _ _) ?_
        go_wp2_with fail
        refine bodyPost_ret_by (results_cell2 rfl _ (w.heap.size + 1) rfl (gv 0 0) _ ((K1.out.get 1 rfl).setRow _) Try.underlying39 rfl info100) rfl ⟨?_, below_setRow B1.out (by omega) _⟩
        rw [HF.out]
        rfl
    · have hkn : k = n := by omega
      subst hkn
      have hm := HM.out
      rw [show gs.take k = gs from List.take_of_length_le (by have := HN.out; omega)] at hm
      have k3 := KR.out.get 1 rfl
      have e0 := k3.cell 0
      have e1 := k3.cell 1
      simp only [gv, List.getElem?_toArray, List.getElem?_cons_zero, List.getElem?_cons_succ] at e0 e1
      clear k3
      by_cases hok : m1 ≤ m2
      · have hok2 : decide (m1 ≤ m2) = true := decide_eq_true hok
        have HF := hide (show R = ((m1, m2), 0) by
          rw [HR.out]
          unfold foldR
          rw [if_neg (by rw [hm.1]; simp), hm.2, if_pos (by simp [okG, hok])])
        clear hm
        go_wp2_with fail
        refine (gapRight_any m1 m2 _).mono ?_
        rintro e w1 ⟨rfl, hb1⟩
        rw [hok2]
        have K1 := hide (KR.out.next hb1)
        have B1 := hide (BR.out.trans (hb1.mono BR.out.size))
        have k3 := K1.out.get 1 rfl
        have e0 := k3.cell 0
        have e1 := k3.cell 1
        simp only [gv, List.getElem?_toArray, List.getElem?_cons_zero, List.getElem?_cons_succ] at e0 e1
        clear hb1 k3
        go_wp2_with (refine pause (.store 39 _ _) rfl ?_)
        refine unpause ?_
        refine wpList_store_blk rfl 39 (.tmp 6) (.tmp 29) rfl (w.heap.size + 1) rfl (gv 0 0) (gv m1 m2) rfl (K1.out.get 0 rfl) rfl info100 (gv_one _ _) ?_
        go_wp2_with fail
        refine bodyPost_ret_by (results_cell2 rfl _ (w.heap.size + 1) rfl (gv m1 m2) _ ((K1.out.get 0 rfl).setRow _) Try.underlying39 rfl info100) rfl ⟨?_, below_setRow B1.out (by omega) _⟩
        rw [HF.out]
        rfl
      · have hok2 : decide (m1 ≤ m2) = false := decide_eq_false hok
        have HF := hide (show R = ((0, 0), 13) by
          rw [HR.out]
          unfold foldR
          rw [if_neg (by rw [hm.1]; simp), hm.2, if_neg (by simp [okG, hok])])
        clear hm
        go_wp2_with fail
        refine (gapRight_any m1 m2 _).mono ?_
        rintro e w1 ⟨rfl, hb1⟩
        rw [hok2]
        have K1 := hide (KR.out.next hb1)
        have B1 := hide (BR.out.trans (hb1.mono BR.out.size))
        clear hb1 e0 e1
        go_wp2_with (refine pause (.store 39 _ _) rfl ?_)
        refine unpause ?_
        refine wpList_store_blk rfl 39 (.tmp 6) (.tmp 28) rfl (w.heap.size + 1) rfl (gv 0 0) (gv 0 0) rfl (K1.out.get 0 rfl) rfl info100 (gv_one _ _) ?_
        go_wp2_with fail
        refine bodyPost_ret_by (results_cell2 rfl _ (w.heap.size + 1) rfl (gv 0 0) _ ((K1.out.get 0 rfl).setRow _) Try.underlying39 rfl info100) rfl ⟨?_, below_setRow B1.out (by omega) _⟩
        rw [HF.out]
        rfl
def allG : Int × Int := (-9223372036854775808, 9223372036854775807)
def meetR (gs : List (Int × Int)) : (Int × Int) × Nat := foldR allG gs
set_option maxHeartbeats 1000000 in
set_option maxRecDepth 100000 in
theorem meet_any (A : Option Addr) (n c : Nat) (gs : List (Int × Int)) (w : World) (hr : Rd w w.heap.size 2 A n (gcells gs)) (hn : n ≤ 140737488351232) :
    Calls Try.prog 29 #[.slice A n c] w fun e w' => e = .returned (.tuple #[.agg (gv (meetR gs).1.1 (meetR gs).1.2), .int .i64 (meetR gs).2]) ∧ Below w.heap.size w w' := by
  have K0 := hide (((Blks.nil w).new 39 (gv 0 0)).new 39 (gv (-9223372036854775808) 9223372036854775807))
  rw [World.size_alloc] at K0
  have B0 := hide (show Below w.heap.size w ((w.alloc (.cells (gv 0 0) 39)).alloc (.cells (gv (-9223372036854775808) 9223372036854775807) 39)) from ((Below.refl _ _).alloc (Nat.le_refl _) _).alloc (by simp) _)
  have HF := hide (fun w => fold_any allG A n c gs w)
  have HMR : Hid (meetR gs = foldR allG gs) := hide rfl
  rw [← HMR.out] at HF
  have R0 := hide (rd_to hr B0.out)
  generalize meetR gs = R at *
  obtain ⟨⟨m1, m2⟩, er⟩ := R
  clear hr HMR
  go_enter Try.func29, Try.ntmps29
  go_wp2_with fail
  refine (HF.out _ R0.out hn).mono ?_
  rintro e w1 ⟨rfl, hb1⟩
  have K1 := hide (K0.out.next hb1)
  have B1 := hide (B0.out.trans (hb1.mono B0.out.size))
  clear hb1 K0 B0 HF R0
  go_wp2_with (refine pause (.store 39 _ _) rfl ?_)
  refine unpause ?_
  refine wpList_store_blk rfl 39 (.tmp 2) (.tmp 9) rfl w.heap.size rfl (gv 0 0) (gv m1 m2) rfl (K1.out.get 1 rfl) rfl info100 (gv_one _ _) ?_
  go_wp2_with fail
  refine bodyPost_ret_by (results_cell2 rfl _ w.heap.size rfl (gv m1 m2) _ ((K1.out.get 1 rfl).setRow _) Try.underlying39 rfl info100) rfl ⟨rfl, below_setRow B1.out (Nat.le_refl _) _⟩
def agreeB (gs : List (Int × Int)) : Bool := decide (0 < gs.length) && decide ((meetR gs).2 = 0)
set_option maxHeartbeats 1000000 in
set_option maxRecDepth 100000 in
theorem agree_any (A : Option Addr) (n c : Nat) (gs : List (Int × Int)) (w : World) (hr : Rd w w.heap.size 2 A n (gcells gs)) (hn : n ≤ 140737488351232) :
    Calls Try.prog 45 #[.slice A n c] w fun e w' => e = .returned (.bool (agreeB gs)) ∧ Below w.heap.size w w' := by
  have HN := hide hr.lenG
  have HM := hide (fun w => meet_any A n c gs w)
  have HA : Hid (agreeB gs = (decide (0 < gs.length) && decide ((meetR gs).2 = 0))) := hide rfl
  have HR0 := hide hr
  generalize agreeB gs = r at *
  generalize meetR gs = R at *
  obtain ⟨⟨m1, m2⟩, er⟩ := R
  clear hr
  go_enter Try.func45, Try.ntmps45
  go_wp2_with fail
  refine (HM.out _ HR0.out hn).mono ?_
  rintro e w1 ⟨rfl, hb1⟩
  go_wp2_with (refine pause (.store 39 _ _) rfl ?_)
  refine unpause ?_
  have B1 := hide (below_setRow (hb1.alloc hb1.size (.cells #[.int .i64 0, .int .i64 0] 39)) (g := w1.heap.size) hb1.size (gv m1 m2))
  refine wpList_store_blk rfl 39 (.tmp 3) (.tmp 8) rfl w1.heap.size rfl #[.int .i64 0, .int .i64 0] (gv m1 m2) rfl (Blk.new _ _ _) rfl info100 (gv_one _ _) ?_
  generalize (w1.alloc (.cells #[.int .i64 0, .int .i64 0] 39)).setRow w1.heap.size (gv m1 m2) = w2 at *
  have ha := HA.out
  rw [HN.out] at ha
  clear hb1 HM HR0 HN HA
  by_cases h0 : 0 < n
  · have h1 : decide (0 < n) = true := decide_eq_true h0
    have h1' : decide ((0 : Int) < (n : Int)) = true := decide_eq_true (by omega)
    rw [h1, Bool.true_and] at ha
    have HA := hide ha
    clear ha h0
    go_wp2_with fail
    go_ret
    exact ⟨ret_bool (by rw [HA.out]; rw [Bool.eq_iff_iff]; simp), B1.out⟩
  · have h1 : decide (0 < n) = false := decide_eq_false h0
    have h1' : decide ((0 : Int) < (n : Int)) = false := decide_eq_false (by omega)
    rw [h1, Bool.false_and] at ha
    have HA := hide ha
    clear ha h0
    go_wp2_with fail
    go_ret
    exact ⟨ret_bool (by rw [HA.out]), B1.out⟩
end Go.Proofs.Ytgidaifoiljgoaa
/- clock.Clock by its conditions: what it calls, New, At. -/
namespace Go.Proofs.Ytgidaifoiljgoaa
set_option linter.unusedSimpArgs false
set_option linter.unusedVariables false
open Go.RowKit
set_option maxRecDepth 100000
abbrev sR (s : Smp) : List D := [iD s.asked, iD s.got, iD s.sent, iD s.came]
abbrev sA (s : Smp) : AV := .d (.agg (sR s))
theorem right_sat (s : Smp) : Sat Try.prog 25 [sA s] [] (bA (okS s)) [] :=
  .of_calls (by repeat constructor) (by repeat constructor) fun w => right_any s w
theorem isTime_sat (t : Int) : Sat Try.prog 51 [iA t] [] (bA (isT t)) [] :=
  .of_same (by repeat constructor) (by repeat constructor) fun w => isTime_any t w
theorem isRate_sat (t : Int) : Sat Try.prog 42 [iA t] [] (bA (okRate t)) [] :=
  .of_same (by repeat constructor) (by repeat constructor) fun w => isRate_any t w
theorem at_sat (s : Smp) (stamp rho : Int) (h1 : -9223372036854775808 ≤ stamp) (h2 : stamp ≤ 9223372036854775807) : Sat Try.prog 24 [sA s, iA stamp, iA rho] [] (.tup [gA (atR s stamp rho).1, iA (atR s stamp rho).2]) [] :=
  .of_calls (by repeat constructor) (by repeat constructor) fun w => at_any s stamp rho w h1 h2
theorem gapRight_sat (g : Int × Int) : Sat Try.prog 46 [gA g] [] (bA (okG g)) [] :=
  .of_calls (by repeat constructor) (by repeat constructor) fun w => gapRight_any g.1 g.2 w
theorem gR_flat (g : Int × Int) : FlatVs (gR g) (gcell g) := by repeat constructor
theorem sR_flat (s : Smp) : FlatVs (sR s) (smv s).toList := by repeat constructor
theorem meet_sat (gs : List (Int × Int)) (hn : gs.length ≤ 140737488351232) : Sat Try.prog 29 [.d (.sl 2 (gs.map gR))] [] (.tup [gA (meetR gs).1, iA (meetR gs).2]) [] := by
  intro F ρ w vals En hv
  obtain ⟨v, rfl, hv'⟩ := hv.one_out
  cases hv' with | d hv =>
    obtain ⟨A, c, rfl, h1, h2, hr⟩ := hv.sl_rd En.fb (flat_map gR_flat gs)
    rw [List.length_map] at hr ⊢
    refine (meet_any A _ c gs w hr hn).mono ?_
    rintro e w' ⟨rfl, hb⟩
    obtain ⟨S, E'⟩ := step_below En hb
    exact ⟨_, rfl, F, ρ, S, Keep.refl _, E', FlatW.ra (by repeat constructor)⟩
theorem agree_sat (gs : List (Int × Int)) (hn : gs.length ≤ 140737488351232) : Sat Try.prog 45 [.d (.sl 2 (gs.map gR))] [] (bA (agreeB gs)) [] := by
  intro F ρ w vals En hv
  obtain ⟨v, rfl, hv'⟩ := hv.one_out
  cases hv' with | d hv =>
    obtain ⟨A, c, rfl, h1, h2, hr⟩ := hv.sl_rd En.fb (flat_map gR_flat gs)
    rw [List.length_map] at hr ⊢
    refine (agree_any A _ c gs w hr hn).mono ?_
    rintro e w' ⟨rfl, hb⟩
    obtain ⟨S, E'⟩ := step_below En hb
    exact ⟨_, rfl, F, ρ, S, Keep.refl _, E', .d (.v _)⟩
structure CSt where
  rho : Int
  least : Int
  held : Bool
  streak : Int
  list : List Smp
abbrev cR (s : CSt) : AObj := .cells [iA s.rho, iA s.least, bA s.held, iA s.streak, .own 1]
/-- A clock and its samples. -/
abbrev cH (s : CSt) : List AObj := [cR s, .sl 4 (s.list.map sR)]
theorem new_ok (rho least : Int) (h : okRate rho = true) (h1 : 0 ≤ least) (h2 : least ≤ 100) : Sat Try.prog 13 [iA rho, iA least] [] (.tup [.ptr 0 0, iA 0]) (cH ⟨rho, least, false, 0, []⟩) := by
  refine sat_of_vc (T := tiOf Try.prog) (E := E0) Try.func13 rfl rfl hE0 hm0 rfl ?_
  conv => whnf
  repeat (any_goals (first
    | exact True.intro
    | (refine Or.inl ?_; conv => whnf)
    | (refine And.intro (fun _ => ?_) tf; conv => whnf)
    | (refine And.intro ft (fun _ => ?_); conv => whnf)
    | (refine And.intro (by kernel_rfl) ?_; conv => whnf)
    | (refine And.intro (by decide) ?_; conv => whnf)
    | (refine And.intro (fun _ => ?_) (fun h => absurd h (by decide)); conv => whnf)
    | (refine And.intro (fun h => absurd h (by decide)) (fun _ => ?_); conv => whnf)
    | (refine And.intro (fun _ => ?_) (fun _ => ?_) <;> conv => whnf)
    | (refine ⟨_, _, (isRate_sat _).pu rfl rfl, ?_⟩; conv => whnf)))
  all_goals try (exfalso; simp only [decide_eq_true_eq, decide_eq_false_iff_not, Bool.not_eq_true', Bool.not_eq_false', Bool.not_eq_true, Bool.not_eq_false, beq_iff_eq, bne_iff_ne, beq_eq_false_iff_ne, bne_eq_false_iff_eq, ne_eq, Decidable.not_not] at *; first | omega | contradiction | (simp_all; done) | (simp_all; omega))
  all_goals refine ⟨[], ?_⟩
  repeat (any_goals (first | exact True.intro | exact rfl | with_reducible_and_instances rfl | exact (by kernel_rfl) | refine And.intro ?_ ?_))
  all_goals conv => whnf
theorem new_err (rho least : Int) (h : okRate rho = false ∨ least < 0 ∨ 100 < least) : Sat Try.prog 13 [iA rho, iA least] [] (.tup [.d (.v (.pointer none)), iA 11]) [] := by
  refine sat_of_vc (T := tiOf Try.prog) (E := E0) Try.func13 rfl rfl hE0 hm0 rfl ?_
  conv => whnf
  repeat (any_goals (first
    | exact True.intro
    | (refine Or.inl ?_; conv => whnf)
    | (refine And.intro (fun _ => ?_) tf; conv => whnf)
    | (refine And.intro ft (fun _ => ?_); conv => whnf)
    | (refine And.intro (by kernel_rfl) ?_; conv => whnf)
    | (refine And.intro (by decide) ?_; conv => whnf)
    | (refine And.intro (fun _ => ?_) (fun h => absurd h (by decide)); conv => whnf)
    | (refine And.intro (fun h => absurd h (by decide)) (fun _ => ?_); conv => whnf)
    | (refine And.intro (fun _ => ?_) (fun _ => ?_) <;> conv => whnf)
    | (refine ⟨_, _, (isRate_sat _).pu rfl rfl, ?_⟩; conv => whnf)))
  all_goals try (exfalso; simp only [decide_eq_true_eq, decide_eq_false_iff_not, Bool.not_eq_true', Bool.not_eq_false', Bool.not_eq_true, Bool.not_eq_false, beq_iff_eq, bne_iff_ne, beq_eq_false_iff_ne, bne_eq_false_iff_eq, ne_eq, Decidable.not_not] at *; first | omega | contradiction | (simp_all; done) | (simp_all; omega))
  all_goals refine ⟨[], ?_⟩
  repeat (any_goals (first | exact True.intro | exact rfl | with_reducible_and_instances rfl | exact (by kernel_rfl) | refine And.intro ?_ ?_))
  all_goals conv => whnf
theorem held_sat (s : CSt) : Sat Try.prog 27 [.ptr 0 0] (cH s) (bA s.held) (cH s) := by
  refine sat_of_vc (T := tiOf Try.prog) (E := E0) Try.func27 rfl rfl hE0 hm0 rfl ?_
  conv => whnf
  repeat (any_goals (first
    | exact True.intro
    | (refine Or.inl ?_; conv => whnf)
    | (refine And.intro (fun _ => ?_) tf; conv => whnf)
    | (refine And.intro ft (fun _ => ?_); conv => whnf)
    | (refine And.intro (by kernel_rfl) ?_; conv => whnf)
    | (refine And.intro (by decide) ?_; conv => whnf)
    | (refine And.intro (fun _ => ?_) (fun h => absurd h (by decide)); conv => whnf)
    | (refine And.intro (fun h => absurd h (by decide)) (fun _ => ?_); conv => whnf)
    | (refine And.intro (fun _ => ?_) (fun _ => ?_) <;> conv => whnf)))
  all_goals refine ⟨[], ?_⟩
  repeat (any_goals (first | exact True.intro | exact rfl | with_reducible_and_instances rfl | exact (by kernel_rfl) | refine And.intro ?_ ?_))
  all_goals conv => whnf
theorem streak_sat (s : CSt) : Sat Try.prog 26 [.ptr 0 0] (cH s) (iA s.streak) (cH s) := by
  refine sat_of_vc (T := tiOf Try.prog) (E := E0) Try.func26 rfl rfl hE0 hm0 rfl ?_
  conv => whnf
  repeat (any_goals (first
    | exact True.intro
    | (refine Or.inl ?_; conv => whnf)
    | (refine And.intro (fun _ => ?_) tf; conv => whnf)
    | (refine And.intro ft (fun _ => ?_); conv => whnf)
    | (refine And.intro (by kernel_rfl) ?_; conv => whnf)
    | (refine And.intro (by decide) ?_; conv => whnf)
    | (refine And.intro (fun _ => ?_) (fun h => absurd h (by decide)); conv => whnf)
    | (refine And.intro (fun h => absurd h (by decide)) (fun _ => ?_); conv => whnf)
    | (refine And.intro (fun _ => ?_) (fun _ => ?_) <;> conv => whnf)))
  all_goals refine ⟨[], ?_⟩
  repeat (any_goals (first | exact True.intro | exact rfl | with_reducible_and_instances rfl | exact (by kernel_rfl) | refine And.intro ?_ ?_))
  all_goals conv => whnf
end Go.Proofs.Ytgidaifoiljgoaa
/- clock.Clock.At, by its conditions. -/
namespace Go.Proofs.Ytgidaifoiljgoaa
set_option linter.unusedSimpArgs false
set_option linter.unusedVariables false
open Go.RowKit
set_option maxRecDepth 100000
def atC (s : CSt) (stamp : Int) : (Int × Int) × Nat :=
  if s.list = [] then ((0, 0), 19) else if isT stamp = false then ((0, 0), 11) else
    match s.list.find? (fun x => decide ((atR x stamp s.rho).2 ≠ 0)) with
    | some x => ((0, 0), (atR x stamp s.rho).2)
    | none => meetR (s.list.map fun x => (atR x stamp s.rho).1)
theorem clkAt_sat (s : CSt) (stamp : Int) (hn : s.list.length ≤ 8) : Sat Try.prog 19 [.ptr 0 0, iA stamp] (cH s) (.tup [gA (atC s stamp).1, iA (atC s stamp).2]) (cH s) := by
  have hl : (s.list.map sR).length ≤ 8 := by simpa using hn
  refine sat_of_vc (T := tiOf Try.prog) (E := E0) Try.func19 rfl rfl hE0 hm0 rfl ?_
  conv => whnf
  repeat (any_goals (first
    | exact True.intro
    | (refine Or.inl ?_; conv => whnf)
    | (refine And.intro (fun _ => ?_) tf; conv => whnf)
    | (refine And.intro ft (fun _ => ?_); conv => whnf)
    | (refine And.intro (by kernel_rfl) ?_; conv => whnf)
    | (refine And.intro (by decide) ?_; conv => whnf)
    | (refine And.intro (fun _ => ?_) (fun h => absurd h (by decide)); conv => whnf)
    | (refine And.intro (fun h => absurd h (by decide)) (fun _ => ?_); conv => whnf)
    | (refine And.intro (fun _ => ?_) (fun _ => ?_) <;> conv => whnf)
    | (refine ⟨_, _, (isTime_sat _).pu rfl rfl, ?_⟩; conv => whnf)
    | (refine ⟨_, _, mk0 2 16 (by kernel_rfl) (by omega) (by unfold maxLen; omega), ?_⟩; conv => whnf)))
  all_goals try (exfalso; simp only [decide_eq_true_eq, decide_eq_false_iff_not, Bool.not_eq_true', Bool.not_eq_false', Bool.not_eq_true, Bool.not_eq_false, beq_iff_eq, bne_iff_ne, beq_eq_false_iff_ne, bne_eq_false_iff_eq, ne_eq, Decidable.not_not] at *; first | omega | contradiction | (simp_all; done) | (simp_all; omega))
  · have h0 : s.list = [] := by simp_all
    have hr : atC s stamp = ((0, 0), 19) := by unfold atC; rw [if_pos h0]
    rw [hr]
    all_goals refine ⟨[], ?_⟩
    repeat (any_goals (first | exact True.intro | exact rfl | with_reducible_and_instances rfl | exact (by kernel_rfl) | refine And.intro ?_ ?_))
    all_goals conv => whnf
  · have h0 : s.list ≠ [] := by intro e; simp_all
    have hr : atC s stamp = ((0, 0), 11) := by unfold atC; rw [if_neg h0, if_pos (by simp_all)]
    rw [hr]
    all_goals refine ⟨[], ?_⟩
    repeat (any_goals (first | exact True.intro | exact rfl | with_reducible_and_instances rfl | exact (by kernel_rfl) | refine And.intro ?_ ?_))
    all_goals conv => whnf
  · have h0 : s.list ≠ [] := by intro e; simp_all
    have hst : isT stamp = true := by simp_all
    have hst' := of_decide_eq_true hst
    refine ⟨Nat, fun k => k ≤ s.list.length ∧ (s.list.take k).find? (fun x => decide ((atR x stamp s.rho).2 ≠ 0)) = none, fun k => ([(33, iA k), (32, iA (s.list.map sR).length), (31, .own 1), (6, .own 3), (5, iA 0), (4, .ptr 2 0), (0, .ptr 0 0), (1, iA stamp)], [cR s, .sl 4 (s.list.map sR), .cells [iA 0, iA 0], .sl 2 (((s.list.take k).map fun x => (atR x stamp s.rho).1).map gR)]), fun k => s.list.length - k, ⟨0, ⟨Nat.zero_le _, rfl⟩, ?_⟩, ?_⟩
    · all_goals refine ⟨[], ?_⟩
      repeat (any_goals (first | exact True.intro | exact rfl | with_reducible_and_instances rfl | exact (by kernel_rfl) | refine And.intro ?_ ?_))
      all_goals conv => whnf
    · rintro k ⟨hk, hf⟩
      by_cases hlt : k < s.list.length
      · have hx : s.list[k]? = some s.list[k] := List.getElem?_eq_getElem hlt
        repeat (any_goals (first
          | exact True.intro
          | (refine Or.inl ?_; conv => whnf)
          | (refine And.intro (fun _ => ?_) tf; conv => whnf)
          | (refine And.intro ft (fun _ => ?_); conv => whnf)
          | (refine And.intro (by kernel_rfl) ?_; conv => whnf)
          | (refine And.intro (by decide) ?_; conv => whnf)
          | (refine And.intro (fun _ => ?_) (fun h => absurd h (by decide)); conv => whnf)
          | (refine And.intro (fun h => absurd h (by decide)) (fun _ => ?_); conv => whnf)
          | (refine And.intro (fun _ => ?_) (fun h => absurd h (by simpa using hlt)); conv => whnf)
          | (refine ⟨_, rfl, by simpa using hlt, ?_⟩; conv => whnf)
          | (refine ⟨_, map_get hx, ?_⟩; conv => whnf)
          | (refine And.intro (fun _ => ?_) (fun _ => ?_) <;> conv => whnf)
          | (refine ⟨_, _, (at_sat _ _ _ (by omega) (by omega)).pu rfl rfl, ?_⟩; conv => whnf)
          | (refine ⟨_, _, ap 2 16 (by kernel_rfl) rfl rfl (by simp; unfold maxLen; omega), ?_⟩; conv => whnf)))
        all_goals try (exfalso; simp only [decide_eq_true_eq, decide_eq_false_iff_not, Bool.not_eq_true', Bool.not_eq_false', Bool.not_eq_true, Bool.not_eq_false, beq_iff_eq, bne_iff_ne, beq_eq_false_iff_ne, bne_eq_false_iff_eq, ne_eq, Decidable.not_not] at *; first | omega | contradiction | (simp_all; done) | (simp_all; omega))
        · have hr : atC s stamp = ((0, 0), (atR s.list[k] stamp s.rho).2) := by
            unfold atC
            rw [if_neg h0, if_neg (by simp [hst]), find_hit hf hx (by (try simp only [decide_eq_true_eq, decide_eq_false_iff_not, Bool.not_eq_true', Bool.not_eq_false', Bool.not_eq_true, Bool.not_eq_false, beq_iff_eq, bne_iff_ne, beq_eq_false_iff_ne, bne_eq_false_iff_eq, ne_eq, Decidable.not_not, Int.natCast_eq_zero] at *); first | omega | assumption | (simp_all; done) | (simp_all; omega))]
          rw [hr]
          all_goals refine ⟨[], ?_⟩
          repeat (any_goals (first | exact True.intro | exact rfl | with_reducible_and_instances rfl | exact (by kernel_rfl) | refine And.intro ?_ ?_))
          all_goals conv => whnf
        · repeat (any_goals (first
            | exact True.intro
            | (refine Or.inl ?_; conv => whnf)
            | (refine And.intro (fun _ => ?_) tf; conv => whnf)
            | (refine And.intro ft (fun _ => ?_); conv => whnf)
            | (refine And.intro (by kernel_rfl) ?_; conv => whnf)
            | (refine And.intro (by decide) ?_; conv => whnf)
            | (refine And.intro (fun _ => ?_) (fun h => absurd h (by decide)); conv => whnf)
            | (refine And.intro (fun h => absurd h (by decide)) (fun _ => ?_); conv => whnf)
            | (refine And.intro (fun _ => ?_) (fun _ => ?_) <;> conv => whnf)
            | (refine ⟨_, _, ap 2 16 (by kernel_rfl) rfl rfl (by simp; omega), ?_⟩; conv => whnf)))
          refine ⟨k + 1, ⟨hlt, find_next hf hx (by (try simp only [decide_eq_true_eq, decide_eq_false_iff_not, Bool.not_eq_true', Bool.not_eq_false', Bool.not_eq_true, Bool.not_eq_false, beq_iff_eq, bne_iff_ne, beq_eq_false_iff_ne, bne_eq_false_iff_eq, ne_eq, Decidable.not_not, Int.natCast_eq_zero] at *); first | omega | assumption | (simp_all; done) | (simp_all; omega))⟩, ?_, ?_⟩
          · show s.list.length - (k + 1) < s.list.length - k
            omega
          · all_goals refine ⟨[(3, 7)], ?_⟩
            repeat (any_goals (first | exact True.intro | exact rfl | with_reducible_and_instances rfl | exact (by kernel_rfl) | refine And.intro ?_ ?_))
            all_goals conv => whnf
            · exact wk1 (by omega)
            · rw [map_take_succ hx, List.map_append]; rfl
      · repeat (any_goals (first
          | exact True.intro
          | (refine Or.inl ?_; conv => whnf)
          | (refine And.intro (fun _ => ?_) tf; conv => whnf)
          | (refine And.intro ft (fun _ => ?_); conv => whnf)
          | (refine And.intro (by kernel_rfl) ?_; conv => whnf)
          | (refine And.intro (by decide) ?_; conv => whnf)
          | (refine And.intro (fun _ => ?_) (fun h => absurd h (by decide)); conv => whnf)
          | (refine And.intro (fun h => absurd h (by decide)) (fun _ => ?_); conv => whnf)
          | (refine And.intro (fun h => absurd h (by simpa using hlt)) (fun _ => ?_); conv => whnf)
          | (refine And.intro (fun _ => ?_) (fun _ => ?_) <;> conv => whnf)
          | (refine ⟨_, _, lendO (meet_sat _ (by simp; omega)) rfl rfl, ?_⟩; conv => whnf)))
        have hr : atC s stamp = meetR (s.list.map fun x => (atR x stamp s.rho).1) := by
          unfold atC
          rw [List.take_of_length_le (by omega)] at hf
          rw [if_neg h0, if_neg (by simp [hst]), hf]
        rw [hr]
        have hk' : s.list.take k = s.list := List.take_of_length_le (by omega)
        rw [hk']
        all_goals refine ⟨[], ?_⟩
        repeat (any_goals (first | exact True.intro | exact rfl | with_reducible_and_instances rfl | exact (by kernel_rfl) | refine And.intro ?_ ?_))
        all_goals conv => whnf
end Go.Proofs.Ytgidaifoiljgoaa
/- The document's drift: Low and High. -/
namespace Go.Proofs.Ytgidaifoiljgoaa
set_option linter.unusedSimpArgs false
set_option linter.unusedVariables false
open Go.RowKit
set_option maxRecDepth 100000
theorem refRate_sat (r : Int) : Sat Try.prog 43 [iA r] [] (bA (okRate r)) [] := by
  by_cases h : 0 ≤ r ∧ r ≤ 100000
  · rw [show okRate r = true from decide_eq_true h]
    refine sat_of_vc (T := tiOf Try.prog) (E := E0) Try.func43 rfl rfl hE0 hm0 rfl ?_
    conv => whnf
    repeat (any_goals (first
      | exact True.intro
      | (refine Or.inl ?_; conv => whnf)
      | (refine And.intro (fun _ => ?_) tf; conv => whnf)
      | (refine And.intro ft (fun _ => ?_); conv => whnf)
      | (refine And.intro (by kernel_rfl) ?_; conv => whnf)
      | (refine And.intro (by decide) ?_; conv => whnf)
      | (refine And.intro (fun _ => ?_) (fun h => absurd h (by decide)); conv => whnf)
      | (refine And.intro (fun h => absurd h (by decide)) (fun _ => ?_); conv => whnf)
      | (refine And.intro (fun _ => ?_) (fun _ => ?_) <;> conv => whnf)))
    all_goals try (exfalso; simp only [decide_eq_true_eq, decide_eq_false_iff_not, Bool.not_eq_true', Bool.not_eq_false', Bool.not_eq_true, Bool.not_eq_false, beq_iff_eq, bne_iff_ne, beq_eq_false_iff_ne, bne_eq_false_iff_eq, ne_eq, Decidable.not_not] at *; first | omega | contradiction | (simp_all; done) | (simp_all; omega))
    all_goals refine ⟨[], ?_⟩
    repeat (any_goals (first | exact True.intro | exact rfl | with_reducible_and_instances rfl | exact (by kernel_rfl) | refine And.intro ?_ ?_))
    all_goals conv => whnf
    rw [decide_eq_true h.2]
  · rw [show okRate r = false from decide_eq_false h]
    refine sat_of_vc (T := tiOf Try.prog) (E := E0) Try.func43 rfl rfl hE0 hm0 rfl ?_
    conv => whnf
    repeat (any_goals (first
      | exact True.intro
      | (refine Or.inl ?_; conv => whnf)
      | (refine And.intro (fun _ => ?_) tf; conv => whnf)
      | (refine And.intro ft (fun _ => ?_); conv => whnf)
      | (refine And.intro (by kernel_rfl) ?_; conv => whnf)
      | (refine And.intro (by decide) ?_; conv => whnf)
      | (refine And.intro (fun _ => ?_) (fun h => absurd h (by decide)); conv => whnf)
      | (refine And.intro (fun h => absurd h (by decide)) (fun _ => ?_); conv => whnf)
      | (refine And.intro (fun _ => ?_) (fun _ => ?_) <;> conv => whnf)))
    · all_goals refine ⟨[], ?_⟩
      repeat (any_goals (first | exact True.intro | exact rfl | with_reducible_and_instances rfl | exact (by kernel_rfl) | refine And.intro ?_ ?_))
      all_goals conv => whnf
      have := of_decide_eq_true ‹decide (r ≥ 0) = true›
      rw [decide_eq_false (by omega)]
    · all_goals refine ⟨[], ?_⟩
      repeat (any_goals (first | exact True.intro | exact rfl | with_reducible_and_instances rfl | exact (by kernel_rfl) | refine And.intro ?_ ?_))
      all_goals conv => whnf
theorem refFar_sat (x : Int) : Sat Try.prog 95 [iA x] [] (bA (!nearX x)) [] := by
  by_cases h : -4611686018427387904 ≤ x ∧ x ≤ 4611686018427387904
  · rw [show (!nearX x) = false from by rw [show nearX x = true from decide_eq_true h]; rfl]
    refine sat_of_vc (T := tiOf Try.prog) (E := E0) Try.func95 rfl rfl hE0 hm0 rfl ?_
    conv => whnf
    repeat (any_goals (first
      | exact True.intro
      | (refine Or.inl ?_; conv => whnf)
      | (refine And.intro (fun _ => ?_) tf; conv => whnf)
      | (refine And.intro ft (fun _ => ?_); conv => whnf)
      | (refine And.intro (by kernel_rfl) ?_; conv => whnf)
      | (refine And.intro (by decide) ?_; conv => whnf)
      | (refine And.intro (fun _ => ?_) (fun h => absurd h (by decide)); conv => whnf)
      | (refine And.intro (fun h => absurd h (by decide)) (fun _ => ?_); conv => whnf)
      | (refine And.intro (fun _ => ?_) (fun _ => ?_) <;> conv => whnf)))
    all_goals try (exfalso; simp only [decide_eq_true_eq, decide_eq_false_iff_not, Bool.not_eq_true', Bool.not_eq_false', Bool.not_eq_true, Bool.not_eq_false, beq_iff_eq, bne_iff_ne, beq_eq_false_iff_ne, bne_eq_false_iff_eq, ne_eq, Decidable.not_not] at *; first | omega | contradiction | (simp_all; done) | (simp_all; omega))
    all_goals refine ⟨[], ?_⟩
    repeat (any_goals (first | exact True.intro | exact rfl | with_reducible_and_instances rfl | exact (by kernel_rfl) | refine And.intro ?_ ?_))
    all_goals conv => whnf
    try rw [decide_eq_false (by omega)]
  · rw [show (!nearX x) = true from by rw [show nearX x = false from decide_eq_false h]; rfl]
    refine sat_of_vc (T := tiOf Try.prog) (E := E0) Try.func95 rfl rfl hE0 hm0 rfl ?_
    conv => whnf
    repeat (any_goals (first
      | exact True.intro
      | (refine Or.inl ?_; conv => whnf)
      | (refine And.intro (fun _ => ?_) tf; conv => whnf)
      | (refine And.intro ft (fun _ => ?_); conv => whnf)
      | (refine And.intro (by kernel_rfl) ?_; conv => whnf)
      | (refine And.intro (by decide) ?_; conv => whnf)
      | (refine And.intro (fun _ => ?_) (fun h => absurd h (by decide)); conv => whnf)
      | (refine And.intro (fun h => absurd h (by decide)) (fun _ => ?_); conv => whnf)
      | (refine And.intro (fun _ => ?_) (fun _ => ?_) <;> conv => whnf)))
    · all_goals refine ⟨[], ?_⟩
      repeat (any_goals (first | exact True.intro | exact rfl | with_reducible_and_instances rfl | exact (by kernel_rfl) | refine And.intro ?_ ?_))
      all_goals conv => whnf
      have := of_decide_eq_false ‹decide (x < -4611686018427387904) = false›
      rw [decide_eq_true (by omega)]
    · all_goals refine ⟨[], ?_⟩
      repeat (any_goals (first | exact True.intro | exact rfl | with_reducible_and_instances rfl | exact (by kernel_rfl) | refine And.intro ?_ ?_))
      all_goals conv => whnf
theorem ratN_div (a b c : Int) (up : Bool) (ha : 0 ≤ a) (hb : 0 ≤ b) (hc : 0 < c) : (ratN a.toNat b.toNat c.toNat up : Int) = divZ (a * b) c up := by
  obtain ⟨A, rfl⟩ := Int.eq_ofNat_of_zero_le ha
  obtain ⟨B, rfl⟩ := Int.eq_ofNat_of_zero_le hb
  obtain ⟨C, rfl⟩ := Int.eq_ofNat_of_zero_le (Int.le_of_lt hc)
  have hC : 0 < C := by omega
  simp only [Int.toNat_natCast]
  have hu := nat_up (A * B) C hC
  have e : ((A : Int) * (B : Int)) = ((A * B : Nat) : Int) := by push_cast; rfl
  rw [e]
  unfold ratN divZ
  generalize A * B = M at *
  cases up with
  | false => rw [if_neg (fun h => Bool.noConfusion h.1), if_neg (by simp)]; exact Int.natCast_ediv M C
  | true =>
    rw [if_pos rfl, hu]
    by_cases h : 0 < M % C
    · rw [if_pos ⟨rfl, by omega⟩, if_pos h, Int.neg_neg]
    · rw [if_neg (fun q => q.2 (by omega)), if_neg h, Int.neg_neg]
theorem refLow_sat (x r : Int) (hx : nearX x = true) (hr : okRate r = true) : Sat Try.prog 71 [iA x, iA r] [] (.tup [iA (lowZ x r), iA 0]) [] := by
  have lb := lowZ_bounds x r hx hr
  have hx' := of_decide_eq_true hx
  have hr' := of_decide_eq_true hr
  have fa := refFar_sat x
  have ra := refRate_sat r
  rw [hx] at fa
  rw [hr] at ra
  by_cases h0 : 0 < x
  · have e1 : IntKind.i64.wrap (x - 1) = x - 1 := wi (by omega) (by omega)
    have e2 : IntKind.i64.wrap (1000000 + r) = 1000000 + r := wi (by omega) (by omega)
    have hlz : lowZ x r = max 1 (divZ ((x - 1) * 1000000) (1000000 + r) true) := by
      unfold lowZ
      rw [if_pos h0, ← ratN_div (x - 1) 1000000 (1000000 + r) true (by omega) (by omega) (by omega)]; rfl
    have hb2 : -9223372036854775808 ≤ divZ ((x - 1) * 1000000) (1000000 + r) true ∧ divZ ((x - 1) * 1000000) (1000000 + r) true ≤ 9223372036854775807 := by
      have : 0 ≤ divZ ((x - 1) * 1000000) (1000000 + r) true := by rw [← ratN_div (x - 1) 1000000 (1000000 + r) true (by omega) (by omega) (by omega)]; omega
      omega
    have rt := ratio_num (x - 1) 1000000 (1000000 + r) true (by omega) (by omega) (by omega)
    rw [toldZ_in hb2] at rt
    refine sat_of_vc (T := tiOf Try.prog) (E := E0) Try.func71 rfl rfl hE0 hm0 rfl ?_
    conv => whnf
    repeat (any_goals (first
      | exact True.intro
      | (refine Or.inl ?_; conv => whnf)
      | (refine And.intro (fun _ => ?_) tf; conv => whnf)
      | (refine And.intro ft (fun _ => ?_); conv => whnf)
      | (refine And.intro (by kernel_rfl) ?_; conv => whnf)
      | (refine And.intro (by decide) ?_; conv => whnf)
      | (refine And.intro (fun _ => ?_) (fun h => absurd h (by decide)); conv => whnf)
      | (refine And.intro (fun h => absurd h (by decide)) (fun _ => ?_); conv => whnf)
      | (rw [e1, e2]; conv => whnf)
      | (refine And.intro (fun _ => ?_) (fun _ => ?_) <;> conv => whnf)
      | (refine ⟨_, _, fa.pu rfl rfl, ?_⟩; conv => whnf)
      | (refine ⟨_, _, ra.pu rfl rfl, ?_⟩; conv => whnf)
      | (refine ⟨_, _, rt.pu rfl rfl, ?_⟩; conv => whnf)))
    all_goals try (exfalso; simp only [decide_eq_true_eq, decide_eq_false_iff_not, Bool.not_eq_true', Bool.not_eq_false', Bool.not_eq_true, Bool.not_eq_false, beq_iff_eq, bne_iff_ne, beq_eq_false_iff_ne, bne_eq_false_iff_eq, ne_eq, Decidable.not_not] at *; first | omega | contradiction | (simp_all; done) | (simp_all; omega))
    all_goals refine ⟨[], ?_⟩
    repeat (any_goals (first | exact True.intro | exact rfl | with_reducible_and_instances rfl | exact (by kernel_rfl) | refine And.intro ?_ ?_))
    all_goals conv => whnf
    refine congrArg iA ?_
    rw [hlz]
    split <;> omega
  · have e1 : IntKind.i64.wrap (1 - x) = 1 - x := wi (by omega) (by omega)
    have e2 : IntKind.i64.wrap (1000000 - r) = 1000000 - r := wi (by omega) (by omega)
    have hlz : lowZ x r = -(divZ ((1 - x) * 1000000) (1000000 - r) false) := by
      unfold lowZ
      rw [if_neg h0, ← ratN_div (1 - x) 1000000 (1000000 - r) false (by omega) (by omega) (by omega)]; rfl
    have rt := ratio_num (1 - x) 1000000 (1000000 - r) false (by omega) (by omega) (by omega)
    rw [toldZ_in (by omega)] at rt
    refine sat_of_vc (T := tiOf Try.prog) (E := E0) Try.func71 rfl rfl hE0 hm0 rfl ?_
    conv => whnf
    repeat (any_goals (first
      | exact True.intro
      | (refine Or.inl ?_; conv => whnf)
      | (refine And.intro (fun _ => ?_) tf; conv => whnf)
      | (refine And.intro ft (fun _ => ?_); conv => whnf)
      | (refine And.intro (by kernel_rfl) ?_; conv => whnf)
      | (refine And.intro (by decide) ?_; conv => whnf)
      | (refine And.intro (fun _ => ?_) (fun h => absurd h (by decide)); conv => whnf)
      | (refine And.intro (fun h => absurd h (by decide)) (fun _ => ?_); conv => whnf)
      | (rw [e1, e2]; conv => whnf)
      | (refine And.intro (fun _ => ?_) (fun _ => ?_) <;> conv => whnf)
      | (refine ⟨_, _, fa.pu rfl rfl, ?_⟩; conv => whnf)
      | (refine ⟨_, _, ra.pu rfl rfl, ?_⟩; conv => whnf)
      | (refine ⟨_, _, rt.pu rfl rfl, ?_⟩; conv => whnf)))
    all_goals try (exfalso; simp only [decide_eq_true_eq, decide_eq_false_iff_not, Bool.not_eq_true', Bool.not_eq_false', Bool.not_eq_true, Bool.not_eq_false, beq_iff_eq, bne_iff_ne, beq_eq_false_iff_ne, bne_eq_false_iff_eq, ne_eq, Decidable.not_not] at *; first | omega | contradiction | (simp_all; done) | (simp_all; omega))
    all_goals refine ⟨[], ?_⟩
    repeat (any_goals (first | exact True.intro | exact rfl | with_reducible_and_instances rfl | exact (by kernel_rfl) | refine And.intro ?_ ?_))
    all_goals conv => whnf
    refine congrArg iA ?_
    rw [hlz, wi (by omega) (by omega)]
    omega
theorem refHigh_sat (x r : Int) (hx : nearX x = true) (hr : okRate r = true) : Sat Try.prog 72 [iA x, iA r] [] (.tup [iA (highZ x r), iA 0]) [] := by
  have hx' := of_decide_eq_true hx
  have hx2 : nearX (-x) = true := decide_eq_true (by omega)
  have e1 : IntKind.i64.wrap (0 - x) = -x := by rw [wi (by omega) (by omega)]; omega
  have lb := lowZ_bounds (-x) r hx2 hr
  have fa := refFar_sat x
  have lo := refLow_sat (-x) r hx2 hr
  rw [hx] at fa
  refine sat_of_vc (T := tiOf Try.prog) (E := E0) Try.func72 rfl rfl hE0 hm0 rfl ?_
  conv => whnf
  repeat (any_goals (first
    | exact True.intro
    | (refine Or.inl ?_; conv => whnf)
    | (refine And.intro (fun _ => ?_) tf; conv => whnf)
    | (refine And.intro ft (fun _ => ?_); conv => whnf)
    | (refine And.intro (by kernel_rfl) ?_; conv => whnf)
    | (refine And.intro (by decide) ?_; conv => whnf)
    | (refine And.intro (fun _ => ?_) (fun h => absurd h (by decide)); conv => whnf)
    | (refine And.intro (fun h => absurd h (by decide)) (fun _ => ?_); conv => whnf)
    | (rw [e1]; conv => whnf)
    | (refine And.intro (fun _ => ?_) (fun _ => ?_) <;> conv => whnf)
    | (refine ⟨_, _, fa.pu rfl rfl, ?_⟩; conv => whnf)
    | (refine ⟨_, _, lo.pu rfl rfl, ?_⟩; conv => whnf)))
  all_goals try (exfalso; simp only [decide_eq_true_eq, decide_eq_false_iff_not, Bool.not_eq_true', Bool.not_eq_false', Bool.not_eq_true, Bool.not_eq_false, beq_iff_eq, bne_iff_ne, beq_eq_false_iff_ne, bne_eq_false_iff_eq, ne_eq, Decidable.not_not] at *; first | omega | contradiction | (simp_all; done) | (simp_all; omega))
  all_goals refine ⟨[], ?_⟩
  repeat (any_goals (first | exact True.intro | exact rfl | with_reducible_and_instances rfl | exact (by kernel_rfl) | refine And.intro ?_ ?_))
  all_goals conv => whnf
  refine congrArg iA ?_
  unfold highZ
  rw [wi (by omega) (by omega)]
  omega
end Go.Proofs.Ytgidaifoiljgoaa
/- clock.Clock.Add, by its conditions. -/
namespace Go.Proofs.Ytgidaifoiljgoaa
set_option linter.unusedSimpArgs false
set_option linter.unusedVariables false
open Go.RowKit
set_option maxRecDepth 100000
def gapOf (x : Smp) (stamp rho : Int) : Int × Int := if (atR x stamp rho).2 = 0 then (atR x stamp rho).1 else (1, 0)
def keepC (l : List Smp) : List Smp := if 8 < l.length then l.drop 1 else l
def addC (s : CSt) (x : Smp) : CSt × Nat :=
  if okS x = false then (s, 10) else
    let l := keepC (s.list ++ [x])
    if agreeB (l.map fun o => gapOf o x.sent s.rho) = true then
      let k := if s.streak < 9223372036854775807 then s.streak + 1 else s.streak
      (⟨s.rho, s.least, if s.least ≤ k then false else s.held, k, l⟩, 0)
    else (⟨s.rho, s.least, true, 0, if okG (gapOf x x.sent s.rho) = true then [x] else []⟩, 21)
theorem keep_pos (l : List Smp) (x : Smp) : 0 < (keepC (l ++ [x])).length := by unfold keepC; split <;> simp at * <;> omega
theorem keep_last (l : List Smp) (x : Smp) : (keepC (l ++ [x]))[(keepC (l ++ [x])).length - 1]? = some x := by
  unfold keepC
  split
  · rw [List.getElem?_drop, List.length_drop, List.length_append, List.length_singleton]
    simp at *
    rw [List.getElem?_append_right (by omega), show 1 + (l.length - 1) - l.length = 0 by omega]; rfl
  · rw [List.length_append, List.length_singleton, Nat.add_sub_cancel, List.getElem?_append_right (Nat.le_refl _), Nat.sub_self]; rfl
theorem delete1_sat (l : List Smp) (hn : 2 ≤ l.length) : Sat Try.prog 44 [.own 0, iA 0, iA 1] [.sl 4 (l.map sR)] (.own 1) [.dead, .sl 4 ((l.drop 1).map sR)] := by
  intro F ρ w vals En hv
  cases hv with | cons h0 hv =>
  cases h0 with | own h0 =>
  rename_i A n c
  cases hv with | cons h1 hv =>
  cases hv with | cons h2 hv =>
  cases hv with | nil =>
  obtain rfl := h1.v_out
  obtain rfl := h2.v_out
  obtain ⟨hh, e1, ⟨vs, how, hra, hs⟩, e3⟩ := En.rep 0 _ rfl rfl
  rw [h0] at e1; injection e1 with e1; subst e1
  obtain rfl := (flat_map sR_flat l).eq hra
  obtain ⟨g, off, cap, he, hlo, hlt, hnc, hcm, hroom, hx⟩ := how.open_ (by simp; omega)
  injection he with q1 q2 q3
  subst q1 q2 q3
  rw [List.length_map] at how ⊢
  refine (delete1_any g off l.length c 0 l w hn (by unfold maxLen at hcm; omega) how).mono ?_
  rintro e w' ⟨rfl, hw, hG⟩
  have hnone : hp [AObj.sl 4 (l.map sR)] 1 = none := rfl
  obtain ⟨S, K, E⟩ := En.swap (n := 1) (o' := .sl 4 ((l.drop 1).map sR)) (h' := .slice (some ⟨g, off, none⟩) (l.length - 1) c) (i := 0) rfl rfl h0 hnone hG (fun b hb => .inr hb) ⟨_, by rw [List.length_map, List.length_drop]; exact hw, (flat_map sR_flat (l.drop 1)).rds, fun r hr => by
    obtain ⟨x, _, rfl⟩ := List.mem_map.1 hr; rfl⟩
  have e : updF (updF (hp [AObj.sl 4 (l.map sR)]) 0 (some .dead)) 1 (some (.sl 4 ((l.drop 1).map sR))) = hp [.dead, .sl 4 ((l.drop 1).map sR)] := by
    funext i
    match i with
    | 0 => rfl
    | 1 => rfl
    | i + 2 => rfl
  rw [e] at S E
  exact ⟨_, rfl, F, _, S, K, E, .own (updF_same _ _ _)⟩
abbrev cH2 (s : CSt) : List AObj := [.cells [iA s.rho, iA s.least, bA s.held, iA s.streak, .own 2], .dead, .sl 4 (s.list.map sR)]
theorem add_sat (s : CSt) (x : Smp) (hn : s.list.length ≤ 8) (hs : -9223372036854775808 ≤ s.streak) : Sat Try.prog 15 [.ptr 0 0, sA x] (cH s) (iA (addC s x).2) (cH2 (addC s x).1) := by
  have hl : (s.list.map sR).length ≤ 8 := by simpa using hn
  refine sat_of_vc (T := tiOf Try.prog) (E := E0) Try.func15 rfl rfl hE0 hm0 rfl ?_
  conv => whnf
  repeat (any_goals (first
    | exact True.intro
    | (refine And.intro (fun _ => ?_) tf; conv => whnf)
    | (refine And.intro ft (fun _ => ?_); conv => whnf)
    | (refine And.intro (by kernel_rfl) ?_; conv => whnf)
    | (refine And.intro (by decide) ?_; conv => whnf)
    | (refine And.intro (fun _ => ?_) (fun h => absurd h (by decide)); conv => whnf)
    | (refine And.intro (fun h => absurd h (by decide)) (fun _ => ?_); conv => whnf)
    | (refine And.intro (fun _ => ?_) (fun _ => ?_) <;> conv => whnf)))
  all_goals try (refine Or.inl ?_; conv => whnf)
  repeat (any_goals (first
    | exact True.intro
    | (refine And.intro (fun _ => ?_) tf; conv => whnf)
    | (refine And.intro ft (fun _ => ?_); conv => whnf)
    | (refine And.intro (by kernel_rfl) ?_; conv => whnf)
    | (refine And.intro (by decide) ?_; conv => whnf)
    | (refine And.intro (fun _ => ?_) (fun h => absurd h (by decide)); conv => whnf)
    | (refine And.intro (fun h => absurd h (by decide)) (fun _ => ?_); conv => whnf)
    | (refine And.intro (fun _ => ?_) (fun _ => ?_) <;> conv => whnf)
    | (refine ⟨_, _, (right_sat _).pu rfl rfl, ?_⟩; conv => whnf)
    | (refine ⟨_, _, ap 4 32 (by kernel_rfl) rfl rfl (by simp; omega), ?_⟩; conv => whnf)))
  · have h0 : okS x = false := (by (try simp only [decide_eq_true_eq, decide_eq_false_iff_not, Bool.not_eq_true', Bool.not_eq_false', Bool.not_eq_true, Bool.not_eq_false, beq_iff_eq, bne_iff_ne, beq_eq_false_iff_ne, bne_eq_false_iff_eq, ne_eq, Decidable.not_not, Int.natCast_eq_zero] at *); first | omega | assumption | (simp_all; done) | (simp_all; omega))
    have hr : addC s x = (s, 10) := by unfold addC; rw [if_pos h0]
    rw [hr]
    all_goals refine ⟨[(1, 3), (2, 3)], ?_⟩
    repeat (any_goals (first | exact True.intro | exact rfl | with_reducible_and_instances rfl | exact (by kernel_rfl) | refine And.intro ?_ ?_))
    all_goals conv => whnf
  have h0 : okS x = true := (by (try simp only [decide_eq_true_eq, decide_eq_false_iff_not, Bool.not_eq_true', Bool.not_eq_false', Bool.not_eq_true, Bool.not_eq_false, beq_iff_eq, bne_iff_ne, beq_eq_false_iff_ne, bne_eq_false_iff_eq, ne_eq, Decidable.not_not, Int.natCast_eq_zero] at *); first | omega | assumption | (simp_all; done) | (simp_all; omega))
  have hT : 0 ≤ x.sent ∧ x.sent ≤ 4611686018427387903 := by simp [okS, isT] at h0; omega
  have hll : (keepC (s.list ++ [x])).length ≤ 8 := by unfold keepC; split <;> simp at * <;> omega
  refine Or.inr ⟨Unit, fun _ => True, fun _ => ([(0, .ptr 0 0), (3, .ptr 2 0)], [.cells [iA s.rho, iA s.least, bA s.held, iA s.streak, .own 3], .dead, .cells [iA x.asked, iA x.got, iA x.sent, iA x.came], .sl 4 ((keepC (s.list ++ [x])).map sR)]), ?_, fun _ _ => ?_⟩
  · conv => whnf
    repeat (any_goals (first
      | exact True.intro
      | (refine And.intro (fun _ => ?_) tf; conv => whnf)
      | (refine And.intro ft (fun _ => ?_); conv => whnf)
      | (refine And.intro (by kernel_rfl) ?_; conv => whnf)
      | (refine And.intro (by decide) ?_; conv => whnf)
      | (refine And.intro (fun _ => ?_) (fun h => absurd h (by decide)); conv => whnf)
      | (refine And.intro (fun h => absurd h (by decide)) (fun _ => ?_); conv => whnf)
      | (refine And.intro (fun _ => ?_) (fun _ => ?_) <;> conv => whnf)
      | (refine ⟨_, _, (delete1_sat (s.list ++ [x]) (by (try simp only [decide_eq_true_eq, decide_eq_false_iff_not, Bool.not_eq_true', Bool.not_eq_false', Bool.not_eq_true, Bool.not_eq_false, beq_iff_eq, bne_iff_ne, beq_eq_false_iff_ne, bne_eq_false_iff_eq, ne_eq, Decidable.not_not, Int.natCast_eq_zero] at *); first | omega | assumption | (simp_all; done) | (simp_all; omega))).at1 4 rfl rfl (by rw [List.map_append]; rfl), ?_⟩; conv => whnf)))
    · have hk : keepC (s.list ++ [x]) = (s.list ++ [x]).drop 1 := by unfold keepC; rw [if_pos (by simp at *; omega)]
      refine ⟨(), trivial, ?_⟩
      rw [hk]
      all_goals refine ⟨[(3, 5)], ?_⟩
      repeat (any_goals (first | exact True.intro | exact rfl | with_reducible_and_instances rfl | exact (by kernel_rfl) | refine And.intro ?_ ?_))
      all_goals conv => whnf
    · have hk : keepC (s.list ++ [x]) = s.list ++ [x] := by unfold keepC; rw [if_neg (by simp at *; omega)]
      refine ⟨(), trivial, ?_⟩
      rw [hk, List.map_append]
      all_goals refine ⟨[(3, 4)], ?_⟩
      repeat (any_goals (first | exact True.intro | exact rfl | with_reducible_and_instances rfl | exact (by kernel_rfl) | refine And.intro ?_ ?_))
      all_goals conv => whnf
  · generalize hkl : keepC (s.list ++ [x]) = l at *
    have hl' : (l.map sR).length ≤ 8 := by simpa using hll
    conv => whnf
    repeat (any_goals (first
      | exact True.intro
      | (refine And.intro (fun _ => ?_) tf; conv => whnf)
      | (refine And.intro ft (fun _ => ?_); conv => whnf)
      | (refine And.intro (by kernel_rfl) ?_; conv => whnf)
      | (refine And.intro (by decide) ?_; conv => whnf)
      | (refine And.intro (fun _ => ?_) (fun h => absurd h (by decide)); conv => whnf)
      | (refine And.intro (fun h => absurd h (by decide)) (fun _ => ?_); conv => whnf)
      | (refine And.intro (fun _ => ?_) (fun _ => ?_) <;> conv => whnf)
      | (refine ⟨_, _, mk0 2 16 (by kernel_rfl) (by omega) (by unfold maxLen; omega), ?_⟩; conv => whnf)))
    all_goals try (refine Or.inl ?_; conv => whnf)
    repeat (any_goals (first
      | exact True.intro
      | (refine And.intro (fun _ => ?_) tf; conv => whnf)
      | (refine And.intro ft (fun _ => ?_); conv => whnf)
      | (refine And.intro (by kernel_rfl) ?_; conv => whnf)
      | (refine And.intro (by decide) ?_; conv => whnf)
      | (refine And.intro (fun _ => ?_) (fun h => absurd h (by decide)); conv => whnf)
      | (refine And.intro (fun h => absurd h (by decide)) (fun _ => ?_); conv => whnf)
      | (refine And.intro (fun _ => ?_) (fun _ => ?_) <;> conv => whnf)))
    refine ⟨Nat, fun k => k ≤ l.length, fun k => ([(48, iA k), (47, iA (l.map sR).length), (46, .own 3), (5, .own 4), (0, .ptr 0 0), (3, .ptr 2 0)], [.cells [iA s.rho, iA s.least, bA s.held, iA s.streak, .own 3], .dead, .cells [iA x.asked, iA x.got, iA x.sent, iA x.came], .sl 4 (l.map sR), .sl 2 (((l.take k).map fun o => gapOf o x.sent s.rho).map gR)]), fun k => l.length - k, ⟨0, Nat.zero_le _, ?_⟩, ?_⟩
    · all_goals refine ⟨[], ?_⟩
      repeat (any_goals (first | exact True.intro | exact rfl | with_reducible_and_instances rfl | exact (by kernel_rfl) | refine And.intro ?_ ?_))
      all_goals conv => whnf
    rintro k hk
    by_cases hlt : k < l.length
    · conv => whnf
      have hx : l[k]? = some l[k] := List.getElem?_eq_getElem hlt
      repeat (any_goals (first
        | exact True.intro
        | (refine And.intro (fun _ => ?_) tf; conv => whnf)
        | (refine And.intro ft (fun _ => ?_); conv => whnf)
        | (refine And.intro (by kernel_rfl) ?_; conv => whnf)
        | (refine And.intro (by decide) ?_; conv => whnf)
        | (refine And.intro (fun _ => ?_) (fun h => absurd h (by decide)); conv => whnf)
        | (refine And.intro (fun h => absurd h (by decide)) (fun _ => ?_); conv => whnf)
        | (refine And.intro (fun _ => ?_) (fun h => absurd h (by simpa using hlt)); conv => whnf)
        | (refine And.intro (fun _ => ?_) (fun _ => ?_) <;> conv => whnf)))
      all_goals try (refine Or.inl ?_; conv => whnf)
      repeat (any_goals (first
        | exact True.intro
        | (refine And.intro (fun _ => ?_) tf; conv => whnf)
        | (refine And.intro ft (fun _ => ?_); conv => whnf)
        | (refine And.intro (by kernel_rfl) ?_; conv => whnf)
        | (refine And.intro (by decide) ?_; conv => whnf)
        | (refine And.intro (fun _ => ?_) (fun h => absurd h (by decide)); conv => whnf)
        | (refine And.intro (fun h => absurd h (by decide)) (fun _ => ?_); conv => whnf)
        | (refine And.intro (fun _ => ?_) (fun _ => ?_) <;> conv => whnf)))
      all_goals try (exfalso; simp only [decide_eq_true_eq, decide_eq_false_iff_not, Bool.not_eq_true', Bool.not_eq_false', Bool.not_eq_true, Bool.not_eq_false, beq_iff_eq, bne_iff_ne, beq_eq_false_iff_ne, bne_eq_false_iff_eq, ne_eq, Decidable.not_not] at *; first | omega | contradiction | (simp_all; done) | (simp_all; omega))
      all_goals try (refine Or.inl ?_; conv => whnf)
      repeat (any_goals (first
        | exact True.intro
        | (refine And.intro (fun _ => ?_) tf; conv => whnf)
        | (refine And.intro ft (fun _ => ?_); conv => whnf)
        | (refine And.intro (by kernel_rfl) ?_; conv => whnf)
        | (refine And.intro (by decide) ?_; conv => whnf)
        | (refine And.intro (fun _ => ?_) (fun h => absurd h (by decide)); conv => whnf)
        | (refine And.intro (fun h => absurd h (by decide)) (fun _ => ?_); conv => whnf)
        | (refine ⟨_, rfl, by simpa using hlt, ?_⟩; conv => whnf)
        | (refine ⟨_, map_get hx, ?_⟩; conv => whnf)
        | (refine And.intro (fun _ => ?_) (fun _ => ?_) <;> conv => whnf)
        | (refine ⟨_, _, (at_sat _ _ _ (by omega) (by omega)).pu rfl rfl, ?_⟩; conv => whnf)))
      refine Or.inr ⟨Unit, fun _ => True, fun _ => ([(48, iA k), (47, iA (l.map sR).length), (46, .own 3), (5, .own 4), (8, .ptr 6 0), (0, .ptr 0 0), (3, .ptr 2 0)], [.cells [iA s.rho, iA s.least, bA s.held, iA s.streak, .own 3], .dead, .cells [iA x.asked, iA x.got, iA x.sent, iA x.came], .sl 4 (l.map sR), .sl 2 (((l.take k).map fun o => gapOf o x.sent s.rho).map gR), .dead, .cells [iA (gapOf l[k] x.sent s.rho).1, iA (gapOf l[k] x.sent s.rho).2]]), ?_, fun _ _ => ?_⟩
      · conv => whnf
        repeat (any_goals (first
          | exact True.intro
          | (refine And.intro (fun _ => ?_) tf; conv => whnf)
          | (refine And.intro ft (fun _ => ?_); conv => whnf)
          | (refine And.intro (by kernel_rfl) ?_; conv => whnf)
          | (refine And.intro (by decide) ?_; conv => whnf)
          | (refine And.intro (fun _ => ?_) (fun h => absurd h (by decide)); conv => whnf)
          | (refine And.intro (fun h => absurd h (by decide)) (fun _ => ?_); conv => whnf)
          | (refine And.intro (fun _ => ?_) (fun _ => ?_) <;> conv => whnf)))
        · have hg : gapOf l[k] x.sent s.rho = (1, 0) := by unfold gapOf; rw [if_neg (by (try simp only [decide_eq_true_eq, decide_eq_false_iff_not, Bool.not_eq_true', Bool.not_eq_false', Bool.not_eq_true, Bool.not_eq_false, beq_iff_eq, bne_iff_ne, beq_eq_false_iff_ne, bne_eq_false_iff_eq, ne_eq, Decidable.not_not, Int.natCast_eq_zero] at *); first | omega | assumption | (simp_all; done) | (simp_all; omega))]
          refine ⟨(), trivial, ?_⟩
          rw [hg]
          all_goals refine ⟨[], ?_⟩
          repeat (any_goals (first | exact True.intro | exact rfl | with_reducible_and_instances rfl | exact (by kernel_rfl) | refine And.intro ?_ ?_))
          all_goals conv => whnf
        · have hg : gapOf l[k] x.sent s.rho = (atR l[k] x.sent s.rho).1 := by unfold gapOf; rw [if_pos (by (try simp only [decide_eq_true_eq, decide_eq_false_iff_not, Bool.not_eq_true', Bool.not_eq_false', Bool.not_eq_true, Bool.not_eq_false, beq_iff_eq, bne_iff_ne, beq_eq_false_iff_ne, bne_eq_false_iff_eq, ne_eq, Decidable.not_not, Int.natCast_eq_zero] at *); first | omega | assumption | (simp_all; done) | (simp_all; omega))]
          refine ⟨(), trivial, ?_⟩
          rw [hg]
          all_goals refine ⟨[], ?_⟩
          repeat (any_goals (first | exact True.intro | exact rfl | with_reducible_and_instances rfl | exact (by kernel_rfl) | refine And.intro ?_ ?_))
          all_goals conv => whnf
      · conv => whnf
        repeat (any_goals (first
          | exact True.intro
          | (refine And.intro (fun _ => ?_) tf; conv => whnf)
          | (refine And.intro ft (fun _ => ?_); conv => whnf)
          | (refine And.intro (by kernel_rfl) ?_; conv => whnf)
          | (refine And.intro (by decide) ?_; conv => whnf)
          | (refine And.intro (fun _ => ?_) (fun h => absurd h (by decide)); conv => whnf)
          | (refine And.intro (fun h => absurd h (by decide)) (fun _ => ?_); conv => whnf)
          | (refine And.intro (fun _ => ?_) (fun _ => ?_) <;> conv => whnf)
          | (refine ⟨_, _, ap 2 16 (by kernel_rfl) rfl rfl (by simp; omega), ?_⟩; conv => whnf)))
        refine ⟨k + 1, hlt, show l.length - (k + 1) < l.length - k by omega, ?_⟩
        all_goals refine ⟨[(4, 8)], ?_⟩
        repeat (any_goals (first | exact True.intro | exact rfl | with_reducible_and_instances rfl | exact (by kernel_rfl) | refine And.intro ?_ ?_))
        all_goals conv => whnf
        · exact wk1 (by omega)
        · rw [map_take_succ hx, List.map_append]; rfl
    · have hkk : k = l.length := by omega
      subst hkk
      conv => whnf
      repeat (any_goals (first
        | exact True.intro
        | (refine And.intro (fun _ => ?_) tf; conv => whnf)
        | (refine And.intro ft (fun _ => ?_); conv => whnf)
        | (refine And.intro (by kernel_rfl) ?_; conv => whnf)
        | (refine And.intro (by decide) ?_; conv => whnf)
        | (refine And.intro (fun _ => ?_) (fun h => absurd h (by decide)); conv => whnf)
        | (refine And.intro (fun h => absurd h (by decide)) (fun _ => ?_); conv => whnf)
        | (refine And.intro (fun h => absurd h (by simpa using hlt)) (fun _ => ?_); conv => whnf)
        | (refine And.intro (fun _ => ?_) (fun _ => ?_) <;> conv => whnf)))
      all_goals try (refine Or.inl ?_; conv => whnf)
      repeat (any_goals (first
        | exact True.intro
        | (refine And.intro (fun _ => ?_) tf; conv => whnf)
        | (refine And.intro ft (fun _ => ?_); conv => whnf)
        | (refine And.intro (by kernel_rfl) ?_; conv => whnf)
        | (refine And.intro (by decide) ?_; conv => whnf)
        | (refine And.intro (fun _ => ?_) (fun h => absurd h (by decide)); conv => whnf)
        | (refine And.intro (fun h => absurd h (by decide)) (fun _ => ?_); conv => whnf)
        | (refine And.intro (fun _ => ?_) (fun _ => ?_) <;> conv => whnf)))
      all_goals try (exfalso; simp only [decide_eq_true_eq, decide_eq_false_iff_not, Bool.not_eq_true', Bool.not_eq_false', Bool.not_eq_true, Bool.not_eq_false, beq_iff_eq, bne_iff_ne, beq_eq_false_iff_ne, bne_eq_false_iff_eq, ne_eq, Decidable.not_not] at *; first | omega | contradiction | (simp_all; done) | (simp_all; omega))
      all_goals try (refine Or.inl ?_; conv => whnf)
      repeat (any_goals (first
        | exact True.intro
        | (refine And.intro (fun _ => ?_) tf; conv => whnf)
        | (refine And.intro ft (fun _ => ?_); conv => whnf)
        | (refine And.intro (by kernel_rfl) ?_; conv => whnf)
        | (refine And.intro (by decide) ?_; conv => whnf)
        | (refine And.intro (fun _ => ?_) (fun h => absurd h (by decide)); conv => whnf)
        | (refine And.intro (fun h => absurd h (by decide)) (fun _ => ?_); conv => whnf)
        | (refine And.intro (fun _ => ?_) (fun _ => ?_) <;> conv => whnf)
        | (refine ⟨_, _, lendO (agree_sat _ (by simp; omega)) rfl rfl, ?_⟩; conv => whnf)))
      · have hag : agreeB (l.map fun o => gapOf o x.sent s.rho) = true := by rename_i h; rw [List.take_length] at h; exact h
        have hr : addC s x = (⟨s.rho, s.least, if s.least ≤ (if s.streak < 9223372036854775807 then s.streak + 1 else s.streak) then false else s.held, if s.streak < 9223372036854775807 then s.streak + 1 else s.streak, l⟩, 0) := by
          unfold addC
          rw [if_neg (by simp [h0]), hkl, if_pos hag]
        rw [hr]
        by_cases c1 : s.streak < 9223372036854775807
        · have hw : IntKind.i64.wrap (s.streak + 1) = s.streak + 1 := wi (by omega) (by omega)
          rw [if_pos c1]
          by_cases c2 : s.least ≤ s.streak + 1
          · rw [if_pos c2]
            all_goals try (refine Or.inl ?_; conv => whnf)
            repeat (any_goals (first
              | exact True.intro
              | (refine Or.inl ?_; conv => whnf)
              | (refine And.intro (fun _ => ?_) tf; conv => whnf)
              | (refine And.intro ft (fun _ => ?_); conv => whnf)
              | (refine And.intro (by kernel_rfl) ?_; conv => whnf)
              | (refine And.intro (by decide) ?_; conv => whnf)
              | (refine And.intro (fun _ => ?_) (fun h => absurd h (by decide)); conv => whnf)
              | (refine And.intro (fun h => absurd h (by decide)) (fun _ => ?_); conv => whnf)
              | (refine And.intro (fun _ => ?_) (fun _ => ?_) <;> conv => whnf)))
            all_goals try (exfalso; simp only [decide_eq_true_eq, decide_eq_false_iff_not, Bool.not_eq_true', Bool.not_eq_false', Bool.not_eq_true, Bool.not_eq_false, beq_iff_eq, bne_iff_ne, beq_eq_false_iff_ne, bne_eq_false_iff_eq, ne_eq, Decidable.not_not] at *; first | omega | contradiction | (simp_all; done) | (simp_all; omega))
            all_goals refine ⟨[(2, 3)], ?_⟩
            repeat (any_goals (first | exact True.intro | exact rfl | with_reducible_and_instances rfl | exact (by kernel_rfl) | refine And.intro ?_ ?_))
            all_goals conv => whnf
            rw [hw]
          · rw [if_neg c2]
            all_goals try (refine Or.inl ?_; conv => whnf)
            repeat (any_goals (first
              | exact True.intro
              | (refine Or.inl ?_; conv => whnf)
              | (refine And.intro (fun _ => ?_) tf; conv => whnf)
              | (refine And.intro ft (fun _ => ?_); conv => whnf)
              | (refine And.intro (by kernel_rfl) ?_; conv => whnf)
              | (refine And.intro (by decide) ?_; conv => whnf)
              | (refine And.intro (fun _ => ?_) (fun h => absurd h (by decide)); conv => whnf)
              | (refine And.intro (fun h => absurd h (by decide)) (fun _ => ?_); conv => whnf)
              | (refine And.intro (fun _ => ?_) (fun _ => ?_) <;> conv => whnf)))
            all_goals try (exfalso; simp only [decide_eq_true_eq, decide_eq_false_iff_not, Bool.not_eq_true', Bool.not_eq_false', Bool.not_eq_true, Bool.not_eq_false, beq_iff_eq, bne_iff_ne, beq_eq_false_iff_ne, bne_eq_false_iff_eq, ne_eq, Decidable.not_not] at *; first | omega | contradiction | (simp_all; done) | (simp_all; omega))
            all_goals refine ⟨[(2, 3)], ?_⟩
            repeat (any_goals (first | exact True.intro | exact rfl | with_reducible_and_instances rfl | exact (by kernel_rfl) | refine And.intro ?_ ?_))
            all_goals conv => whnf
            rw [hw]
        · rw [if_neg c1]
          by_cases c2 : s.least ≤ s.streak
          · rw [if_pos c2]
            all_goals try (refine Or.inl ?_; conv => whnf)
            repeat (any_goals (first
              | exact True.intro
              | (refine Or.inl ?_; conv => whnf)
              | (refine And.intro (fun _ => ?_) tf; conv => whnf)
              | (refine And.intro ft (fun _ => ?_); conv => whnf)
              | (refine And.intro (by kernel_rfl) ?_; conv => whnf)
              | (refine And.intro (by decide) ?_; conv => whnf)
              | (refine And.intro (fun _ => ?_) (fun h => absurd h (by decide)); conv => whnf)
              | (refine And.intro (fun h => absurd h (by decide)) (fun _ => ?_); conv => whnf)
              | (refine And.intro (fun _ => ?_) (fun _ => ?_) <;> conv => whnf)))
            all_goals try (exfalso; simp only [decide_eq_true_eq, decide_eq_false_iff_not, Bool.not_eq_true', Bool.not_eq_false', Bool.not_eq_true, Bool.not_eq_false, beq_iff_eq, bne_iff_ne, beq_eq_false_iff_ne, bne_eq_false_iff_eq, ne_eq, Decidable.not_not] at *; first | omega | contradiction | (simp_all; done) | (simp_all; omega))
            all_goals refine ⟨[(2, 3)], ?_⟩
            repeat (any_goals (first | exact True.intro | exact rfl | with_reducible_and_instances rfl | exact (by kernel_rfl) | refine And.intro ?_ ?_))
            all_goals conv => whnf
          · rw [if_neg c2]
            all_goals try (refine Or.inl ?_; conv => whnf)
            repeat (any_goals (first
              | exact True.intro
              | (refine Or.inl ?_; conv => whnf)
              | (refine And.intro (fun _ => ?_) tf; conv => whnf)
              | (refine And.intro ft (fun _ => ?_); conv => whnf)
              | (refine And.intro (by kernel_rfl) ?_; conv => whnf)
              | (refine And.intro (by decide) ?_; conv => whnf)
              | (refine And.intro (fun _ => ?_) (fun h => absurd h (by decide)); conv => whnf)
              | (refine And.intro (fun h => absurd h (by decide)) (fun _ => ?_); conv => whnf)
              | (refine And.intro (fun _ => ?_) (fun _ => ?_) <;> conv => whnf)))
            all_goals try (exfalso; simp only [decide_eq_true_eq, decide_eq_false_iff_not, Bool.not_eq_true', Bool.not_eq_false', Bool.not_eq_true, Bool.not_eq_false, beq_iff_eq, bne_iff_ne, beq_eq_false_iff_ne, bne_eq_false_iff_eq, ne_eq, Decidable.not_not] at *; first | omega | contradiction | (simp_all; done) | (simp_all; omega))
            all_goals refine ⟨[(2, 3)], ?_⟩
            repeat (any_goals (first | exact True.intro | exact rfl | with_reducible_and_instances rfl | exact (by kernel_rfl) | refine And.intro ?_ ?_))
            all_goals conv => whnf
      · have hag : ¬ agreeB (l.map fun o => gapOf o x.sent s.rho) = true := by rename_i h; rw [List.take_length] at h; simp [h]
        have hr : addC s x = (⟨s.rho, s.least, true, 0, if okG (gapOf x x.sent s.rho) = true then [x] else []⟩, 21) := by
          unfold addC
          rw [if_neg (by simp [h0]), hkl, if_neg hag]
        rw [hr]
        have hlast : (((l.take l.length).map fun o => gapOf o x.sent s.rho).map gR)[l.length - 1]? = some (gR (gapOf x x.sent s.rho)) := by
          rw [List.take_length]
          refine map_get (map_get ?_)
          subst hkl
          exact keep_last _ _
        have hpos : 0 < l.length := by subst hkl; exact keep_pos _ _
        have hw : IntKind.i64.wrap (((((l.take l.length).map fun o => gapOf o x.sent s.rho).map gR).length : Int) - 1) = ((l.length - 1 : Nat) : Int) := by
          rw [List.length_map, List.length_map, List.take_length, wi (by omega) (by omega)]; omega
        by_cases hg : okG (gapOf x x.sent s.rho) = true
        · rw [if_pos hg]
          all_goals try (refine Or.inl ?_; conv => whnf)
          repeat (any_goals (first
            | exact True.intro
            | (refine And.intro (fun _ => ?_) tf; conv => whnf)
            | (refine And.intro ft (fun _ => ?_); conv => whnf)
            | (refine And.intro (by kernel_rfl) ?_; conv => whnf)
            | (refine And.intro (by decide) ?_; conv => whnf)
            | (refine And.intro (fun _ => ?_) (fun h => absurd h (by decide)); conv => whnf)
            | (refine And.intro (fun h => absurd h (by decide)) (fun _ => ?_); conv => whnf)
            | (refine ⟨l.length - 1, hw, by simp; omega, ?_⟩; conv => whnf)
            | (refine ⟨_, hlast, ?_⟩; conv => whnf)
            | (refine And.intro (fun _ => ?_) (fun _ => ?_) <;> conv => whnf)
            | (refine ⟨_, _, (gapRight_sat _).pu rfl rfl, ?_⟩; conv => whnf)))
          all_goals try (refine Or.inl ?_; conv => whnf)
          repeat (any_goals (first
            | exact True.intro
            | (refine And.intro (fun _ => ?_) tf; conv => whnf)
            | (refine And.intro ft (fun _ => ?_); conv => whnf)
            | (refine And.intro (by kernel_rfl) ?_; conv => whnf)
            | (refine And.intro (by decide) ?_; conv => whnf)
            | (refine And.intro (fun _ => ?_) (fun h => absurd h (by decide)); conv => whnf)
            | (refine And.intro (fun h => absurd h (by decide)) (fun _ => ?_); conv => whnf)
            | (refine And.intro (fun _ => ?_) (fun _ => ?_) <;> conv => whnf)))
          all_goals try (exfalso; simp only [decide_eq_true_eq, decide_eq_false_iff_not, Bool.not_eq_true', Bool.not_eq_false', Bool.not_eq_true, Bool.not_eq_false, beq_iff_eq, bne_iff_ne, beq_eq_false_iff_ne, bne_eq_false_iff_eq, ne_eq, Decidable.not_not] at *; first | omega | contradiction | (simp_all; done) | (simp_all; omega))
          all_goals refine ⟨[(2, 5)], ?_⟩
          repeat (any_goals (first | exact True.intro | exact rfl | with_reducible_and_instances rfl | exact (by kernel_rfl) | refine And.intro ?_ ?_))
          all_goals conv => whnf
        · rw [if_neg hg]
          all_goals try (refine Or.inl ?_; conv => whnf)
          repeat (any_goals (first
            | exact True.intro
            | (refine And.intro (fun _ => ?_) tf; conv => whnf)
            | (refine And.intro ft (fun _ => ?_); conv => whnf)
            | (refine And.intro (by kernel_rfl) ?_; conv => whnf)
            | (refine And.intro (by decide) ?_; conv => whnf)
            | (refine And.intro (fun _ => ?_) (fun h => absurd h (by decide)); conv => whnf)
            | (refine And.intro (fun h => absurd h (by decide)) (fun _ => ?_); conv => whnf)
            | (refine ⟨l.length - 1, hw, by simp; omega, ?_⟩; conv => whnf)
            | (refine ⟨_, hlast, ?_⟩; conv => whnf)
            | (refine And.intro (fun _ => ?_) (fun _ => ?_) <;> conv => whnf)
            | (refine ⟨_, _, (gapRight_sat _).pu rfl rfl, ?_⟩; conv => whnf)))
          all_goals try (refine Or.inl ?_; conv => whnf)
          repeat (any_goals (first
            | exact True.intro
            | (refine And.intro (fun _ => ?_) tf; conv => whnf)
            | (refine And.intro ft (fun _ => ?_); conv => whnf)
            | (refine And.intro (by kernel_rfl) ?_; conv => whnf)
            | (refine And.intro (by decide) ?_; conv => whnf)
            | (refine And.intro (fun _ => ?_) (fun h => absurd h (by decide)); conv => whnf)
            | (refine And.intro (fun h => absurd h (by decide)) (fun _ => ?_); conv => whnf)
            | (refine And.intro (fun _ => ?_) (fun _ => ?_) <;> conv => whnf)))
          all_goals try (exfalso; simp only [decide_eq_true_eq, decide_eq_false_iff_not, Bool.not_eq_true', Bool.not_eq_false', Bool.not_eq_true, Bool.not_eq_false, beq_iff_eq, bne_iff_ne, beq_eq_false_iff_ne, bne_eq_false_iff_eq, ne_eq, Decidable.not_not] at *; first | omega | contradiction | (simp_all; done) | (simp_all; omega))
          all_goals refine ⟨[(2, 2)], ?_⟩
          repeat (any_goals (first | exact True.intro | exact rfl | with_reducible_and_instances rfl | exact (by kernel_rfl) | refine And.intro ?_ ?_))
          all_goals conv => whnf
end Go.Proofs.Ytgidaifoiljgoaa
/- clock.Clock: Samples, Clone, Point; a sample's Trip; gap's Mid, Within, Has, by their conditions. -/
namespace Go.Proofs.Ytgidaifoiljgoaa
set_option linter.unusedSimpArgs false
set_option linter.unusedVariables false
open Go.RowKit
set_option maxRecDepth 100000
set_option maxHeartbeats 1000000 in
theorem clone0_any (A : Option Addr) (c : Nat) (w : World) :
    Calls Try.prog 61 #[.slice A 0 c] w fun e w' => ∃ v, e = .returned v ∧ Ow w' w.heap.size 33 4 v 0 [] ∧ Below w.heap.size w w' ∧ ∀ k, blkOf v = some k → k < w'.heap.size := by
  obtain ⟨i0, hi0, hz0, hz1, hz2⟩ := info_parts infoSz
  cases A with
  | none =>
    have hq := Lib.run_eql_slice_nil (P := Try.prog) (w := w) 22
    go_enter Try.func61, Try.ntmps61
    go_wp2_with fail
    go_ret
    exact ⟨_, rfl, Ow.nil _ _ _ _, Below.refl _ _, fun k hk => by cases hk⟩
  | some a =>
    have hq := Lib.run_eql_slice_nil (P := Try.prog) (w := w) 22
    have hlit := hide <| Ow.lit w #[] 0 (lo := w.heap.size) (size := 4) (e := 33) (Nat.le_refl _) (by simp [maxLen]) rfl
    have hap := hide <| fun w1 ty hown => run_append_zero (P := Try.prog) (w := w1) (ty := ty) (t := 22) (A := some a) (c := c) (lo := w.heap.size) (size := 4) (ee := 33) (v := .slice (some ⟨w.heap.size, 0, none⟩) 0 0) (m' := 0) (xs := []) Try.underlying22 hi0 hown
    go_enter Try.func61, Try.ntmps61
    go_wp2_with (at_builtin; refine wpList_exec rfl _ (exec_append _ _ _ rfl _ _ rfl rfl (hap.out _ _ hlit.out)) ?_)
    go_ret
    refine ⟨_, rfl, hlit.out, (Below.refl _ _).alloc (Nat.le_refl _) _, fun k hk => ?_⟩
    injection hk with hk
    subst hk
    show w.heap.size < (w.heap.push _).size
    rw [Array.size_push]; exact Nat.lt_succ_self _
theorem clone_sat (l : List Smp) (hn : l.length ≤ 1000) : Sat Try.prog 61 [.d (.sl 4 (l.map sR))] [] (.own 0) [.sl 4 (l.map sR)] := by
  intro F ρ w vals En hv
  obtain ⟨v, rfl, hv'⟩ := hv.one_out
  cases hv' with | d hv =>
    obtain ⟨A, c, rfl, h1, h2, hr⟩ := hv.sl_rd En.fb (flat_map sR_flat l)
    rw [List.length_map] at hr ⊢
    have main : Calls Try.prog 61 #[.slice A l.length c] w fun e w' => ∃ v, e = .returned v ∧ Ow w' w.heap.size 33 4 v l.length (scells l) ∧ Below w.heap.size w w' ∧ ∀ k, blkOf v = some k → k < w'.heap.size := by
      rcases Nat.eq_zero_or_pos l.length with h0 | h0
      · have : l = [] := List.eq_nil_of_length_eq_zero h0
        subst this
        exact clone0_any A c w
      · refine (cloneS_any A _ c l w hr hn).mono ?_
        rintro e w' ⟨v, rfl, how, hb⟩
        refine ⟨v, rfl, how, hb, fun k hk => ?_⟩
        obtain ⟨g, off, cap, rfl, _, hg, _⟩ := how.open_ h0
        injection hk with hk
        subst hk
        exact hg
    refine main.mono ?_
    rintro e w' ⟨v, rfl, how, hb, hlt⟩
    have hG : w.grownBy w' none := ⟨hb.os, hb.tape, hb.output, hb.size, fun b h _ => hb.block b h⟩
    have hnone : hp ([] : List AObj) 0 = none := rfl
    obtain ⟨A', c', he, g1, g2, hrd⟩ := how.form
    subst he
    have how0 : Ow w' 0 0 4 (.slice A' l.length c') l.length (scells l) := ⟨how.1, by
      rcases how.2 with h | ⟨a, h, _, h'⟩ | ⟨g, off, cap, h, _, h'⟩
      · exact .inl h
      · exact .inr (.inl ⟨a, h, Nat.zero_le _, h'⟩)
      · exact .inr (.inr ⟨g, off, cap, h, Nat.zero_le _, h'⟩)⟩
    obtain ⟨S, K, E⟩ := En.new (n := 0) (o' := .sl 4 (l.map sR)) (h := .slice A' l.length c') hnone hG (fun b hb' => ⟨how.lt b (by rw [← blk_own rfl]; exact hb'), hlt b hb'⟩)
      ⟨_, by rw [List.length_map]; exact how0, (flat_map sR_flat l).rds, fun r hr => by obtain ⟨x, _, rfl⟩ := List.mem_map.1 hr; rfl⟩
    have e : updF (hp []) 0 (some (.sl 4 (l.map sR))) = hp [.sl 4 (l.map sR)] := by
      funext i
      match i with
      | 0 => rfl
      | i + 1 => rfl
    rw [e] at S E
    exact ⟨_, rfl, F, _, S, K, E, .own (updF_same _ _ _)⟩
theorem samples_sat (s : CSt) (hn : s.list.length ≤ 8) : Sat Try.prog 28 [.ptr 0 0] (cH s) (.own 2) [cR s, .sl 4 (s.list.map sR), .sl 4 (s.list.map sR)] := by
  refine sat_of_vc (T := tiOf Try.prog) (E := E0) Try.func28 rfl rfl hE0 hm0 rfl ?_
  conv => whnf
  repeat (any_goals (first
    | exact True.intro
    | (refine Or.inl ?_; conv => whnf)
    | (refine And.intro (fun _ => ?_) tf; conv => whnf)
    | (refine And.intro ft (fun _ => ?_); conv => whnf)
    | (refine And.intro (by kernel_rfl) ?_; conv => whnf)
    | (refine And.intro (by decide) ?_; conv => whnf)
    | (refine And.intro (fun _ => ?_) (fun h => absurd h (by decide)); conv => whnf)
    | (refine And.intro (fun h => absurd h (by decide)) (fun _ => ?_); conv => whnf)
    | (refine And.intro (fun _ => ?_) (fun _ => ?_) <;> conv => whnf)
    | (refine ⟨_, _, lendON (clone_sat s.list (by omega)) rfl (flat_map sR_flat _), ?_⟩; conv => whnf)))
  all_goals refine ⟨[], ?_⟩
  repeat (any_goals (first | exact True.intro | exact rfl | with_reducible_and_instances rfl | exact (by kernel_rfl) | refine And.intro ?_ ?_))
  all_goals conv => whnf
theorem clone1_sat (s : CSt) (hn : s.list.length ≤ 8) : Sat Try.prog 40 [.ptr 0 0] (cH s) (.ptr 2 0) [cR s, .sl 4 (s.list.map sR), .cells [iA s.rho, iA s.least, bA s.held, iA s.streak, .own 3], .sl 4 (s.list.map sR)] := by
  refine sat_of_vc (T := tiOf Try.prog) (E := E0) Try.func40 rfl rfl hE0 hm0 rfl ?_
  conv => whnf
  repeat (any_goals (first
    | exact True.intro
    | (refine Or.inl ?_; conv => whnf)
    | (refine And.intro (fun _ => ?_) tf; conv => whnf)
    | (refine And.intro ft (fun _ => ?_); conv => whnf)
    | (refine And.intro (by kernel_rfl) ?_; conv => whnf)
    | (refine And.intro (by decide) ?_; conv => whnf)
    | (refine And.intro (fun _ => ?_) (fun h => absurd h (by decide)); conv => whnf)
    | (refine And.intro (fun h => absurd h (by decide)) (fun _ => ?_); conv => whnf)
    | (refine And.intro (fun _ => ?_) (fun _ => ?_) <;> conv => whnf)
    | (refine ⟨_, _, lendON (clone_sat s.list (by omega)) rfl (flat_map sR_flat _), ?_⟩; conv => whnf)))
  all_goals refine ⟨[], ?_⟩
  repeat (any_goals (first | exact True.intro | exact rfl | with_reducible_and_instances rfl | exact (by kernel_rfl) | refine And.intro ?_ ?_))
  all_goals conv => whnf
def midZ (g : Int × Int) : Int := if okG g = true then IntKind.i64.wrap (IntKind.i64.wrap (BitVec.ofInt IntKind.i64.bits g.1 &&& BitVec.ofInt IntKind.i64.bits g.2).toNat + (IntKind.i64.wrap (BitVec.ofInt IntKind.i64.bits g.1 ^^^ BitVec.ofInt IntKind.i64.bits g.2).toNat).fdiv (2 ^ (min (1 : Int).toNat IntKind.i64.bits))) else 0
theorem mid_sat (g : Int × Int) : Sat Try.prog 54 [gA g] [] (iA (midZ g)) [] := by
  refine sat_of_vc (T := tiOf Try.prog) (E := E0) Try.func54 rfl rfl hE0 hm0 rfl ?_
  conv => whnf
  repeat (any_goals (first
    | exact True.intro
    | (refine Or.inl ?_; conv => whnf)
    | (refine And.intro (fun _ => ?_) tf; conv => whnf)
    | (refine And.intro ft (fun _ => ?_); conv => whnf)
    | (refine And.intro (by kernel_rfl) ?_; conv => whnf)
    | (refine And.intro (by decide) ?_; conv => whnf)
    | (refine And.intro (fun _ => ?_) (fun h => absurd h (by decide)); conv => whnf)
    | (refine And.intro (fun h => absurd h (by decide)) (fun _ => ?_); conv => whnf)
    | (refine And.intro (fun _ => ?_) (fun _ => ?_) <;> conv => whnf)
    | (refine ⟨_, _, (gapRight_sat _).pu rfl rfl, ?_⟩; conv => whnf)))
  · have h : ¬ okG g = true := (by (try simp only [decide_eq_true_eq, decide_eq_false_iff_not, Bool.not_eq_true', Bool.not_eq_false', Bool.not_eq_true, Bool.not_eq_false, beq_iff_eq, bne_iff_ne, beq_eq_false_iff_ne, bne_eq_false_iff_eq, ne_eq, Decidable.not_not, Int.natCast_eq_zero] at *); first | omega | assumption | (simp_all; done) | (simp_all; omega))
    unfold midZ
    rw [if_neg h]
    all_goals refine ⟨[], ?_⟩
    repeat (any_goals (first | exact True.intro | exact rfl | with_reducible_and_instances rfl | exact (by kernel_rfl) | refine And.intro ?_ ?_))
    all_goals conv => whnf
  · have h : okG g = true := (by (try simp only [decide_eq_true_eq, decide_eq_false_iff_not, Bool.not_eq_true', Bool.not_eq_false', Bool.not_eq_true, Bool.not_eq_false, beq_iff_eq, bne_iff_ne, beq_eq_false_iff_ne, bne_eq_false_iff_eq, ne_eq, Decidable.not_not, Int.natCast_eq_zero] at *); first | omega | assumption | (simp_all; done) | (simp_all; omega))
    unfold midZ
    rw [if_pos h]
    all_goals refine ⟨[], ?_⟩
    repeat (any_goals (first | exact True.intro | exact rfl | with_reducible_and_instances rfl | exact (by kernel_rfl) | refine And.intro ?_ ?_))
    all_goals conv => whnf
def pointC (s : CSt) (stamp : Int) : Int × Nat := if (atC s stamp).2 = 0 then (midZ (atC s stamp).1, 0) else (0, (atC s stamp).2)
theorem point_sat (s : CSt) (stamp : Int) (hn : s.list.length ≤ 8) : Sat Try.prog 21 [.ptr 0 0, iA stamp] (cH s) (.tup [iA (pointC s stamp).1, iA (pointC s stamp).2]) (cH s) := by
  refine sat_of_vc (T := tiOf Try.prog) (E := E0) Try.func21 rfl rfl hE0 hm0 rfl ?_
  conv => whnf
  repeat (any_goals (first
    | exact True.intro
    | (refine Or.inl ?_; conv => whnf)
    | (refine And.intro (fun _ => ?_) tf; conv => whnf)
    | (refine And.intro ft (fun _ => ?_); conv => whnf)
    | (refine And.intro (by kernel_rfl) ?_; conv => whnf)
    | (refine And.intro (by decide) ?_; conv => whnf)
    | (refine And.intro (fun _ => ?_) (fun h => absurd h (by decide)); conv => whnf)
    | (refine And.intro (fun h => absurd h (by decide)) (fun _ => ?_); conv => whnf)
    | (refine And.intro (fun _ => ?_) (fun _ => ?_) <;> conv => whnf)
    | (refine ⟨_, _, (clkAt_sat s stamp hn).at2 0 1 rfl rfl rfl rfl rfl, ?_⟩; conv => whnf)
    | (refine ⟨_, _, (mid_sat _).pu rfl rfl, ?_⟩; conv => whnf)))
  · have h : ¬ (atC s stamp).2 = 0 := (by (try simp only [decide_eq_true_eq, decide_eq_false_iff_not, Bool.not_eq_true', Bool.not_eq_false', Bool.not_eq_true, Bool.not_eq_false, beq_iff_eq, bne_iff_ne, beq_eq_false_iff_ne, bne_eq_false_iff_eq, ne_eq, Decidable.not_not, Int.natCast_eq_zero] at *); first | omega | assumption | (simp_all; done) | (simp_all; omega))
    have hr : pointC s stamp = (0, (atC s stamp).2) := by unfold pointC; rw [if_neg h]
    rw [hr]
    all_goals refine ⟨[], ?_⟩
    repeat (any_goals (first | exact True.intro | exact rfl | with_reducible_and_instances rfl | exact (by kernel_rfl) | refine And.intro ?_ ?_))
    all_goals conv => whnf
  · have h : (atC s stamp).2 = 0 := (by (try simp only [decide_eq_true_eq, decide_eq_false_iff_not, Bool.not_eq_true', Bool.not_eq_false', Bool.not_eq_true, Bool.not_eq_false, beq_iff_eq, bne_iff_ne, beq_eq_false_iff_ne, bne_eq_false_iff_eq, ne_eq, Decidable.not_not, Int.natCast_eq_zero] at *); first | omega | assumption | (simp_all; done) | (simp_all; omega))
    have hr : pointC s stamp = (midZ (atC s stamp).1, 0) := by unfold pointC; rw [if_pos h]
    rw [hr]
    all_goals refine ⟨[], ?_⟩
    repeat (any_goals (first | exact True.intro | exact rfl | with_reducible_and_instances rfl | exact (by kernel_rfl) | refine And.intro ?_ ?_))
    all_goals conv => whnf
def tripZ (s : Smp) : Int := if okS s = true then (s.came - s.asked) - (s.sent - s.got) else 0
theorem trip_sat (x : Smp) : Sat Try.prog 32 [sA x] [] (iA (tripZ x)) [] := by
  refine sat_of_vc (T := tiOf Try.prog) (E := E0) Try.func32 rfl rfl hE0 hm0 rfl ?_
  conv => whnf
  repeat (any_goals (first
    | exact True.intro
    | (refine Or.inl ?_; conv => whnf)
    | (refine And.intro (fun _ => ?_) tf; conv => whnf)
    | (refine And.intro ft (fun _ => ?_); conv => whnf)
    | (refine And.intro (by kernel_rfl) ?_; conv => whnf)
    | (refine And.intro (by decide) ?_; conv => whnf)
    | (refine And.intro (fun _ => ?_) (fun h => absurd h (by decide)); conv => whnf)
    | (refine And.intro (fun h => absurd h (by decide)) (fun _ => ?_); conv => whnf)
    | (refine And.intro (fun _ => ?_) (fun _ => ?_) <;> conv => whnf)
    | (refine ⟨_, _, (right_sat _).pu rfl rfl, ?_⟩; conv => whnf)))
  · have h : ¬ okS x = true := (by (try simp only [decide_eq_true_eq, decide_eq_false_iff_not, Bool.not_eq_true', Bool.not_eq_false', Bool.not_eq_true, Bool.not_eq_false, beq_iff_eq, bne_iff_ne, beq_eq_false_iff_ne, bne_eq_false_iff_eq, ne_eq, Decidable.not_not, Int.natCast_eq_zero] at *); first | omega | assumption | (simp_all; done) | (simp_all; omega))
    unfold tripZ
    rw [if_neg h]
    all_goals refine ⟨[], ?_⟩
    repeat (any_goals (first | exact True.intro | exact rfl | with_reducible_and_instances rfl | exact (by kernel_rfl) | refine And.intro ?_ ?_))
    all_goals conv => whnf
  · have h : okS x = true := (by (try simp only [decide_eq_true_eq, decide_eq_false_iff_not, Bool.not_eq_true', Bool.not_eq_false', Bool.not_eq_true, Bool.not_eq_false, beq_iff_eq, bne_iff_ne, beq_eq_false_iff_ne, bne_eq_false_iff_eq, ne_eq, Decidable.not_not, Int.natCast_eq_zero] at *); first | omega | assumption | (simp_all; done) | (simp_all; omega))
    unfold tripZ
    rw [if_pos h]
    all_goals refine ⟨[], ?_⟩
    repeat (any_goals (first | exact True.intro | exact rfl | with_reducible_and_instances rfl | exact (by kernel_rfl) | refine And.intro ?_ ?_))
    all_goals conv => whnf
    simp [okS, isT] at h
    rw [wi (n := x.came - x.asked) (by omega) (by omega), wi (n := x.sent - x.got) (by omega) (by omega), wi (by omega) (by omega)]
end Go.Proofs.Ytgidaifoiljgoaa
