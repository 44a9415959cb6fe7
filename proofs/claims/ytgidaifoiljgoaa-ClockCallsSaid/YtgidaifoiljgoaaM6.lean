/- Parts SmpSl, Meet, Ka, Kb, VcW, Ra, Rb, Rc, Rd of the proof, put together. -/
import Derived.Test.YtgidaifoiljgoaaM5
import Derived.Outline
import Derived.ChangeKeysEq
/- Slices of samples: Delete of the first, Clone. -/
namespace Go.Proofs.Ytgidaifoiljgoaa
open Go.RowKit
set_option linter.unusedVariables false
set_option linter.unusedSimpArgs false
def scells (l : List Smp) : List Value := (l.map fun s => (smv s).toList).flatten
theorem scells_len : ∀ l : List Smp, (scells l).length = l.length * 4
  | [] => rfl
  | s :: r => by
    have := scells_len r
    unfold scells at this ⊢
    rw [List.map_cons, List.flatten_cons, List.length_append, this, List.length_cons]
    simp [smv]; omega
theorem scells_cons (s : Smp) (r : List Smp) : scells (s :: r) = (smv s).toList ++ scells r := by unfold scells; rw [List.map_cons, List.flatten_cons]
theorem scells_app (a b : List Smp) : scells (a ++ b) = scells a ++ scells b := by unfold scells; rw [List.map_append, List.flatten_append]
theorem scells_one (l : List Smp) : ∀ u ∈ scells l, u.oneCell' = true := by
  intro u hu
  unfold scells at hu
  rw [List.mem_flatten] at hu
  obtain ⟨c, hc, hu⟩ := hu
  obtain ⟨s, _, rfl⟩ := List.mem_map.1 hc
  simp only [smv, List.mem_cons, List.not_mem_nil, or_false] at hu
  rcases hu with rfl | rfl | rfl | rfl <;> rfl
def z4 : List Value := [.int .i64 0, .int .i64 0, .int .i64 0, .int .i64 0]
theorem run_clear1 (b o c : Nat) (w : World) (ty : TypeId) (hc : ∀ j, j < 4 → (w.cell? ⟨b, o + j, none⟩).isSome = true) (hf : ∀ j, j < 4 → w.frozen? ⟨b, o + j, none⟩ = false) :
    (Builtin.clear_ #[22] ty #[.slice (some ⟨b, o, none⟩) 1 c]).run Try.prog w = .ok (.tuple #[]) (w.setCells b o z4) := by
  have hst := run_storeCells_cells (P := Try.prog) b o z4 0 w (by simpa [z4] using hc) (by simpa [z4] using hf) (by intro u hu; simp [z4] at hu; subst hu; rfl)
  have hz : (zeroValue 33).run Try.prog w = .ok (.agg z4.toArray) w := by kernel_rfl
  have hu := run_underlying Try.underlying22 w
  rw [Nat.add_zero] at hst
  have hzc : (Builtin.zeroCells (Value.cells (.agg z4.toArray)) 1).toList = z4 := by kernel_rfl
  simp [Builtin.clear_, Sem.run_bind, hu, hz, Result.andThen, hzc, hst]
set_option maxRecDepth 100000 in
theorem infoSz : (Try.prog.info? 33).map (fun i => (i.zero, i.size, i.bytes)) = some (some (.agg z4.toArray), 4, 32) := by kernel_rfl
theorem drop_scells (l : List Smp) : (scells l).drop 4 = scells (l.drop 1) := by
  cases l with
  | nil => rfl
  | cons s r => rw [scells_cons]; rfl
/-- The world behind append(s[:0], s[1:]...), in place. -/
theorem run_shift (b off n cap : Nat) (xs : List Smp) (w : World) (ty : TypeId) (hn : 1 ≤ n) (hnc : n ≤ cap) (hl : xs.length = n)
    (hroom : ∀ j, j < cap * 4 → (w.cell? ⟨b, off + j, none⟩).isSome = true ∧ w.frozen? ⟨b, off + j, none⟩ = false) (hx : ∀ j (h : j < (scells xs).length), w.cell? ⟨b, off + j, none⟩ = some (scells xs)[j]) :
    (Builtin.append_ #[22, 22] ty #[.slice (some ⟨b, off, none⟩) 0 cap, .slice (some ⟨b, off + 4, none⟩) (n - 1) (cap - 1)]).run Try.prog w = .ok (.slice (some ⟨b, off, none⟩) (n - 1) cap) (w.setCells b off (scells (xs.drop 1))) := by
  obtain ⟨i0, hi, hz0, hz1, hz2⟩ := info_parts infoSz
  have hd : (scells (xs.drop 1)).length = (n - 1) * 4 := by rw [scells_len, List.length_drop, hl]
  have h := run_append_room_cells (P := Try.prog) w 22 ty 33 i0 Try.underlying22 hi b off 0 cap ⟨b, off + 4, none⟩ (n - 1) (cap - 1) (scells (xs.drop 1)) (by rw [hd, hz1])
    (fun j u hu => by
      rw [Addr.add_lit]
      have e2 : (scells xs)[4 + j]? = some u := by rw [← List.getElem?_drop, drop_scells]; exact hu
      obtain ⟨h3, h4⟩ := List.getElem?_eq_some_iff.1 e2
      have := hx (4 + j) h3
      rw [h4] at this
      rw [show off + 4 + j = off + (4 + j) by omega]
      exact this)
    (scells_one _) (by omega) (fun j hj => by rw [Nat.zero_mul, Nat.add_zero]; exact (hroom j (by omega)).1) (fun j hj => by rw [Nat.zero_mul, Nat.add_zero]; exact (hroom j (by omega)).2)
  rw [Nat.zero_mul, Nat.add_zero, Nat.zero_add] at h
  exact h
theorem slice3 (A : Option Addr) (n c : Nat) (w : World) (h : 1 ≤ n) (hn : n ≤ c) (hc : c ≤ 140737488351232) : (Instr.sliceAt 22 (.slice A n c) (some (.int .i64 0)) (some (.int .i64 1)) (some (.int .i64 (n : Int)))).run Try.prog w = .ok (.slice A 1 n) w := by
  have h1 : (0 : Int) ≤ (n : Int) := by omega
  have h2 : (1 : Int) ≤ (n : Int) := by omega
  have h3 : (n : Int) ≤ (c : Int) := by omega
  have h4 : ¬ n = 0 := by omega
  go_simp
theorem sliceTo0 (A : Option Addr) (n c : Nat) (w : World) : (Instr.sliceAt 22 (.slice A n c) none (some (.int .i64 0)) none).run Try.prog w = .ok (.slice A 0 c) w := by
  have h3 : (0 : Int) ≤ (c : Int) := by omega
  go_simp
theorem sliceFrom1 (b off n c : Nat) (w : World) (h : 2 ≤ n) (hn : n ≤ c) : (Instr.sliceAt 22 (.slice (some ⟨b, off, none⟩) n c) (some (.int .i64 1)) none none).run Try.prog w = .ok (.slice (some ⟨b, off + 4, none⟩) (n - 1) (c - 1)) w := by
  have h1 : (1 : Int) ≤ (n : Int) := by omega
  have h2 : (n : Int) ≤ (c : Int) := by omega
  have h3 : ¬ c = 1 := by omega
  go_simp
theorem sliceTail (b off n c : Nat) (w : World) (h : 2 ≤ n) (hn : n ≤ c) : (Instr.sliceAt 22 (.slice (some ⟨b, off, none⟩) (n - 1) c) (some (.int .i64 ((n - 1 : Nat) : Int))) (some (.int .i64 (n : Int))) none).run Try.prog w = .ok (.slice (some ⟨b, off + (n - 1) * 4, none⟩) 1 (c - (n - 1))) w := by
  have h1 : (0 : Int) ≤ ((n - 1 : Nat) : Int) := by omega
  have h2 : ((n - 1 : Nat) : Int) ≤ (n : Int) := by omega
  have h4 : (n : Int) ≤ (c : Int) := by omega
  have h3 : ¬ c = n - 1 := by omega
  have h5 : n - (n - 1) = 1 := by omega
  go_simp
theorem ow_shift (b off n cap lo : Nat) (xs : List Smp) (w : World) (hn : 1 ≤ n) (h : Ow w lo 33 4 (.slice (some ⟨b, off, none⟩) n cap) n (scells xs)) :
    Ow ((w.setCells b off (scells (xs.drop 1))).setCells b (off + (n - 1) * 4) z4) lo 33 4 (.slice (some ⟨b, off, none⟩) (n - 1) cap) (n - 1) (scells (xs.drop 1)) ∧ w.grownBy ((w.setCells b off (scells (xs.drop 1))).setCells b (off + (n - 1) * 4) z4) (some b) ∧ (∀ j, j < 4 → ((w.setCells b off (scells (xs.drop 1))).cell? ⟨b, off + (n - 1) * 4 + j, none⟩).isSome = true ∧ (w.setCells b off (scells (xs.drop 1))).frozen? ⟨b, off + (n - 1) * 4 + j, none⟩ = false) := by
  have hl : xs.length = n := by have := h.1; rw [scells_len] at this; omega
  have hd : (scells (xs.drop 1)).length = (n - 1) * 4 := by rw [scells_len, List.length_drop, hl]
  obtain ⟨g', off', cap', he, hlo, hlt, hnc, hcm, hroom, hx⟩ := h.open_ (by omega)
  simp only [Value.slice.injEq, Option.some.injEq, Addr.mk.injEq, and_true, true_and] at he
  obtain ⟨⟨rfl, rfl⟩, rfl⟩ := he
  have hz : z4.length = 4 := rfl
  have hsome : ∀ j, j < cap * 4 → ((w.setCells b off (scells (xs.drop 1))).cell? ⟨b, off + j, none⟩).isSome = true := by
    intro j hj
    by_cases hin : j < (scells (xs.drop 1)).length
    · have h := World.cell?_setCells_in b (scells (xs.drop 1)) off w (fun q hq => (hroom q (by omega)).1) j hin
      rw [h]; rfl
    · rw [World.cell?_setCells_out b (scells (xs.drop 1)) off w _ (fun _ _ => by simp only; omega)]
      exact (hroom j hj).1
  refine ⟨⟨hd, .inr (.inr ⟨b, off, cap, rfl, hlo, by rw [setCells_size, setCells_size]; exact hlt, by omega, hcm, fun j hj => ?_, fun j hj => ?_⟩)⟩, grown_trans (setCells_grown b off _ w) (setCells_grown b _ _ _), fun j hj => ⟨by rw [Nat.add_assoc]; exact hsome _ (by omega), by rw [World.frozen?_setCells, Nat.add_assoc]; exact (hroom _ (by omega)).2⟩⟩
  · rw [World.frozen?_setCells, World.frozen?_setCells]
    refine ⟨?_, (hroom j hj).2⟩
    by_cases hin : (n - 1) * 4 ≤ j ∧ j < (n - 1) * 4 + 4
    · have h := World.cell?_setCells_in b z4 (off + (n - 1) * 4) (w.setCells b off (scells (xs.drop 1))) (fun q hq => by rw [Nat.add_assoc]; exact hsome _ (by omega)) (j - (n - 1) * 4) (by omega)
      rw [show off + (n - 1) * 4 + (j - (n - 1) * 4) = off + j by omega] at h
      rw [h]; rfl
    · rw [World.cell?_setCells_out b z4 (off + (n - 1) * 4) _ _ (fun _ _ => by simp only; omega)]
      exact hsome j hj
  · rw [World.cell?_setCells_out b z4 (off + (n - 1) * 4) _ _ (fun _ _ => by simp only; omega)]
    have h := World.cell?_setCells_in b (scells (xs.drop 1)) off w (fun q hq => (hroom q (by omega)).1) j hj
    rw [h]
theorem grown_drew {w w' : World} {row : Option Nat} (h : w.drew.grownBy w' row) : w.grownBy w' row := ⟨h.os, h.tape, h.output, h.size, h.block⟩
set_option maxHeartbeats 1000000 in
set_option maxRecDepth 100000 in
theorem delete1_any (b off n cap lo : Nat) (xs : List Smp) (w : World) (hn : 2 ≤ n) (hc : cap ≤ 9223372036854775807) (h : Ow w lo 33 4 (.slice (some ⟨b, off, none⟩) n cap) n (scells xs)) :
    Calls Try.prog 44 #[.slice (some ⟨b, off, none⟩) n cap, .int .i64 0, .int .i64 1] w fun e w' => e = .returned (.slice (some ⟨b, off, none⟩) (n - 1) cap) ∧ Ow w' lo 33 4 (.slice (some ⟨b, off, none⟩) (n - 1) cap) (n - 1) (scells (xs.drop 1)) ∧ w.grownBy w' (some b) := by
  have hl : xs.length = n := by have := h.1; rw [scells_len] at this; omega
  obtain ⟨g', off', cap', he, hlo, hlt, hnc, hcm, hroom, hx⟩ := h.open_ (by omega)
  simp only [Value.slice.injEq, Option.some.injEq, Addr.mk.injEq, and_true, true_and] at he
  obtain ⟨⟨rfl, rfl⟩, rfl⟩ := he
  have HS := hide (run_shift b off n cap xs w.drew 22 (by omega) hnc hl hroom hx)
  have HO := hide (ow_shift b off n cap lo xs w.drew (by omega) h.drew)
  have h0 : (0 : Int) ≤ (n : Int) := by omega
  have h1 : (1 : Int) ≤ (n : Int) := by omega
  have h2 : (n : Int) ≤ (cap : Int) := by omega
  clear h hroom hx hl
  go_enter Try.func44, Try.ntmps44
  go_wp2_with fail
  refine region_flow (by kernel_rfl) (by kernel_rfl) (Γ := Unit) (fun _ => [.slice (some ⟨b, off, none⟩) n cap, .int .i64 0, .slice (some ⟨b, off, none⟩) 0 cap, .slice (some ⟨b, off, none⟩) n cap, .int .i64 1, .slice (some ⟨b, off + 4, none⟩) (n - 1) (cap - 1), .slice (some ⟨b, off, none⟩) (n - 1) cap, .slice (some ⟨b, off, none⟩) (n - 1) cap])
    (fun l γ W => W = if l 6 = true then w.drew.setCells b off (scells (xs.drop 1)) else w.drew) (fun _ => rfl) () rfl ?step ?fin
  case step =>
    refine ⟨?_, ?_, ?_, ?_, ?_, ?_, ?_, ?_, trivial⟩
    · intro l γ W hG hl hw hcl; exact stepV_value rfl _ rfl (.inr rfl) hG
    · intro l γ W hG hl hw hcl; exact stepV_value rfl _ rfl (.inr rfl) hG
    · intro l γ W hG hl hw hcl; exact stepV_value rfl _ (exec_slice _ _ _ _ _ rfl _ n cap rfl (sliceTo0 _ n cap W)) (.inr rfl) hG
    · intro l γ W hG hl hw hcl; exact stepV_value rfl _ rfl (.inr rfl) hG
    · intro l γ W hG hl hw hcl; exact stepV_value rfl _ rfl (.inr rfl) hG
    · intro l γ W hG hl hw hcl; exact stepV_value rfl _ (exec_slice _ _ _ _ _ rfl _ n cap rfl (sliceFrom1 b off n cap W hn hnc)) (.inr rfl) hG
    · intro l γ W hG hl hw hcl
      rw [show l 6 = false from hl, if_neg (by simp)] at hG
      subst hG
      exact stepV_run rfl _ _ γ (exec_append _ _ _ rfl _ _ rfl rfl HS.out) (SameV.refl _ _ _) (.inr rfl) rfl
    · intro l γ W hG hl hw hcl; exact stepV_value rfl _ rfl (.inr rfl) hG
  case fin =>
    intro l γ W hall hG
    rw [hall 6 (by simp), if_pos rfl] at hG
    subst hG
    have ho := HO.out
    have hcz := fun ty => run_clear1 b (off + (n - 1) * 4) (cap - (n - 1)) (w.drew.setCells b off (scells (xs.drop 1))) ty (fun j hj => (ho.2.2 j hj).1) (fun j hj => (ho.2.2 j hj).2)
    have hst := sliceTail b off n cap (w.drew.setCells b off (scells (xs.drop 1))) hn hnc
    generalize w.drew.setCells b off (scells (xs.drop 1)) = w5 at *
    have HO2 := hide ho
    have HCZ := hide hcz
    clear ho hcz HO HS
    simp only [putAll, Act.put, List.setIfInBounds_toArray, List.set_cons_succ, List.set_cons_zero]
    have h6 : (0 : Int) ≤ ((n - 1 : Nat) : Int) := by omega
    have h7 : ((n - 1 : Nat) : Int) ≤ (n : Int) := by omega
    go_wp2_with (first | refine pause (.slice _ _ _ _ _) rfl ?_ | refine pause (.call { callee := .builtin .clear, args := _, argTypes := _ }) rfl ?_)
    refine unpause ?_
    refine wpList_exec rfl _ (exec_slice _ _ _ _ _ rfl _ _ _ rfl hst) ?_
    go_wp2_with (refine pause (.call { callee := .builtin .clear, args := _, argTypes := _ }) rfl ?_)
    refine unpause ?_
    refine wpList_exec rfl _ (exec_clear _ _ rfl _ rfl (HCZ.out _)) ?_
    go_wp2_with fail
    go_ret
    exact ⟨rfl, HO2.out.1, grown_drew HO2.out.2.1⟩
set_option maxHeartbeats 1000000 in
set_option maxRecDepth 100000 in
theorem cloneS_any (A : Option Addr) (n c : Nat) (xs : List Smp) (w : World) (hr : Rd w w.heap.size 4 A n (scells xs)) (hn : n ≤ 1000) :
    Calls Try.prog 61 #[.slice A n c] w fun e w' => ∃ v, e = .returned v ∧ Ow w' w.heap.size 33 4 v n (scells xs) ∧ Below w.heap.size w w' := by
  obtain ⟨i0, hi0, hz0, hz1, hz2⟩ := info_parts infoSz
  cases A with
  | none =>
    have h0 : n = 0 := by
      rcases Nat.eq_zero_or_pos n with h | h
      · exact h
      · obtain ⟨b, off, h, _⟩ := hr.at_ h
        cases h
    subst h0
    have hx : scells xs = [] := hr.nil'
    have hq := Lib.run_eql_slice_nil (P := Try.prog) (w := w) 22
    go_enter Try.func61, Try.ntmps61
    go_wp2_with fail
    go_ret
    exact ⟨_, rfl, by rw [hx]; exact Ow.nil _ _ _ _, Below.refl _ _⟩
  | some a =>
    have hq := Lib.run_eql_slice_nil (P := Try.prog) (w := w) 22
    go_enter Try.func61, Try.ntmps61
    go_wp2_with (at_builtin; refine wpList_append_ow _ rfl (.tmp 5) (.tmp 6) _ rfl w.heap.size 33 i0 _ 4 32 Try.underlying22 hi0 hz0 hz1 hz2 rfl (by omega) (.slice (some ⟨w.heap.size, 0, none⟩) 0 0) 0 [] rfl (Ow.lit w #[] 0 (Nat.le_refl _) (by simp [maxLen]) rfl) w.heap.size (some a) n c (scells xs) rfl (hr.alloc (Nat.le_refl _) _) (scells_one xs) (by simp only [maxLen]; omega) (by omega) (by simp) ?_; intro v1 w1 hown1 hg1 hat1 hnn1)
    go_ret
    refine ⟨_, rfl, by simpa using hown1, ?_⟩
    exact (((Below.refl _ _).alloc (Nat.le_refl _) _).grown hg1 (by simp) (by simp [Value.ownBlock]))
end Go.Proofs.Ytgidaifoiljgoaa
/- gap.Meet; sweep.Agree. -/
namespace Go.Proofs.Ytgidaifoiljgoaa
open Go.RowKit
set_option linter.unusedVariables false
set_option linter.unusedSimpArgs false
theorem rd_to {w1 W : World} {s n : Nat} {A : Option Addr} {xs : List Value} (hr : Rd w1 w1.heap.size s A n xs) (h : Below w1.heap.size w1 W) : Rd W W.heap.size s A n xs := (hr.below h).more h.size
def gcell (g : Int × Int) : List Value := [.int .i64 g.1, .int .i64 g.2]
def gcells (gs : List (Int × Int)) : List Value := (gs.map gcell).flatten
theorem gcells_len : ∀ gs : List (Int × Int), (gcells gs).length = gs.length * 2
  | [] => rfl
  | g :: r => by
    have := gcells_len r
    unfold gcells at this ⊢
    rw [List.map_cons, List.flatten_cons, List.length_append, this, List.length_cons]
    simp [gcell]; omega
theorem gcells_get : ∀ (gs : List (Int × Int)) (k j : Nat) (g : Int × Int), gs[k]? = some g → j < 2 → (gcells gs)[k * 2 + j]? = (gcell g)[j]?
  | [], k, j, g, h, _ => by simp at h
  | x :: r, 0, j, g, h, hj => by
    simp at h
    subst h
    unfold gcells
    rw [List.map_cons, List.flatten_cons, Nat.zero_mul, Nat.zero_add, List.getElem?_append_left (by simpa [gcell] using hj)]
  | x :: r, k + 1, j, g, h, hj => by
    have ih := gcells_get r k j g (by simpa using h) hj
    unfold gcells at ih ⊢
    rw [List.map_cons, List.flatten_cons, List.getElem?_append_right (by simp [gcell]; omega)]
    rw [show (k + 1) * 2 + j - (gcell x).length = k * 2 + j by simp [gcell]; omega]
    exact ih
/-- One gap of a slice. -/
theorem Rd.gap {w : World} {B n : Nat} {A : Option Addr} {gs : List (Int × Int)} (h : Rd w B 2 A n (gcells gs)) {k : Nat} (hk : k < n) :
    ∃ b off g, A = some ⟨b, off, none⟩ ∧ b < B ∧ gs[k]? = some g ∧ w.cell? ⟨b, off + k * 2, none⟩ = some (.int .i64 g.1) ∧ w.cell? ⟨b, off + k * 2 + 1, none⟩ = some (.int .i64 g.2) := by
  obtain ⟨b, off, e, hb, hc⟩ := h.at_ hk
  have hl := h.1
  rw [gcells_len] at hl
  have hlt : k < gs.length := by omega
  refine ⟨b, off, gs[k], e, hb, List.getElem?_eq_getElem hlt, ?_, ?_⟩
  · have h0 := gcells_get gs k 0 gs[k] (List.getElem?_eq_getElem hlt) (by omega)
    obtain ⟨h1, h2⟩ := List.getElem?_eq_some_iff.1 (h0.trans (show (gcell gs[k])[0]? = some _ from rfl))
    have := hc (k * 2 + 0) h1
    rw [h2] at this
    exact this
  · have h0 := gcells_get gs k 1 gs[k] (List.getElem?_eq_getElem hlt) (by omega)
    obtain ⟨h1, h2⟩ := List.getElem?_eq_some_iff.1 (h0.trans (show (gcell gs[k])[1]? = some _ from rfl))
    have := hc (k * 2 + 1) h1
    rw [h2] at this
    exact this
theorem Rd.lenG {w : World} {B n : Nat} {A : Option Addr} {gs : List (Int × Int)} (h : Rd w B 2 A n (gcells gs)) : gs.length = n := by
  have := h.1
  rw [gcells_len] at this
  omega
def okG (g : Int × Int) : Bool := decide (g.1 ≤ g.2)
def meetL (s : Int × Int) (gs : List (Int × Int)) : Int × Int := gs.foldl (fun a g => (max a.1 g.1, min a.2 g.2)) s
def foldR (s : Int × Int) (gs : List (Int × Int)) : (Int × Int) × Nat := if gs.all okG = false then ((0, 0), 10) else if okG (meetL s gs) = true then (meetL s gs, 0) else ((0, 0), 13)
theorem gv_ret {a b c d : Int} (h : a = c) (h' : b = d) : Ending.returned (.agg #[.int .i64 a, .int .i64 b]) = .returned (.agg #[.int .i64 c, .int .i64 d]) := by rw [h, h']
theorem meetF_any (a b c d : Int) (w : World) : Calls Try.prog 63 #[.agg (gv a b), .agg (gv c d)] w fun e w' => e = .returned (.agg (gv (max a c) (min b d))) ∧ Below w.heap.size w w' := by
  unfold gv
  have hsz : ((w.alloc (.cells #[.int .i64 a, .int .i64 b] 39)).alloc (.cells #[.int .i64 c, .int .i64 d] 39)).heap.size = w.heap.size + 1 + 1 := by simp
  go_enter Try.func63, Try.ntmps63
  go_wp2_with fail
  all_goals
    refine bodyPost_ret_by (results_cell rfl _ (w.heap.size + 1 + 1) rfl (gv _ _) _ (by rw [← hsz]; exact Blk.new _ _ _) Try.underlying39 rfl info100) rfl ⟨?_, (((Below.refl _ _).alloc (Nat.le_refl _) _).alloc (by simp) _).alloc (by simp; omega) _⟩
    exact gv_ret (by omega) (by omega)
set_option maxHeartbeats 1000000 in
set_option maxRecDepth 100000 in
theorem fold_any (s : Int × Int) (A : Option Addr) (n c : Nat) (gs : List (Int × Int)) (w : World) (hr : Rd w w.heap.size 2 A n (gcells gs)) (hn : n ≤ 140737488351232) :
    Calls Try.prog 62 #[.agg (gv s.1 s.2), .slice A n c, .func (.func 63) #[] #[]] w fun e w' => e = .returned (.tuple #[.agg (gv (foldR s gs).1.1 (foldR s gs).1.2), .int .i64 (foldR s gs).2]) ∧ Below w.heap.size w w' := by
  have HN := hide hr.lenG
  obtain ⟨R, hR⟩ : ∃ R, R = foldR s gs := ⟨_, rfl⟩
  rw [← hR]
  have HR := hide hR
  clear hR
  obtain ⟨s1, s2⟩ := s
  have hr0 := hide hr
  have K0 := hide (((Blks.nil w).new 39 (gv s1 s2)).new 39 (gv 0 0))
  rw [World.size_alloc] at K0
  have B0 := hide (show Below w.heap.size w ((w.alloc (.cells (gv s1 s2) 39)).alloc (.cells (gv 0 0) 39)) from ((Below.refl _ _).alloc (Nat.le_refl _) _).alloc (by simp) _)
  clear hr
  go_enter Try.func62, Try.ntmps62
  go_wp2_with fail
  go_loopw [7, 12] (fun e i wr => ∃ (k : Nat) (m1 m2 : Int), k ≤ n ∧ e = .int .i64 0 ∧ i = .int .i64 k ∧ Hid (Blks wr [(w.heap.size + 1, 39, gv 0 0), (w.heap.size, 39, gv m1 m2)]) ∧ Hid (Below w.heap.size w wr) ∧ Hid ((gs.take k).all okG = true ∧ meetL (s1, s2) (gs.take k) = (m1, m2))) (fun _ i _ => n - (intOf i).toNat)
  case atStart => exact ⟨0, s1, s2, Nat.zero_le _, rfl, rfl, K0, B0, hide ⟨rfl, rfl⟩⟩
  case round =>
    clear K0 B0
    obtain ⟨k, m1, m2, hk, rfl, rfl, KR, BR, HM⟩ := hrel
    by_cases hk1 : k < n
    · obtain ⟨b, off, ⟨g1, g2⟩, rfl, hb, hg, hc0, hc1⟩ := hr0.out.gap hk1
      have c0 := (BR.out.cell (p := ⟨b, off + k * 2, none⟩) hb).trans hc0
      have c1 := (BR.out.cell (p := ⟨b, off + k * 2 + 1, none⟩) hb).trans hc1
      have HG := hide hg
      clear hg hc0 hc1
      by_cases hok : g1 ≤ g2
      · have hok2 : decide (g1 ≤ g2) = true := decide_eq_true hok
        have BRs : w.heap.size ≤ wr.heap.size := BR.out.size
        go_wp2_with fail
        refine (gapRight_any g1 g2 _).mono ?_
        rintro e w1 ⟨rfl, hb1⟩
        rw [hok2]
        have K1 := hide ((KR.out.new 39 (gv g1 g2)).next hb1)
        have B1 := hide ((BR.out.alloc BRs (.cells (gv g1 g2) 39)).trans (hb1.mono (by simp; omega)))
        have k9 := K1.out.get 0 rfl
        have k3 := K1.out.get 2 rfl
        have d0 := k9.cell 0
        have d1 := k9.cell 1
        have e0 := k3.cell 0
        have e1 := k3.cell 1
        have f0 := k3.frozen 0
        have f1 := k3.frozen 1
        simp only [gv, List.getElem?_toArray, List.getElem?_cons_zero, List.getElem?_cons_succ] at d0 d1 e0 e1
        clear hb1 k9 k3 c0 c1
        go_wp2_with fail
        refine (meetF_any m1 m2 g1 g2 _).mono ?_
        rintro e w2 ⟨rfl, hb2⟩
        have K2 := hide (K1.out.next hb2)
        have B2 := hide (B1.out.trans (hb2.mono B1.out.size))
        clear hb2 d0 d1 e0 e1 f0 f1
        go_wp2_with (refine pause (.store 39 _ _) rfl ?_)
        refine unpause ?_
        have K3 := hide (show Blks (w2.setRow w.heap.size (gv (max m1 g1) (min m2 g2))) [(w.heap.size + 1, 39, gv 0 0), (w.heap.size, 39, gv (max m1 g1) (min m2 g2))] from (K2.out.row 2 rfl _).tail)
        have B3 := hide (below_setRow B2.out (g := w.heap.size) (Nat.le_refl _) (gv (max m1 g1) (min m2 g2)))
        refine wpList_store_blk rfl 39 (.tmp 3) (.tmp 23) rfl w.heap.size rfl (gv m1 m2) (gv (max m1 g1) (min m2 g2)) rfl (K2.out.get 2 rfl) rfl info100 (gv_one _ _) ?_
        have HM2 := hide (show (gs.take (k + 1)).all okG = true ∧ meetL (s1, s2) (gs.take (k + 1)) = (max m1 g1, min m2 g2) by
          have h := HM.out
          have e : gs.take (k + 1) = gs.take k ++ [(g1, g2)] := by rw [List.take_add_one, HG.out]; rfl
          rw [e, List.all_append, h.1]
          refine ⟨by simp [okG, hok], ?_⟩
          unfold meetL at h ⊢
          rw [List.foldl_append, h.2]
          rfl)
        generalize w2.setRow w.heap.size (gv (max m1 g1) (min m2 g2)) = w3 at *
        clear K1 B1 K2 B2 KR BR HM
        go_wp2_with fail
        go_roundw
        case rel => exact ⟨k + 1, _, _, by omega, rfl, by go_num, K3, B3, HM2⟩
        case measure => simp [intOf]; omega
      · have hok2 : decide (g1 ≤ g2) = false := decide_eq_false hok
        have BRs : w.heap.size ≤ wr.heap.size := BR.out.size
        have HF := hide (show R = ((0, 0), 10) by
          rw [HR.out]
          unfold foldR
          rw [if_pos]
          rw [List.all_eq_false]
          exact ⟨(g1, g2), List.mem_of_getElem? HG.out, by simp [okG, hok]⟩)
        go_wp2_with fail
        refine (gapRight_any g1 g2 _).mono ?_
        rintro e w1 ⟨rfl, hb1⟩
        rw [hok2]
        have K1 := hide ((KR.out.new 39 (gv g1 g2)).next hb1)
        have B1 := hide ((BR.out.alloc BRs (.cells (gv g1 g2) 39)).trans (hb1.mono (by simp; omega)))
        clear hb1 c0 c1
        go_wp2_with (refine pause (.store 39 _ _) rfl ?_)
        refine unpause ?_
        refine wpList_store_blk rfl 39 (.tmp 6) (.tmp 19) rfl (w.heap.size + 1) rfl (gv 0 0) (gv 0 0) rfl (K1.out.get 1 rfl) rfl info100 (gv_one _ _) ?_
        go_wp2_with fail
        refine bodyPost_ret_by (results_cell2 rfl _ (w.heap.size + 1) rfl (gv 0 0) _ ((K1.out.get 1 rfl).setRow _) Try.underlying39 rfl info100) rfl ⟨?_, below_setRow B1.out (by omega) _⟩
        rw [HF.out]
        rfl
    · have hkn : k = n := by omega
      subst hkn
      have hm := HM.out
      rw [show gs.take k = gs from List.take_of_length_le (by have := HN.out; omega)] at hm
      have k3 := KR.out.get 1 rfl
      have e0 := k3.cell 0
      have e1 := k3.cell 1
      simp only [gv, List.getElem?_toArray, List.getElem?_cons_zero, List.getElem?_cons_succ] at e0 e1
      clear k3
      by_cases hok : m1 ≤ m2
      · have hok2 : decide (m1 ≤ m2) = true := decide_eq_true hok
        have HF := hide (show R = ((m1, m2), 0) by
          rw [HR.out]
          unfold foldR
          rw [if_neg (by rw [hm.1]; simp), hm.2, if_pos (by simp [okG, hok])])
        clear hm
        go_wp2_with fail
        refine (gapRight_any m1 m2 _).mono ?_
        rintro e w1 ⟨rfl, hb1⟩
        rw [hok2]
        have K1 := hide (KR.out.next hb1)
        have B1 := hide (BR.out.trans (hb1.mono BR.out.size))
        have k3 := K1.out.get 1 rfl
        have e0 := k3.cell 0
        have e1 := k3.cell 1
        simp only [gv, List.getElem?_toArray, List.getElem?_cons_zero, List.getElem?_cons_succ] at e0 e1
        clear hb1 k3
        go_wp2_with (refine pause (.store 39 _ _) rfl ?_)
        refine unpause ?_
        refine wpList_store_blk rfl 39 (.tmp 6) (.tmp 29) rfl (w.heap.size + 1) rfl (gv 0 0) (gv m1 m2) rfl (K1.out.get 0 rfl) rfl info100 (gv_one _ _) ?_
        go_wp2_with fail
        refine bodyPost_ret_by (results_cell2 rfl _ (w.heap.size + 1) rfl (gv m1 m2) _ ((K1.out.get 0 rfl).setRow _) Try.underlying39 rfl info100) rfl ⟨?_, below_setRow B1.out (by omega) _⟩
        rw [HF.out]
        rfl
      · have hok2 : decide (m1 ≤ m2) = false := decide_eq_false hok
        have HF := hide (show R = ((0, 0), 13) by
          rw [HR.out]
          unfold foldR
          rw [if_neg (by rw [hm.1]; simp), hm.2, if_neg (by simp [okG, hok])])
        clear hm
        go_wp2_with fail
        refine (gapRight_any m1 m2 _).mono ?_
        rintro e w1 ⟨rfl, hb1⟩
        rw [hok2]
        have K1 := hide (KR.out.next hb1)
        have B1 := hide (BR.out.trans (hb1.mono BR.out.size))
        clear hb1 e0 e1
        go_wp2_with (refine pause (.store 39 _ _) rfl ?_)
        refine unpause ?_
        refine wpList_store_blk rfl 39 (.tmp 6) (.tmp 28) rfl (w.heap.size + 1) rfl (gv 0 0) (gv 0 0) rfl (K1.out.get 0 rfl) rfl info100 (gv_one _ _) ?_
        go_wp2_with fail
        refine bodyPost_ret_by (results_cell2 rfl _ (w.heap.size + 1) rfl (gv 0 0) _ ((K1.out.get 0 rfl).setRow _) Try.underlying39 rfl info100) rfl ⟨?_, below_setRow B1.out (by omega) _⟩
        rw [HF.out]
        rfl
def allG : Int × Int := (-9223372036854775808, 9223372036854775807)
def meetR (gs : List (Int × Int)) : (Int × Int) × Nat := foldR allG gs
set_option maxHeartbeats 1000000 in
set_option maxRecDepth 100000 in
theorem meet_any (A : Option Addr) (n c : Nat) (gs : List (Int × Int)) (w : World) (hr : Rd w w.heap.size 2 A n (gcells gs)) (hn : n ≤ 140737488351232) :
    Calls Try.prog 29 #[.slice A n c] w fun e w' => e = .returned (.tuple #[.agg (gv (meetR gs).1.1 (meetR gs).1.2), .int .i64 (meetR gs).2]) ∧ Below w.heap.size w w' := by
  have K0 := hide (((Blks.nil w).new 39 (gv 0 0)).new 39 (gv (-9223372036854775808) 9223372036854775807))
  rw [World.size_alloc] at K0
  have B0 := hide (show Below w.heap.size w ((w.alloc (.cells (gv 0 0) 39)).alloc (.cells (gv (-9223372036854775808) 9223372036854775807) 39)) from ((Below.refl _ _).alloc (Nat.le_refl _) _).alloc (by simp) _)
  have HF := hide (fun w => fold_any allG A n c gs w)
  have HMR : Hid (meetR gs = foldR allG gs) := hide rfl
  rw [← HMR.out] at HF
  have R0 := hide (rd_to hr B0.out)
  generalize meetR gs = R at *
  obtain ⟨⟨m1, m2⟩, er⟩ := R
  clear hr HMR
  go_enter Try.func29, Try.ntmps29
  go_wp2_with fail
  refine (HF.out _ R0.out hn).mono ?_
  rintro e w1 ⟨rfl, hb1⟩
  have K1 := hide (K0.out.next hb1)
  have B1 := hide (B0.out.trans (hb1.mono B0.out.size))
  clear hb1 K0 B0 HF R0
  go_wp2_with (refine pause (.store 39 _ _) rfl ?_)
  refine unpause ?_
  refine wpList_store_blk rfl 39 (.tmp 2) (.tmp 9) rfl w.heap.size rfl (gv 0 0) (gv m1 m2) rfl (K1.out.get 1 rfl) rfl info100 (gv_one _ _) ?_
  go_wp2_with fail
  refine bodyPost_ret_by (results_cell2 rfl _ w.heap.size rfl (gv m1 m2) _ ((K1.out.get 1 rfl).setRow _) Try.underlying39 rfl info100) rfl ⟨rfl, below_setRow B1.out (Nat.le_refl _) _⟩
def agreeB (gs : List (Int × Int)) : Bool := decide (0 < gs.length) && decide ((meetR gs).2 = 0)
set_option maxHeartbeats 1000000 in
set_option maxRecDepth 100000 in
theorem agree_any (A : Option Addr) (n c : Nat) (gs : List (Int × Int)) (w : World) (hr : Rd w w.heap.size 2 A n (gcells gs)) (hn : n ≤ 140737488351232) :
    Calls Try.prog 45 #[.slice A n c] w fun e w' => e = .returned (.bool (agreeB gs)) ∧ Below w.heap.size w w' := by
  have HN := hide hr.lenG
  have HM := hide (fun w => meet_any A n c gs w)
  have HA : Hid (agreeB gs = (decide (0 < gs.length) && decide ((meetR gs).2 = 0))) := hide rfl
  have HR0 := hide hr
  generalize agreeB gs = r at *
  generalize meetR gs = R at *
  obtain ⟨⟨m1, m2⟩, er⟩ := R
  clear hr
  go_enter Try.func45, Try.ntmps45
  go_wp2_with fail
  refine (HM.out _ HR0.out hn).mono ?_
  rintro e w1 ⟨rfl, hb1⟩
  go_wp2_with (refine pause (.store 39 _ _) rfl ?_)
  refine unpause ?_
  have B1 := hide (below_setRow (hb1.alloc hb1.size (.cells #[.int .i64 0, .int .i64 0] 39)) (g := w1.heap.size) hb1.size (gv m1 m2))
  refine wpList_store_blk rfl 39 (.tmp 3) (.tmp 8) rfl w1.heap.size rfl #[.int .i64 0, .int .i64 0] (gv m1 m2) rfl (Blk.new _ _ _) rfl info100 (gv_one _ _) ?_
  generalize (w1.alloc (.cells #[.int .i64 0, .int .i64 0] 39)).setRow w1.heap.size (gv m1 m2) = w2 at *
  have ha := HA.out
  rw [HN.out] at ha
  clear hb1 HM HR0 HN HA
  by_cases h0 : 0 < n
  · have h1 : decide (0 < n) = true := decide_eq_true h0
    have h1' : decide ((0 : Int) < (n : Int)) = true := decide_eq_true (by omega)
    rw [h1, Bool.true_and] at ha
    have HA := hide ha
    clear ha h0
    go_wp2_with fail
    go_ret
    exact ⟨ret_bool (by rw [HA.out]; rw [Bool.eq_iff_iff]; simp), B1.out⟩
  · have h1 : decide (0 < n) = false := decide_eq_false h0
    have h1' : decide ((0 : Int) < (n : Int)) = false := decide_eq_false (by omega)
    rw [h1, Bool.false_and] at ha
    have HA := hide ha
    clear ha h0
    go_wp2_with fail
    go_ret
    exact ⟨ret_bool (by rw [HA.out]), B1.out⟩
end Go.Proofs.Ytgidaifoiljgoaa
/- clock.Clock by its conditions: what it calls, New, At. -/
namespace Go.Proofs.Ytgidaifoiljgoaa
set_option linter.unusedSimpArgs false
set_option linter.unusedVariables false
open Go.RowKit
set_option maxRecDepth 100000
abbrev iD (z : Int) : D := .v (.int .i64 z)
abbrev iA (z : Int) : AV := .d (.v (.int .i64 z))
abbrev bA (b : Bool) : AV := .d (.v (.bool b))
abbrev gR (g : Int × Int) : List D := [iD g.1, iD g.2]
abbrev gA (g : Int × Int) : AV := .d (.agg (gR g))
abbrev sR (s : Smp) : List D := [iD s.asked, iD s.got, iD s.sent, iD s.came]
abbrev sA (s : Smp) : AV := .d (.agg (sR s))
theorem right_sat (s : Smp) : Sat Try.prog 25 [sA s] [] (bA (okS s)) [] :=
  .of_calls (by repeat constructor) (by repeat constructor) fun w => right_any s w
theorem isTime_sat (t : Int) : Sat Try.prog 51 [iA t] [] (bA (isT t)) [] :=
  .of_same (by repeat constructor) (by repeat constructor) fun w => isTime_any t w
theorem isRate_sat (t : Int) : Sat Try.prog 42 [iA t] [] (bA (okRate t)) [] :=
  .of_same (by repeat constructor) (by repeat constructor) fun w => isRate_any t w
theorem at_sat (s : Smp) (stamp rho : Int) (h1 : -9223372036854775808 ≤ stamp) (h2 : stamp ≤ 9223372036854775807) : Sat Try.prog 24 [sA s, iA stamp, iA rho] [] (.tup [gA (atR s stamp rho).1, iA (atR s stamp rho).2]) [] :=
  .of_calls (by repeat constructor) (by repeat constructor) fun w => at_any s stamp rho w h1 h2
theorem gapRight_sat (g : Int × Int) : Sat Try.prog 46 [gA g] [] (bA (okG g)) [] :=
  .of_calls (by repeat constructor) (by repeat constructor) fun w => gapRight_any g.1 g.2 w
theorem gR_flat (g : Int × Int) : FlatVs (gR g) (gcell g) := by repeat constructor
theorem sR_flat (s : Smp) : FlatVs (sR s) (smv s).toList := by repeat constructor
theorem meet_sat (gs : List (Int × Int)) (hn : gs.length ≤ 140737488351232) : Sat Try.prog 29 [.d (.sl 2 (gs.map gR))] [] (.tup [gA (meetR gs).1, iA (meetR gs).2]) [] := by
  intro F ρ w vals En hv
  obtain ⟨v, rfl, hv'⟩ := hv.one_out
  cases hv' with | d hv =>
    obtain ⟨A, c, rfl, h1, h2, hr⟩ := hv.sl_rd En.fb (flat_map gR_flat gs)
    rw [List.length_map] at hr ⊢
    refine (meet_any A _ c gs w hr hn).mono ?_
    rintro e w' ⟨rfl, hb⟩
    obtain ⟨S, E'⟩ := step_below En hb
    exact ⟨_, rfl, F, ρ, S, Keep.refl _, E', FlatW.ra (by repeat constructor)⟩
theorem agree_sat (gs : List (Int × Int)) (hn : gs.length ≤ 140737488351232) : Sat Try.prog 45 [.d (.sl 2 (gs.map gR))] [] (bA (agreeB gs)) [] := by
  intro F ρ w vals En hv
  obtain ⟨v, rfl, hv'⟩ := hv.one_out
  cases hv' with | d hv =>
    obtain ⟨A, c, rfl, h1, h2, hr⟩ := hv.sl_rd En.fb (flat_map gR_flat gs)
    rw [List.length_map] at hr ⊢
    refine (agree_any A _ c gs w hr hn).mono ?_
    rintro e w' ⟨rfl, hb⟩
    obtain ⟨S, E'⟩ := step_below En hb
    exact ⟨_, rfl, F, ρ, S, Keep.refl _, E', .d (.v _)⟩
structure CSt where
  rho : Int
  least : Int
  held : Bool
  streak : Int
  list : List Smp
abbrev cR (s : CSt) : AObj := .cells [iA s.rho, iA s.least, bA s.held, iA s.streak, .own 1]
/-- A clock and its samples. -/
abbrev cH (s : CSt) : List AObj := [cR s, .sl 4 (s.list.map sR)]
theorem new_ok (rho least : Int) (h : okRate rho = true) (h1 : 0 ≤ least) (h2 : least ≤ 100) : Sat Try.prog 13 [iA rho, iA least] [] (.tup [.ptr 0 0, iA 0]) (cH ⟨rho, least, false, 0, []⟩) := by
  refine sat_of_vc (T := tiOf Try.prog) (E := E0) Try.func13 rfl rfl hE0 hm0 rfl ?_
  conv => whnf
  repeat (any_goals (first
    | exact True.intro
    | (refine Or.inl ?_; conv => whnf)
    | (refine And.intro (fun _ => ?_) tf; conv => whnf)
    | (refine And.intro ft (fun _ => ?_); conv => whnf)
    | (refine And.intro (by kernel_rfl) ?_; conv => whnf)
    | (refine And.intro (by decide) ?_; conv => whnf)
    | (refine And.intro (fun _ => ?_) (fun h => absurd h (by decide)); conv => whnf)
    | (refine And.intro (fun h => absurd h (by decide)) (fun _ => ?_); conv => whnf)
    | (refine And.intro (fun _ => ?_) (fun _ => ?_) <;> conv => whnf)
    | (refine ⟨_, _, (isRate_sat _).pu rfl rfl, ?_⟩; conv => whnf)))
  all_goals try (exfalso; simp only [decide_eq_true_eq, decide_eq_false_iff_not, Bool.not_eq_true', Bool.not_eq_false', Bool.not_eq_true, Bool.not_eq_false, beq_iff_eq, bne_iff_ne, beq_eq_false_iff_ne, bne_eq_false_iff_eq, ne_eq, Decidable.not_not] at *; first | omega | contradiction | (simp_all; done) | (simp_all; omega))
  all_goals refine ⟨[], ?_⟩
  repeat (any_goals (first | exact True.intro | exact rfl | with_reducible_and_instances rfl | exact (by kernel_rfl) | refine And.intro ?_ ?_))
  all_goals conv => whnf
theorem new_err (rho least : Int) (h : okRate rho = false ∨ least < 0 ∨ 100 < least) : Sat Try.prog 13 [iA rho, iA least] [] (.tup [.d (.v (.pointer none)), iA 11]) [] := by
  refine sat_of_vc (T := tiOf Try.prog) (E := E0) Try.func13 rfl rfl hE0 hm0 rfl ?_
  conv => whnf
  repeat (any_goals (first
    | exact True.intro
    | (refine Or.inl ?_; conv => whnf)
    | (refine And.intro (fun _ => ?_) tf; conv => whnf)
    | (refine And.intro ft (fun _ => ?_); conv => whnf)
    | (refine And.intro (by kernel_rfl) ?_; conv => whnf)
    | (refine And.intro (by decide) ?_; conv => whnf)
    | (refine And.intro (fun _ => ?_) (fun h => absurd h (by decide)); conv => whnf)
    | (refine And.intro (fun h => absurd h (by decide)) (fun _ => ?_); conv => whnf)
    | (refine And.intro (fun _ => ?_) (fun _ => ?_) <;> conv => whnf)
    | (refine ⟨_, _, (isRate_sat _).pu rfl rfl, ?_⟩; conv => whnf)))
  all_goals try (exfalso; simp only [decide_eq_true_eq, decide_eq_false_iff_not, Bool.not_eq_true', Bool.not_eq_false', Bool.not_eq_true, Bool.not_eq_false, beq_iff_eq, bne_iff_ne, beq_eq_false_iff_ne, bne_eq_false_iff_eq, ne_eq, Decidable.not_not] at *; first | omega | contradiction | (simp_all; done) | (simp_all; omega))
  all_goals refine ⟨[], ?_⟩
  repeat (any_goals (first | exact True.intro | exact rfl | with_reducible_and_instances rfl | exact (by kernel_rfl) | refine And.intro ?_ ?_))
  all_goals conv => whnf
theorem held_sat (s : CSt) : Sat Try.prog 27 [.ptr 0 0] (cH s) (bA s.held) (cH s) := by
  refine sat_of_vc (T := tiOf Try.prog) (E := E0) Try.func27 rfl rfl hE0 hm0 rfl ?_
  conv => whnf
  repeat (any_goals (first
    | exact True.intro
    | (refine Or.inl ?_; conv => whnf)
    | (refine And.intro (fun _ => ?_) tf; conv => whnf)
    | (refine And.intro ft (fun _ => ?_); conv => whnf)
    | (refine And.intro (by kernel_rfl) ?_; conv => whnf)
    | (refine And.intro (by decide) ?_; conv => whnf)
    | (refine And.intro (fun _ => ?_) (fun h => absurd h (by decide)); conv => whnf)
    | (refine And.intro (fun h => absurd h (by decide)) (fun _ => ?_); conv => whnf)
    | (refine And.intro (fun _ => ?_) (fun _ => ?_) <;> conv => whnf)))
  all_goals refine ⟨[], ?_⟩
  repeat (any_goals (first | exact True.intro | exact rfl | with_reducible_and_instances rfl | exact (by kernel_rfl) | refine And.intro ?_ ?_))
  all_goals conv => whnf
theorem streak_sat (s : CSt) : Sat Try.prog 26 [.ptr 0 0] (cH s) (iA s.streak) (cH s) := by
  refine sat_of_vc (T := tiOf Try.prog) (E := E0) Try.func26 rfl rfl hE0 hm0 rfl ?_
  conv => whnf
  repeat (any_goals (first
    | exact True.intro
    | (refine Or.inl ?_; conv => whnf)
    | (refine And.intro (fun _ => ?_) tf; conv => whnf)
    | (refine And.intro ft (fun _ => ?_); conv => whnf)
    | (refine And.intro (by kernel_rfl) ?_; conv => whnf)
    | (refine And.intro (by decide) ?_; conv => whnf)
    | (refine And.intro (fun _ => ?_) (fun h => absurd h (by decide)); conv => whnf)
    | (refine And.intro (fun h => absurd h (by decide)) (fun _ => ?_); conv => whnf)
    | (refine And.intro (fun _ => ?_) (fun _ => ?_) <;> conv => whnf)))
  all_goals refine ⟨[], ?_⟩
  repeat (any_goals (first | exact True.intro | exact rfl | with_reducible_and_instances rfl | exact (by kernel_rfl) | refine And.intro ?_ ?_))
  all_goals conv => whnf
end Go.Proofs.Ytgidaifoiljgoaa
/- clock.Clock.At, by its conditions. -/
namespace Go.Proofs.Ytgidaifoiljgoaa
set_option linter.unusedSimpArgs false
set_option linter.unusedVariables false
open Go.RowKit
set_option maxRecDepth 100000
def atC (s : CSt) (stamp : Int) : (Int × Int) × Nat :=
  if s.list = [] then ((0, 0), 19) else if isT stamp = false then ((0, 0), 11) else
    match s.list.find? (fun x => decide ((atR x stamp s.rho).2 ≠ 0)) with
    | some x => ((0, 0), (atR x stamp s.rho).2)
    | none => meetR (s.list.map fun x => (atR x stamp s.rho).1)
theorem map_get {α β : Type} {f : α → β} {l : List α} {k : Nat} {x : α} (h : l[k]? = some x) : (l.map f)[k]? = some (f x) := by rw [List.getElem?_map, h]; rfl
theorem find_hit {α : Type} {p : α → Bool} {l : List α} {k : Nat} {x : α} (hf : (l.take k).find? p = none) (hx : l[k]? = some x) (hp : p x = true) : l.find? p = some x := by
  obtain ⟨hl, rfl⟩ := List.getElem?_eq_some_iff.1 hx
  conv => lhs; rw [← List.take_append_drop k l]
  rw [List.find?_append, hf, List.drop_eq_getElem_cons hl, List.find?_cons_of_pos hp]; rfl
theorem find_next {α : Type} {p : α → Bool} {l : List α} {k : Nat} {x : α} (hf : (l.take k).find? p = none) (hx : l[k]? = some x) (hp : p x = false) : (l.take (k + 1)).find? p = none := by
  obtain ⟨hl, rfl⟩ := List.getElem?_eq_some_iff.1 hx
  rw [List.take_add_one, hx, List.find?_append, hf, Option.toList_some, List.find?_cons_of_neg (by simp [hp])]; rfl
theorem map_take_succ {α β : Type} {f : α → β} {l : List α} {k : Nat} {x : α} (hx : l[k]? = some x) : (l.take (k + 1)).map f = (l.take k).map f ++ [f x] := by
  rw [List.take_add_one, hx, List.map_append]; rfl
theorem clkAt_sat (s : CSt) (stamp : Int) (hn : s.list.length ≤ 8) : Sat Try.prog 19 [.ptr 0 0, iA stamp] (cH s) (.tup [gA (atC s stamp).1, iA (atC s stamp).2]) (cH s) := by
  have hl : (s.list.map sR).length ≤ 8 := by simpa using hn
  refine sat_of_vc (T := tiOf Try.prog) (E := E0) Try.func19 rfl rfl hE0 hm0 rfl ?_
  conv => whnf
  repeat (any_goals (first
    | exact True.intro
    | (refine Or.inl ?_; conv => whnf)
    | (refine And.intro (fun _ => ?_) tf; conv => whnf)
    | (refine And.intro ft (fun _ => ?_); conv => whnf)
    | (refine And.intro (by kernel_rfl) ?_; conv => whnf)
    | (refine And.intro (by decide) ?_; conv => whnf)
    | (refine And.intro (fun _ => ?_) (fun h => absurd h (by decide)); conv => whnf)
    | (refine And.intro (fun h => absurd h (by decide)) (fun _ => ?_); conv => whnf)
    | (refine And.intro (fun _ => ?_) (fun _ => ?_) <;> conv => whnf)
    | (refine ⟨_, _, (isTime_sat _).pu rfl rfl, ?_⟩; conv => whnf)
    | (refine ⟨_, _, mk0 2 16 (by kernel_rfl) (by omega) (by unfold maxLen; omega), ?_⟩; conv => whnf)))
  all_goals try (exfalso; simp only [decide_eq_true_eq, decide_eq_false_iff_not, Bool.not_eq_true', Bool.not_eq_false', Bool.not_eq_true, Bool.not_eq_false, beq_iff_eq, bne_iff_ne, beq_eq_false_iff_ne, bne_eq_false_iff_eq, ne_eq, Decidable.not_not] at *; first | omega | contradiction | (simp_all; done) | (simp_all; omega))
  · have h0 : s.list = [] := by simp_all
    have hr : atC s stamp = ((0, 0), 19) := by unfold atC; rw [if_pos h0]
    rw [hr]
    all_goals refine ⟨[], ?_⟩
    repeat (any_goals (first | exact True.intro | exact rfl | with_reducible_and_instances rfl | exact (by kernel_rfl) | refine And.intro ?_ ?_))
    all_goals conv => whnf
  · have h0 : s.list ≠ [] := by intro e; simp_all
    have hr : atC s stamp = ((0, 0), 11) := by unfold atC; rw [if_neg h0, if_pos (by simp_all)]
    rw [hr]
    all_goals refine ⟨[], ?_⟩
    repeat (any_goals (first | exact True.intro | exact rfl | with_reducible_and_instances rfl | exact (by kernel_rfl) | refine And.intro ?_ ?_))
    all_goals conv => whnf
  · have h0 : s.list ≠ [] := by intro e; simp_all
    have hst : isT stamp = true := by simp_all
    have hst' := of_decide_eq_true hst
    refine ⟨Nat, fun k => k ≤ s.list.length ∧ (s.list.take k).find? (fun x => decide ((atR x stamp s.rho).2 ≠ 0)) = none, fun k => ([(33, iA k), (32, iA (s.list.map sR).length), (31, .own 1), (6, .own 3), (5, iA 0), (4, .ptr 2 0), (0, .ptr 0 0), (1, iA stamp)], [cR s, .sl 4 (s.list.map sR), .cells [iA 0, iA 0], .sl 2 (((s.list.take k).map fun x => (atR x stamp s.rho).1).map gR)]), fun k => s.list.length - k, ⟨0, ⟨Nat.zero_le _, rfl⟩, ?_⟩, ?_⟩
    · all_goals refine ⟨[], ?_⟩
      repeat (any_goals (first | exact True.intro | exact rfl | with_reducible_and_instances rfl | exact (by kernel_rfl) | refine And.intro ?_ ?_))
      all_goals conv => whnf
    · rintro k ⟨hk, hf⟩
      by_cases hlt : k < s.list.length
      · have hx : s.list[k]? = some s.list[k] := List.getElem?_eq_getElem hlt
        repeat (any_goals (first
          | exact True.intro
          | (refine Or.inl ?_; conv => whnf)
          | (refine And.intro (fun _ => ?_) tf; conv => whnf)
          | (refine And.intro ft (fun _ => ?_); conv => whnf)
          | (refine And.intro (by kernel_rfl) ?_; conv => whnf)
          | (refine And.intro (by decide) ?_; conv => whnf)
          | (refine And.intro (fun _ => ?_) (fun h => absurd h (by decide)); conv => whnf)
          | (refine And.intro (fun h => absurd h (by decide)) (fun _ => ?_); conv => whnf)
          | (refine And.intro (fun _ => ?_) (fun h => absurd h (by simpa using hlt)); conv => whnf)
          | (refine ⟨_, rfl, by simpa using hlt, ?_⟩; conv => whnf)
          | (refine ⟨_, map_get hx, ?_⟩; conv => whnf)
          | (refine And.intro (fun _ => ?_) (fun _ => ?_) <;> conv => whnf)
          | (refine ⟨_, _, (at_sat _ _ _ (by omega) (by omega)).pu rfl rfl, ?_⟩; conv => whnf)
          | (refine ⟨_, _, ap 2 16 (by kernel_rfl) rfl rfl (by simp; unfold maxLen; omega), ?_⟩; conv => whnf)))
        all_goals try (exfalso; simp only [decide_eq_true_eq, decide_eq_false_iff_not, Bool.not_eq_true', Bool.not_eq_false', Bool.not_eq_true, Bool.not_eq_false, beq_iff_eq, bne_iff_ne, beq_eq_false_iff_ne, bne_eq_false_iff_eq, ne_eq, Decidable.not_not] at *; first | omega | contradiction | (simp_all; done) | (simp_all; omega))
        · have hr : atC s stamp = ((0, 0), (atR s.list[k] stamp s.rho).2) := by
            unfold atC
            rw [if_neg h0, if_neg (by simp [hst]), find_hit hf hx (by (try simp only [decide_eq_true_eq, decide_eq_false_iff_not, Bool.not_eq_true', Bool.not_eq_false', Bool.not_eq_true, Bool.not_eq_false, beq_iff_eq, bne_iff_ne, beq_eq_false_iff_ne, bne_eq_false_iff_eq, ne_eq, Decidable.not_not, Int.natCast_eq_zero] at *); first | omega | assumption | (simp_all; done) | (simp_all; omega))]
          rw [hr]
          all_goals refine ⟨[], ?_⟩
          repeat (any_goals (first | exact True.intro | exact rfl | with_reducible_and_instances rfl | exact (by kernel_rfl) | refine And.intro ?_ ?_))
          all_goals conv => whnf
        · repeat (any_goals (first
            | exact True.intro
            | (refine Or.inl ?_; conv => whnf)
            | (refine And.intro (fun _ => ?_) tf; conv => whnf)
            | (refine And.intro ft (fun _ => ?_); conv => whnf)
            | (refine And.intro (by kernel_rfl) ?_; conv => whnf)
            | (refine And.intro (by decide) ?_; conv => whnf)
            | (refine And.intro (fun _ => ?_) (fun h => absurd h (by decide)); conv => whnf)
            | (refine And.intro (fun h => absurd h (by decide)) (fun _ => ?_); conv => whnf)
            | (refine And.intro (fun _ => ?_) (fun _ => ?_) <;> conv => whnf)
            | (refine ⟨_, _, ap 2 16 (by kernel_rfl) rfl rfl (by simp; omega), ?_⟩; conv => whnf)))
          refine ⟨k + 1, ⟨hlt, find_next hf hx (by (try simp only [decide_eq_true_eq, decide_eq_false_iff_not, Bool.not_eq_true', Bool.not_eq_false', Bool.not_eq_true, Bool.not_eq_false, beq_iff_eq, bne_iff_ne, beq_eq_false_iff_ne, bne_eq_false_iff_eq, ne_eq, Decidable.not_not, Int.natCast_eq_zero] at *); first | omega | assumption | (simp_all; done) | (simp_all; omega))⟩, ?_, ?_⟩
          · show s.list.length - (k + 1) < s.list.length - k
            omega
          · all_goals refine ⟨[(3, 7)], ?_⟩
            repeat (any_goals (first | exact True.intro | exact rfl | with_reducible_and_instances rfl | exact (by kernel_rfl) | refine And.intro ?_ ?_))
            all_goals conv => whnf
            · exact wk1 (by omega)
            · rw [map_take_succ hx, List.map_append]; rfl
      · repeat (any_goals (first
          | exact True.intro
          | (refine Or.inl ?_; conv => whnf)
          | (refine And.intro (fun _ => ?_) tf; conv => whnf)
          | (refine And.intro ft (fun _ => ?_); conv => whnf)
          | (refine And.intro (by kernel_rfl) ?_; conv => whnf)
          | (refine And.intro (by decide) ?_; conv => whnf)
          | (refine And.intro (fun _ => ?_) (fun h => absurd h (by decide)); conv => whnf)
          | (refine And.intro (fun h => absurd h (by decide)) (fun _ => ?_); conv => whnf)
          | (refine And.intro (fun h => absurd h (by simpa using hlt)) (fun _ => ?_); conv => whnf)
          | (refine And.intro (fun _ => ?_) (fun _ => ?_) <;> conv => whnf)
          | (refine ⟨_, _, lendO (meet_sat _ (by simp; omega)) rfl rfl, ?_⟩; conv => whnf)))
        have hr : atC s stamp = meetR (s.list.map fun x => (atR x stamp s.rho).1) := by
          unfold atC
          rw [List.take_of_length_le (by omega)] at hf
          rw [if_neg h0, if_neg (by simp [hst]), hf]
        rw [hr]
        have hk' : s.list.take k = s.list := List.take_of_length_le (by omega)
        rw [hk']
        all_goals refine ⟨[], ?_⟩
        repeat (any_goals (first | exact True.intro | exact rfl | with_reducible_and_instances rfl | exact (by kernel_rfl) | refine And.intro ?_ ?_))
        all_goals conv => whnf
end Go.Proofs.Ytgidaifoiljgoaa
/- Comparisons of pointers, truth values and structs. No program is named here. -/
namespace Go.Proofs.Ytgidaifoiljgoaa
set_option linter.unusedSimpArgs false
set_option linter.unusedVariables false
open Go.RowKit
section
variable {P : Program} {w w' : World} {F F' : Nat → Prop} {ρ ρ' : Nat → Option Value} {H : Hp} {L : List AObj} {ty n : Nat} {x y : Operand} {t t' : TypeId}
def isBoolT (P : Program) (t : TypeId) : Bool := match P.underlying t with | some .bool => true | _ => false
def isPtrT (P : Program) (t : TypeId) : Bool := match P.underlying t with | some (.pointer _) => true | _ => false
def isSliT (P : Program) (t : TypeId) : Bool := match P.underlying t with | some (.slice _) => true | _ => false
theorem isPtrT_out (h : isPtrT P t = true) : ∃ e, P.underlying t = some (.pointer e) := by
  unfold isPtrT at h
  split at h
  · exact ⟨_, by assumption⟩
  · cases h
theorem isBoolT_out (h : isBoolT P t = true) : P.underlying t = some .bool := by
  unfold isBoolT at h
  split at h
  · assumption
  · cases h
theorem isSliT_out (h : isSliT P t = true) : ∃ e, P.underlying t = some (.slice e) := by
  unfold isSliT at h
  split at h
  · exact ⟨_, by assumption⟩
  · cases h
theorem does_ra2 {op : Op} {x y : Operand} {a b : AV} {r : Value} (hop : op.operands = #[x, y]) (h : ∀ (o : Oper) (w : World) (F : Nat → Prop) (ρ : Nat → Option Value) (ev : Operand → Value) (u v : Value), o.op = op → ev x = u → ev y = v → RA w F ρ a u → RA w F ρ b v → (execOp ev o).run P w = .ok (.value r) w) : Does P op ty L n [a, b] e0 (.d (.v r)) :=
  does_val fun o w F ρ ev ho _ hx => by
    rw [hop] at hx
    obtain ⟨v1, v2, e, h1, h2⟩ := hx.two_out
    simp at e
    exact ⟨r, h o w F ρ ev v1 v2 ho e.1 e.2 h1 h2, .d (.v r)⟩
theorem run_eq {op : BinOp} {u v : Value} {b c : Bool} {g : Bool → Bool} (hb : ∀ d : Nat, (Op.equalIn (d + 1) t u v).run P w = .ok b w) (hf : binOp op t u v = (do let r ← Op.equal t u v; pure (.bool (g r))))
    (hc : c = g b) : (binOp op t u v).run P w = .ok (.bool c) w := by
  rw [hf, hc]
  have h := hb 9999
  simp [Op.equal, Op.maxDepth, h]
theorem eq_form (u v : Value) (h : (match u, v with | .int .., .int .. => false | .float .., .float .. => false | .complex .., .complex .. => false | .string _, .string _ => false | _, _ => true) = true) : binOp .eql t u v = (do let r ← Op.equal t u v; pure (.bool (id r))) := by
  cases u <;> cases v <;> first | rfl | (simp at h; done)
theorem ne_form (u v : Value) (h : (match u, v with | .int .., .int .. => false | .float .., .float .. => false | .complex .., .complex .. => false | .string _, .string _ => false | _, _ => true) = true) : binOp .neq t u v = (do let r ← Op.equal t u v; pure (.bool (!r))) := by
  cases u <;> cases v <;> first | rfl | (simp at h; done)
theorem guard_form {op : BinOp} (u v : Value) (h : (match u, v with | .nilIface, .nilIface => false | .agg _, .agg _ => false | _, _ => true) = true) : (eqGuard op t x y u v).run P w = .ok () w := by
  cases u <;> cases v <;> first | (cases op <;> rfl) | (simp at h)
theorem exec_eq {op : BinOp} {o : Oper} {ev : Operand → Value} {u v : Value} {c : Bool} (ho : o.op = .binOp op t x y t') (h1 : ev x = u) (h2 : ev y = v) (hg : (eqGuard op t x y u v).run P w = .ok () w) (hb : (binOp op t u v).run P w = .ok (.bool c) w) :
    (execOp ev o).run P w = .ok (.value (.bool c)) w := by
  simp only [execOp, ho, h1, h2]
  simp [hg, hb]
theorem eqB {a b : Bool} (h : isBoolT P t = true) : Does P (.binOp .eql t x y t') ty L n [.d (.v (.bool a)), .d (.v (.bool b))] e0 (.d (.v (.bool (a == b)))) :=
  does_lit2 rfl fun o w ev ho h1 h2 => exec_eq ho h1 h2 (guard_form _ _ rfl) (run_eq (b := a == b) (fun d => by simp [Op.equalIn, run_underlying (isBoolT_out h)]) (eq_form _ _ rfl) rfl)
theorem neB {a b : Bool} (h : isBoolT P t = true) : Does P (.binOp .neq t x y t') ty L n [.d (.v (.bool a)), .d (.v (.bool b))] e0 (.d (.v (.bool (a != b)))) :=
  does_lit2 rfl fun o w ev ho h1 h2 => exec_eq ho h1 h2 (guard_form _ _ rfl) (run_eq (b := a == b) (fun d => by simp [Op.equalIn, run_underlying (isBoolT_out h)]) (ne_form _ _ rfl) rfl)
theorem eqP {i k : Nat} (h : isPtrT P t = true) : Does P (.binOp .eql t x y t') ty L n [.ptr i k, .d (.v (.pointer none))] e0 (.d (.v (.bool false))) :=
  does_ra2 rfl fun o w F ρ ev u v ho h1 h2 hu hv => by
    obtain ⟨e, he⟩ := isPtrT_out h
    have := hv.v_out
    subst this
    cases hu
    exact exec_eq ho h1 h2 (guard_form _ _ rfl) (run_eq (b := false) (fun d => by simp [Op.equalIn, run_underlying he]) (eq_form _ _ rfl) rfl)
theorem neP {i k : Nat} (h : isPtrT P t = true) : Does P (.binOp .neq t x y t') ty L n [.ptr i k, .d (.v (.pointer none))] e0 (.d (.v (.bool true))) :=
  does_ra2 rfl fun o w F ρ ev u v ho h1 h2 hu hv => by
    obtain ⟨e, he⟩ := isPtrT_out h
    have := hv.v_out
    subst this
    cases hu
    exact exec_eq ho h1 h2 (guard_form _ _ rfl) (run_eq (b := false) (fun d => by simp [Op.equalIn, run_underlying he]) (ne_form _ _ rfl) rfl)
theorem eqN (h : isPtrT P t = true) : Does P (.binOp .eql t x y t') ty L n [.d (.v (.pointer none)), .d (.v (.pointer none))] e0 (.d (.v (.bool true))) :=
  does_lit2 rfl fun o w ev ho h1 h2 => by
    obtain ⟨e, he⟩ := isPtrT_out h
    exact exec_eq ho h1 h2 (guard_form _ _ rfl) (run_eq (b := true) (fun d => by simp [Op.equalIn, run_underlying he]) (eq_form _ _ rfl) rfl)
theorem neN (h : isPtrT P t = true) : Does P (.binOp .neq t x y t') ty L n [.d (.v (.pointer none)), .d (.v (.pointer none))] e0 (.d (.v (.bool false))) :=
  does_lit2 rfl fun o w ev ho h1 h2 => by
    obtain ⟨e, he⟩ := isPtrT_out h
    exact exec_eq ho h1 h2 (guard_form _ _ rfl) (run_eq (b := true) (fun d => by simp [Op.equalIn, run_underlying he]) (ne_form _ _ rfl) rfl)
/-! ### structs of numbers -/
def intT (P : Program) (t : TypeId) : Bool := match P.underlying t with | some (.int _) => true | _ => false
theorem intT_out (h : intT P t = true) : ∃ k, P.underlying t = some (.int k) := by
  unfold intT at h
  split at h
  · exact ⟨_, by assumption⟩
  · cases h
def eq2T (P : Program) (t : TypeId) : Bool := match P.underlying t with
  | some (.struct fs) => (match fs.toList with
    | [f, g] => !P.stoodInHeld t && !P.eqGuardType P.depth t && f.name != "_" && Nat.beq f.offset 0 && intT P f.type && g.name != "_" && Nat.beq g.offset 1 && intT P g.type
    | _ => false)
  | _ => false
theorem run_eq2 {k k' : IntKind} {a b c d : Int} (h : eq2T P t = true) (m : Nat) : (Op.equalIn (m + 2) t (.agg #[.int k a, .int k' b]) (.agg #[.int k c, .int k' d])).run P w = .ok (a == c && b == d) w := by
  unfold eq2T at h
  split at h
  · rename_i fs hu
    split at h
    · rename_i f g hfs
      obtain rfl : fs = #[f, g] := by cases fs; simp at hfs; rw [hfs]
      simp only [Bool.and_eq_true, Bool.not_eq_true', bne_iff_ne] at h
      obtain ⟨⟨⟨⟨⟨⟨⟨h1, _⟩, h3⟩, h4⟩, h5⟩, h6⟩, h7⟩, h8⟩ := h
      obtain ⟨q1, e1⟩ := intT_out h5
      obtain ⟨q2, e2⟩ := intT_out h8
      have h4 := Nat.eq_of_beq_eq_true h4
      have h7 := Nat.eq_of_beq_eq_true h7
      have p1 : ∀ u v : Value, (part f.type #[u, v] 0).run P w = .ok u w := fun u v => by simp [part, isAgg, run_underlying e1]
      have p2 : ∀ u v : Value, (part g.type #[u, v] 1).run P w = .ok v w := fun u v => by simp [part, isAgg, run_underlying e2]
      have q1 : ∀ m a c, (Op.equalIn (m + 1) f.type (.int k a) (.int k c)).run P w = .ok (a == c) w := fun m a c => by simp [Op.equalIn, run_underlying e1]
      have q2 : ∀ m a c, (Op.equalIn (m + 1) g.type (.int k' a) (.int k' c)).run P w = .ok (a == c) w := fun m a c => by simp [Op.equalIn, run_underlying e2]
      rw [Op.equalIn]
      simp [run_underlying hu, h1, h3, h6, h4, h7, p1, p2, q1, q2]
      cases hac : a == c <;> cases hbd : b == d <;> simp_all
    · cases h
  · cases h
theorem eq2_guard {op : BinOp} {us vs : Array Value} (h : eq2T P t = true) : (eqGuard op t x y (.agg us) (.agg vs)).run P w = .ok () w := by
  have hg : P.eqGuardType P.depth t = false := by
    unfold eq2T at h
    split at h
    · split at h
      · simp only [Bool.and_eq_true, Bool.not_eq_true', bne_iff_ne] at h
        exact h.1.1.1.1.1.1.2
      · cases h
    · cases h
  cases op <;> simp [eqGuard, hg]
theorem run_equal2 {k k' : IntKind} {a b c d : Int} (h : eq2T P t = true) : (Op.equal t (.agg #[.int k a, .int k' b]) (.agg #[.int k c, .int k' d])).run P w = .ok (a == c && b == d) w := run_eq2 h 9998
theorem agg2 {k k' : IntKind} {a b : Int} {v : Value} (h : RA w F ρ (.d (.agg [.v (.int k a), .v (.int k' b)])) v) : v = .agg #[.int k a, .int k' b] :=
  FlatW.eq (by repeat constructor) h
/-- Two structs of two numbers. -/
theorem eqS {k k' : IntKind} {a b c d : Int} (h : eq2T P t = true) : Does P (.binOp .eql t x y t') ty L n [.d (.agg [.v (.int k a), .v (.int k' b)]), .d (.agg [.v (.int k c), .v (.int k' d)])] e0 (.d (.v (.bool (a == c && b == d)))) :=
  does_ra2 rfl fun o w F ρ ev u v ho h1 h2 hu hv => by
    have := agg2 hu
    subst this
    have := agg2 hv
    subst this
    exact exec_eq ho h1 h2 (eq2_guard h) (by rw [eq_form _ _ rfl]; simp [run_equal2 h])
theorem neS {k k' : IntKind} {a b c d : Int} (h : eq2T P t = true) : Does P (.binOp .neq t x y t') ty L n [.d (.agg [.v (.int k a), .v (.int k' b)]), .d (.agg [.v (.int k c), .v (.int k' d)])] e0 (.d (.v (.bool (!(a == c && b == d))))) :=
  does_ra2 rfl fun o w F ρ ev u v ho h1 h2 hu hv => by
    have := agg2 hu
    subst this
    have := agg2 hv
    subst this
    exact exec_eq ho h1 h2 (eq2_guard h) (by rw [ne_form _ _ rfl]; simp [run_equal2 h])
end
end Go.Proofs.Ytgidaifoiljgoaa
/- Numbers of any length, in limbs (the document's), by conditions. -/
namespace Go.Proofs.Ytgidaifoiljgoaa
set_option linter.unusedSimpArgs false
set_option linter.unusedVariables false
open Go.RowKit
set_option maxRecDepth 100000
abbrev lR (d : Int) : List D := [iD d]
abbrev lD (l : List Int) : D := .sl 1 (l.map lR)
/-- Limbs without noughts at the top. -/
def topN (l : List Int) : Nat → Nat
  | 0 => 0
  | n + 1 => if (l[n]?).getD 0 = 0 then topN l n else n + 1
def trimL (l : List Int) : List Int := l.take (topN l l.length)
theorem topN_le (l : List Int) : ∀ n, topN l n ≤ n
  | 0 => Nat.le_refl _
  | n + 1 => by
    unfold topN
    split
    · exact Nat.le_succ_of_le (topN_le l n)
    · exact Nat.le_refl _
theorem lD_take (l : List Int) (n : Nat) : lD (l.take n) = .sl 1 ((l.map lR).take n) := by unfold lD; rw [List.map_take]
theorem lR_flat (z : Int) : FlatVs (lR z) [.int .i64 z] := by repeat constructor
theorem limb_sat (l : List Int) (i : Nat) : Sat Try.prog 99 [.d (lD l), iA i] [] (iA ((l[i]?).getD 0)) [] := by
  by_cases h : i < l.length
  · have hx : l[i]? = some l[i] := List.getElem?_eq_getElem h
    generalize l[i] = x at hx
    rw [hx]
    refine sat_of_vc (T := tiOf Try.prog) (E := E0) Try.func99 rfl rfl hE0 hm0 rfl ?_
    conv => whnf
    repeat (any_goals (first
      | exact True.intro
      | (refine Or.inl ?_; conv => whnf)
      | (refine And.intro (fun _ => ?_) tf; conv => whnf)
      | (refine And.intro ft (fun _ => ?_); conv => whnf)
      | (refine And.intro (by kernel_rfl) ?_; conv => whnf)
      | (refine And.intro (by decide) ?_; conv => whnf)
      | (refine And.intro (fun _ => ?_) (fun h => absurd h (by decide)); conv => whnf)
      | (refine And.intro (fun h => absurd h (by decide)) (fun _ => ?_); conv => whnf)
      | (refine ⟨i, _, rfl, map_get hx, ?_⟩; conv => whnf)
      | (refine And.intro (fun _ => ?_) (fun _ => ?_) <;> conv => whnf)))
    all_goals try (exfalso; simp only [decide_eq_true_eq, decide_eq_false_iff_not, Bool.not_eq_true', Bool.not_eq_false', Bool.not_eq_true, Bool.not_eq_false, beq_iff_eq, bne_iff_ne, beq_eq_false_iff_ne, bne_eq_false_iff_eq, ne_eq, Decidable.not_not] at *; first | omega | contradiction | (simp_all; done) | (simp_all; omega))
    all_goals refine ⟨[], ?_⟩
    repeat (any_goals (first | exact True.intro | exact rfl | with_reducible_and_instances rfl | exact (by kernel_rfl) | refine And.intro ?_ ?_))
    all_goals conv => whnf
  · rw [List.getElem?_eq_none (by omega)]
    refine sat_of_vc (T := tiOf Try.prog) (E := E0) Try.func99 rfl rfl hE0 hm0 rfl ?_
    conv => whnf
    repeat (any_goals (first
      | exact True.intro
      | (refine Or.inl ?_; conv => whnf)
      | (refine And.intro (fun _ => ?_) tf; conv => whnf)
      | (refine And.intro ft (fun _ => ?_); conv => whnf)
      | (refine And.intro (by kernel_rfl) ?_; conv => whnf)
      | (refine And.intro (by decide) ?_; conv => whnf)
      | (refine And.intro (fun _ => ?_) (fun h => absurd h (by decide)); conv => whnf)
      | (refine And.intro (fun h => absurd h (by decide)) (fun _ => ?_); conv => whnf)
      | (refine And.intro (fun _ => ?_) (fun _ => ?_) <;> conv => whnf)))
    all_goals try (exfalso; simp only [decide_eq_true_eq, decide_eq_false_iff_not, Bool.not_eq_true', Bool.not_eq_false', Bool.not_eq_true, Bool.not_eq_false, beq_iff_eq, bne_iff_ne, beq_eq_false_iff_ne, bne_eq_false_iff_eq, ne_eq, Decidable.not_not] at *; first | omega | contradiction | (simp_all; done) | (simp_all; omega))
    all_goals refine ⟨[], ?_⟩
    repeat (any_goals (first | exact True.intro | exact rfl | with_reducible_and_instances rfl | exact (by kernel_rfl) | refine And.intro ?_ ?_))
    all_goals conv => whnf
theorem trim_sat (l : List Int) (hn : l.length ≤ 4611686018427387904) : Sat Try.prog 98 [.d (lD l)] [] (.d (lD (trimL l))) [] := by
  refine sat_of_vc (T := tiOf Try.prog) (E := E0) Try.func98 rfl rfl hE0 hm0 rfl ?_
  conv => whnf
  repeat (any_goals (first
    | exact True.intro
    | (refine And.intro (fun _ => ?_) tf; conv => whnf)
    | (refine And.intro ft (fun _ => ?_); conv => whnf)
    | (refine And.intro (by kernel_rfl) ?_; conv => whnf)
    | (refine And.intro (by decide) ?_; conv => whnf)
    | (refine And.intro (fun _ => ?_) (fun h => absurd h (by decide)); conv => whnf)
    | (refine And.intro (fun h => absurd h (by decide)) (fun _ => ?_); conv => whnf)
    | (refine And.intro (fun _ => ?_) (fun _ => ?_) <;> conv => whnf)))
  all_goals try (refine Or.inl ?_; conv => whnf)
  repeat (any_goals (first
    | exact True.intro
    | (refine And.intro (fun _ => ?_) tf; conv => whnf)
    | (refine And.intro ft (fun _ => ?_); conv => whnf)
    | (refine And.intro (by kernel_rfl) ?_; conv => whnf)
    | (refine And.intro (by decide) ?_; conv => whnf)
    | (refine And.intro (fun _ => ?_) (fun h => absurd h (by decide)); conv => whnf)
    | (refine And.intro (fun h => absurd h (by decide)) (fun _ => ?_); conv => whnf)
    | (refine And.intro (fun _ => ?_) (fun _ => ?_) <;> conv => whnf)))
  refine ⟨Nat, fun n => n ≤ l.length ∧ topN l n = topN l l.length, fun n => ([(3, iA n), (0, .d (lD l))], []), fun n => n, ⟨l.length, ⟨Nat.le_refl _, rfl⟩, ?_⟩, ?_⟩
  · all_goals refine ⟨[], ?_⟩
    repeat (any_goals (first | exact True.intro | exact rfl | with_reducible_and_instances rfl | exact (by kernel_rfl) | refine And.intro ?_ ?_))
    all_goals conv => whnf
    rw [List.length_map]
  rintro n ⟨h1, h2⟩
  conv => whnf
  cases n with
  | zero =>
    repeat (any_goals (first
      | exact True.intro
      | (refine Or.inl ?_; conv => whnf)
      | (refine And.intro (fun _ => ?_) tf; conv => whnf)
      | (refine And.intro ft (fun _ => ?_); conv => whnf)
      | (refine And.intro (by kernel_rfl) ?_; conv => whnf)
      | (refine And.intro (by decide) ?_; conv => whnf)
      | (refine And.intro (fun _ => ?_) (fun h => absurd h (by decide)); conv => whnf)
      | (refine And.intro (fun h => absurd h (by decide)) (fun _ => ?_); conv => whnf)
      | (refine And.intro (fun _ => ?_) (fun _ => ?_) <;> conv => whnf)
      | (refine ⟨_, _, upto_d 1 8 (by kernel_rfl) (Nat.zero_le _), ?_⟩; conv => whnf)))
    all_goals try (exfalso; simp only [decide_eq_true_eq, decide_eq_false_iff_not, Bool.not_eq_true', Bool.not_eq_false', Bool.not_eq_true, Bool.not_eq_false, beq_iff_eq, bne_iff_ne, beq_eq_false_iff_ne, bne_eq_false_iff_eq, ne_eq, Decidable.not_not] at *; first | omega | contradiction | (simp_all; done) | (simp_all; omega))
    have hr : trimL l = l.take 0 := by unfold trimL; rw [← h2]; rfl
    rw [hr, lD_take]
    all_goals refine ⟨[], ?_⟩
    repeat (any_goals (first | exact True.intro | exact rfl | with_reducible_and_instances rfl | exact (by kernel_rfl) | refine And.intro ?_ ?_))
    all_goals conv => whnf
  | succ n =>
    have hx : l[n]? = some l[n] := List.getElem?_eq_getElem (by omega)
    generalize l[n] = x at hx
    have hw : IntKind.i64.wrap (((n + 1 : Nat) : Int) - 1) = (n : Int) := by rw [wi (by omega) (by omega)]; omega
    have ht : topN l (n + 1) = if x = 0 then topN l n else n + 1 := by rw [topN, hx]; rfl
    repeat (any_goals (first
      | exact True.intro
      | (refine Or.inl ?_; conv => whnf)
      | (refine And.intro (fun _ => ?_) tf; conv => whnf)
      | (refine And.intro ft (fun _ => ?_); conv => whnf)
      | (refine And.intro (by kernel_rfl) ?_; conv => whnf)
      | (refine And.intro (by decide) ?_; conv => whnf)
      | (refine And.intro (fun _ => ?_) (fun h => absurd h (by decide)); conv => whnf)
      | (refine And.intro (fun h => absurd h (by decide)) (fun _ => ?_); conv => whnf)
      | (refine ⟨n, _, hw, map_get hx, ?_⟩; conv => whnf)
      | (refine And.intro (fun _ => ?_) (fun _ => ?_) <;> conv => whnf)
      | (refine ⟨_, _, upto_d 1 8 (by kernel_rfl) (by rw [List.length_map]; exact h1), ?_⟩; conv => whnf)))
    all_goals try (exfalso; simp only [decide_eq_true_eq, decide_eq_false_iff_not, Bool.not_eq_true', Bool.not_eq_false', Bool.not_eq_true, Bool.not_eq_false, beq_iff_eq, bne_iff_ne, beq_eq_false_iff_ne, bne_eq_false_iff_eq, ne_eq, Decidable.not_not] at *; first | omega | contradiction | (simp_all; done) | (simp_all; omega))
    · have h0 : x = 0 := (by (try simp only [decide_eq_true_eq, decide_eq_false_iff_not, Bool.not_eq_true', Bool.not_eq_false', Bool.not_eq_true, Bool.not_eq_false, beq_iff_eq, bne_iff_ne, beq_eq_false_iff_ne, bne_eq_false_iff_eq, ne_eq, Decidable.not_not, Int.natCast_eq_zero] at *); first | omega | assumption | (simp_all; done) | (simp_all; omega))
      refine ⟨n, ⟨by omega, by rw [← h2, ht, if_pos h0]⟩, Nat.lt_succ_self n, ?_⟩
      all_goals refine ⟨[], ?_⟩
      repeat (any_goals (first | exact True.intro | exact rfl | with_reducible_and_instances rfl | exact (by kernel_rfl) | refine And.intro ?_ ?_))
      all_goals conv => whnf
      rw [hw]
    · have h0 : ¬ x = 0 := (by (try simp only [decide_eq_true_eq, decide_eq_false_iff_not, Bool.not_eq_true', Bool.not_eq_false', Bool.not_eq_true, Bool.not_eq_false, beq_iff_eq, bne_iff_ne, beq_eq_false_iff_ne, bne_eq_false_iff_eq, ne_eq, Decidable.not_not, Int.natCast_eq_zero] at *); first | omega | assumption | (simp_all; done) | (simp_all; omega))
      have hr : trimL l = l.take (n + 1) := by unfold trimL; rw [← h2, ht, if_neg h0]
      rw [hr, lD_take]
      all_goals refine ⟨[], ?_⟩
      repeat (any_goals (first | exact True.intro | exact rfl | with_reducible_and_instances rfl | exact (by kernel_rfl) | refine And.intro ?_ ?_))
      all_goals conv => whnf
abbrev nD (neg : Bool) (l : List Int) : D := .agg [.v (.bool neg), lD l]
theorem trimL_le (l : List Int) : (trimL l).length ≤ l.length := by unfold trimL; rw [List.length_take]; omega
theorem made_sat (neg : Bool) (l : List Int) (hn : l.length ≤ 4611686018427387904) : Sat Try.prog 77 [bA neg, .d (lD l)] [] (.d (nD (neg && decide (0 < (trimL l).length)) (trimL l))) [] := by
  refine sat_of_vc (T := tiOf Try.prog) (E := E0) Try.func77 rfl rfl hE0 hm0 rfl ?_
  conv => whnf
  repeat (any_goals (first
    | exact True.intro
    | (refine Or.inl ?_; conv => whnf)
    | (refine And.intro (fun _ => ?_) tf; conv => whnf)
    | (refine And.intro ft (fun _ => ?_); conv => whnf)
    | (refine And.intro (by kernel_rfl) ?_; conv => whnf)
    | (refine And.intro (by decide) ?_; conv => whnf)
    | (refine And.intro (fun _ => ?_) (fun h => absurd h (by decide)); conv => whnf)
    | (refine And.intro (fun h => absurd h (by decide)) (fun _ => ?_); conv => whnf)
    | (refine And.intro (fun _ => ?_) (fun _ => ?_) <;> conv => whnf)
    | (refine ⟨_, _, (trim_sat l hn).pu rfl rfl, ?_⟩; conv => whnf)))
  · have hb : (neg && decide (0 < (trimL l).length)) = decide ((((trimL l).map lR).length : Int) > 0) := by
      rw [List.length_map, show neg = true by assumption]
      simp
    rw [hb]
    all_goals refine ⟨[], ?_⟩
    repeat (any_goals (first | exact True.intro | exact rfl | with_reducible_and_instances rfl | exact (by kernel_rfl) | refine And.intro ?_ ?_))
    all_goals conv => whnf
  · have hb : (neg && decide (0 < (trimL l).length)) = false := by rw [show neg = false by assumption]; rfl
    rw [hb]
    all_goals refine ⟨[], ?_⟩
    repeat (any_goals (first | exact True.intro | exact rfl | with_reducible_and_instances rfl | exact (by kernel_rfl) | refine And.intro ?_ ?_))
    all_goals conv => whnf
theorem frz_b {P : Program} {g : FuncId} {L : List AObj} {n i s : Nat} {rows : List (List D)} {x : D} {r : AV} (h : Sat P g [.d x, .d (.sl s rows)] [] r []) (hi : L[i]? = some (.sl s rows)) (hr : AV.lt 0 r = true) : CallOK P g [.d x, .own i] L n ⟨[i], [(i, .dead)], []⟩ r :=
  h.frz (ids := [i]) ⟨rfl, [], rfl, hi, rfl⟩ hr
theorem frz_a {P : Program} {g : FuncId} {L : List AObj} {n i s : Nat} {rows : List (List D)} {r : AV} (h : Sat P g [.d (.sl s rows)] [] r []) (hi : L[i]? = some (.sl s rows)) (hr : AV.lt 0 r = true) : CallOK P g [.own i] L n ⟨[i], [(i, .dead)], []⟩ r :=
  h.frz (ids := [i]) ⟨[], rfl, hi, rfl⟩ hr
/-- Four limbs. -/
def limb4 (v : Int) : Nat → List Int
  | 0 => []
  | n + 1 => v % 65536 :: limb4 (v / 65536) n
theorem whole_sat (v : Int) (h0 : 0 ≤ v) (h1 : v ≤ 18446744073709551615) : Sat Try.prog 76 [.d (.v (.int .u64 v))] [] (.d (nD false (trimL (limb4 v 4)))) [] := by
  have mk := made_sat false (limb4 v 4) (by simp [limb4])
  refine sat_of_vc (T := tiOf Try.prog) (E := E0) Try.func76 rfl rfl hE0 hm0 rfl ?_
  conv => whnf
  repeat (any_goals (first
    | exact True.intro
    | (refine And.intro (fun _ => ?_) tf; conv => whnf)
    | (refine And.intro ft (fun _ => ?_); conv => whnf)
    | (refine And.intro (by kernel_rfl) ?_; conv => whnf)
    | (refine And.intro (by decide) ?_; conv => whnf)
    | (refine And.intro (fun _ => ?_) (fun h => absurd h (by decide)); conv => whnf)
    | (refine And.intro (fun h => absurd h (by decide)) (fun _ => ?_); conv => whnf)
    | (refine And.intro (fun _ => ?_) (fun _ => ?_) <;> conv => whnf)))
  all_goals try (refine Or.inl ?_; conv => whnf)
  repeat (any_goals (first
    | exact True.intro
    | (refine And.intro (fun _ => ?_) tf; conv => whnf)
    | (refine And.intro ft (fun _ => ?_); conv => whnf)
    | (refine And.intro (by kernel_rfl) ?_; conv => whnf)
    | (refine And.intro (by decide) ?_; conv => whnf)
    | (refine And.intro (fun _ => ?_) (fun h => absurd h (by decide)); conv => whnf)
    | (refine And.intro (fun h => absurd h (by decide)) (fun _ => ?_); conv => whnf)
    | (refine And.intro (fun _ => ?_) (fun _ => ?_) <;> conv => whnf)))
  refine ⟨Nat × Int × List Int, fun y => y.1 ≤ 4 ∧ 0 ≤ y.2.1 ∧ y.2.1 ≤ 18446744073709551615 ∧ limb4 v 4 = y.2.2 ++ limb4 y.2.1 (4 - y.1) ∧ y.2.2.length = y.1, fun y => ([(4, iA y.1), (3, .own 1), (2, .ptr 0 0), (0, .d (.v (.int .u64 y.2.1)))], [.cells [bA false, .d (.v (.slice none 0 0))], .sl 1 (y.2.2.map lR)]), fun y => 4 - y.1, ⟨(0, v, []), ⟨Nat.zero_le _, h0, h1, rfl, rfl⟩, ?_⟩, ?_⟩
  · all_goals refine ⟨[], ?_⟩
    repeat (any_goals (first | exact True.intro | exact rfl | with_reducible_and_instances rfl | exact (by kernel_rfl) | refine And.intro ?_ ?_))
    all_goals conv => whnf
  rintro ⟨k, w, done⟩ ⟨hk, hw0, hw1, hl, hdl⟩
  have hk : k ≤ 4 := hk
  have hw0 : 0 ≤ w := hw0
  have hw1 : w ≤ 18446744073709551615 := hw1
  have hl : limb4 v 4 = done ++ limb4 w (4 - k) := hl
  have hdl : done.length = k := hdl
  conv => whnf
  by_cases hlt : k < 4
  · repeat (any_goals (first
      | exact True.intro
      | (refine Or.inl ?_; conv => whnf)
      | (refine And.intro (fun _ => ?_) tf; conv => whnf)
      | (refine And.intro ft (fun _ => ?_); conv => whnf)
      | (refine And.intro (by kernel_rfl) ?_; conv => whnf)
      | (refine And.intro (by decide) ?_; conv => whnf)
      | (refine And.intro (fun _ => ?_) (fun h => absurd h (by decide)); conv => whnf)
      | (refine And.intro (fun h => absurd h (by decide)) (fun _ => ?_); conv => whnf)
      | (refine And.intro (fun _ => ?_) (fun h => absurd h (by simp; omega)); conv => whnf)
      | (refine And.intro (fun _ => ?_) (fun _ => ?_) <;> conv => whnf)
      | (refine ⟨_, _, ap 1 8 (by kernel_rfl) rfl rfl (by simp; omega), ?_⟩; conv => whnf)))
    have e1 : IntKind.u64.wrap (w.tdiv 65536) = w / 65536 := by rw [Int.tdiv_eq_ediv_of_nonneg hw0, IntKind.wrap_u64]; omega
    have e2 : IntKind.i64.wrap (w.tmod 65536) = w % 65536 := by rw [Int.tmod_eq_emod_of_nonneg hw0, wi (by omega) (by omega)]
    have e3 : limb4 w (4 - k) = w % 65536 :: limb4 (w / 65536) (4 - (k + 1)) := by rw [show 4 - k = (4 - (k + 1)) + 1 by omega, limb4]
    refine ⟨(k + 1, w / 65536, done ++ [w % 65536]), ⟨hlt, show 0 ≤ w / 65536 by omega, show w / 65536 ≤ _ by omega, show limb4 v 4 = (done ++ [w % 65536]) ++ limb4 (w / 65536) (4 - (k + 1)) by rw [hl, e3, List.append_assoc]; rfl, show (done ++ [w % 65536]).length = k + 1 by simp [hdl]⟩, show 4 - (k + 1) < 4 - k by omega, ?_⟩
    all_goals refine ⟨[(1, 3)], ?_⟩
    repeat (any_goals (first | exact True.intro | exact rfl | with_reducible_and_instances rfl | exact (by kernel_rfl) | refine And.intro ?_ ?_))
    all_goals conv => whnf
    · exact wk1 (show k ≤ _ by omega)
    · show AV.d (.v (.int .u64 (IntKind.u64.wrap (w.tdiv 65536)))) = .d (.v (.int .u64 (w / 65536)))
      rw [e1]
    · show AObj.sl 1 (done.map lR ++ [[.v (.int .i64 (IntKind.i64.wrap (w.tmod 65536)))]]) = .sl 1 ((done ++ [w % 65536]).map lR)
      rw [e2, List.map_append]; rfl
  · have hk4 : k = 4 := by omega
    subst hk4
    rw [Nat.sub_self, limb4, List.append_nil] at hl
    rw [hl] at mk
    repeat (any_goals (first
      | exact True.intro
      | (refine Or.inl ?_; conv => whnf)
      | (refine And.intro (fun _ => ?_) tf; conv => whnf)
      | (refine And.intro ft (fun _ => ?_); conv => whnf)
      | (refine And.intro (by kernel_rfl) ?_; conv => whnf)
      | (refine And.intro (by decide) ?_; conv => whnf)
      | (refine And.intro (fun _ => ?_) (fun h => absurd h (by decide)); conv => whnf)
      | (refine And.intro (fun h => absurd h (by decide)) (fun _ => ?_); conv => whnf)
      | (refine And.intro (fun _ => ?_) (fun _ => ?_) <;> conv => whnf)
      | (refine ⟨_, _, frz_b mk rfl rfl, ?_⟩; conv => whnf)))
    all_goals try (exfalso; simp only [decide_eq_true_eq, decide_eq_false_iff_not, Bool.not_eq_true', Bool.not_eq_false', Bool.not_eq_true, Bool.not_eq_false, beq_iff_eq, bne_iff_ne, beq_eq_false_iff_ne, bne_eq_false_iff_eq, ne_eq, Decidable.not_not] at *; first | omega | contradiction | (simp_all; done) | (simp_all; omega))
    rw [hl]
    all_goals refine ⟨[], ?_⟩
    repeat (any_goals (first | exact True.intro | exact rfl | with_reducible_and_instances rfl | exact (by kernel_rfl) | refine And.intro ?_ ?_))
    all_goals conv => whnf
/-! ### canonical limbs -/
def valL : List Int → Nat
  | [] => 0
  | d :: l => d.toNat + 65536 * valL l
def digL (l : List Int) : Prop := ∀ d ∈ l, 0 ≤ d ∧ d < 65536
def canL (n : Nat) : List Int := if h : n = 0 then [] else ((n % 65536 : Nat) : Int) :: canL (n / 65536)
termination_by n
decreasing_by exact Nat.div_lt_self (Nat.pos_of_ne_zero h) (by omega)
theorem canL_zero : canL 0 = [] := by rw [canL]; simp
theorem canL_pos {n : Nat} (h : n ≠ 0) : canL n = ((n % 65536 : Nat) : Int) :: canL (n / 65536) := by rw [canL, dif_neg h]
theorem topN_cons (d : Int) (l : List Int) : ∀ n, topN (d :: l) (n + 1) = if topN l n = 0 then (if d = 0 then 0 else 1) else topN l n + 1
  | 0 => by simp [topN]
  | n + 1 => by
    have ih := topN_cons d l n
    rw [topN]
    have e : ((d :: l)[n + 1]?).getD 0 = (l[n]?).getD 0 := by simp
    rw [e]
    by_cases h : (l[n]?).getD 0 = 0
    · rw [if_pos h, ih]
      have : topN l (n + 1) = topN l n := by rw [topN, if_pos h]
      rw [this]
    · rw [if_neg h]
      have : topN l (n + 1) = n + 1 := by rw [topN, if_neg h]
      rw [this, if_neg (by omega)]
theorem trimL_cons (d : Int) (l : List Int) : trimL (d :: l) = if trimL l = [] then (if d = 0 then [] else [d]) else d :: trimL l := by
  have hz : trimL l = [] ↔ topN l l.length = 0 := by
    unfold trimL
    rw [List.take_eq_nil_iff]
    constructor
    · rintro (h | h)
      · exact h
      · subst h; rfl
    · exact .inl
  by_cases h : topN l l.length = 0
  · rw [if_pos (hz.2 h)]
    unfold trimL
    rw [List.length_cons, topN_cons, if_pos h]
    split <;> simp
  · rw [if_neg (fun q => h (hz.1 q))]
    unfold trimL
    rw [List.length_cons, topN_cons, if_neg h, List.take_succ_cons]
/-- **A row of limbs, trimmed, is what its value says.** -/
theorem trim_can : ∀ {l : List Int}, digL l → trimL l = canL (valL l)
  | [], _ => by rw [valL, canL_zero]; rfl
  | d :: l, h => by
    have ih := trim_can (l := l) fun x hx => h x (List.mem_cons_of_mem _ hx)
    have hd := h d (List.mem_cons_self ..)
    rw [trimL_cons, ih, valL]
    by_cases hv : valL l = 0
    · rw [hv, canL_zero, if_pos rfl]
      by_cases h0 : d = 0
      · rw [if_pos h0, h0]; simp [canL_zero]
      · rw [if_neg h0, canL_pos (by omega), show (d.toNat + 65536 * 0) / 65536 = 0 by omega, canL_zero]
        congr 1
        omega
    · rw [if_neg (by rw [canL_pos hv]; simp), canL_pos (n := d.toNat + 65536 * valL l) (by omega), show (d.toNat + 65536 * valL l) / 65536 = valL l by omega]
      congr 1
      omega
theorem limb4_dig : ∀ (n : Nat) (v : Int), digL (limb4 v n)
  | 0, _ => fun d hd => by simp [limb4] at hd
  | n + 1, v => fun d hd => by
    rw [limb4] at hd
    rcases List.mem_cons.1 hd with e | e
    · subst e; omega
    · exact limb4_dig n _ d e
theorem limb4_val : ∀ (n : Nat) (v : Nat), valL (limb4 v n) = v % 65536 ^ n
  | 0, v => by simp [limb4, valL, Nat.mod_one]
  | n + 1, v => by
    rw [limb4, valL, show ((v : Int) / 65536) = ((v / 65536 : Nat) : Int) by omega, limb4_val n, Nat.pow_succ, Nat.mul_comm (65536 ^ n) 65536, Nat.mod_mul]
    omega
/-- The document's number. -/
abbrev numD (z : Int) : D := nD (decide (z < 0)) (canL z.natAbs)
theorem limb4_can (v : Nat) (h : v < 18446744073709551616) : trimL (limb4 v 4) = canL v := by
  rw [trim_can (limb4_dig _ _), limb4_val, Nat.mod_eq_of_lt (by simpa using h)]
end Go.Proofs.Ytgidaifoiljgoaa
/- Numbers of any length: made, Whole, Of, Neg over whole numbers. -/
namespace Go.Proofs.Ytgidaifoiljgoaa
set_option linter.unusedSimpArgs false
set_option linter.unusedVariables false
open Go.RowKit
set_option maxRecDepth 100000
theorem canL_len (n : Nat) : decide (0 < (canL n).length) = decide (n ≠ 0) := by
  by_cases h : n = 0
  · subst h; rw [canL_zero]; rfl
  · rw [canL_pos h]; simp [h]
theorem canL_val : ∀ (n : Nat), valL (canL n) = n := by
  intro n
  induction n using Nat.strongRecOn with
  | _ n ih =>
    by_cases h : n = 0
    · subst h; rw [canL_zero]; rfl
    · rw [canL_pos h, valL, ih _ (Nat.div_lt_self (Nat.pos_of_ne_zero h) (by omega))]
      omega
theorem canL_dig : ∀ (n : Nat), digL (canL n) := by
  intro n
  induction n using Nat.strongRecOn with
  | _ n ih =>
    by_cases h : n = 0
    · subst h; rw [canL_zero]; intro d hd; simp at hd
    · rw [canL_pos h]
      intro d hd
      rcases List.mem_cons.1 hd with e | e
      · subst e; omega
      · exact ih _ (Nat.div_lt_self (Nat.pos_of_ne_zero h) (by omega)) d e
theorem sign_eq (neg : Bool) (n : Nat) : (neg && decide (0 < (canL n).length)) = decide ((if neg = true then -(n : Int) else n) < 0) := by
  rw [canL_len]
  cases neg with
  | true => rw [Bool.true_and, if_pos rfl]; exact decide_eq_decide.2 (by omega)
  | false => rw [Bool.false_and, if_neg (by simp)]; exact (decide_eq_false (by omega)).symm
theorem canL_short : ∀ (k n : Nat), n < 65536 ^ k → (canL n).length ≤ k
  | 0, n, h => by rw [show n = 0 by simpa using h, canL_zero]; simp
  | k + 1, n, h => by
    by_cases h0 : n = 0
    · subst h0; rw [canL_zero]; simp
    · rw [canL_pos h0, List.length_cons]
      have := canL_short k (n / 65536) (by rw [Nat.pow_succ] at h; omega)
      omega
theorem abs_eq (neg : Bool) (n : Nat) : (if neg = true then -(n : Int) else n).natAbs = n := by cases neg <;> simp
theorem made_num (neg : Bool) (l : List Int) (hd : digL l) (hn : l.length ≤ 4611686018427387904) : Sat Try.prog 77 [bA neg, .d (lD l)] [] (.d (numD (if neg = true then -(valL l : Int) else valL l))) [] := by
  have h := made_sat neg l hn
  rw [trim_can hd, sign_eq] at h
  unfold numD
  rw [abs_eq]
  exact h
theorem whole_num (v : Int) (h0 : 0 ≤ v) (h1 : v ≤ 18446744073709551615) : Sat Try.prog 76 [.d (.v (.int .u64 v))] [] (.d (numD v)) [] := by
  have h := whole_sat v h0 h1
  obtain ⟨n, rfl⟩ := Int.eq_ofNat_of_zero_le h0
  rw [limb4_can n (by omega)] at h
  unfold numD
  rw [show decide ((n : Int) < 0) = false by simp, Int.natAbs_natCast]
  exact h
theorem of_num (v : Int) (h : -9223372036854775808 ≤ v ∧ v ≤ 9223372036854775807) : Sat Try.prog 56 [iA v] [] (.d (numD v)) [] := by
  by_cases h0 : 0 ≤ v
  · have w1 := whole_num v h0 (by omega)
    have e : IntKind.u64.wrap v = v := by rw [IntKind.wrap_u64]; omega
    refine sat_of_vc (T := tiOf Try.prog) (E := E0) Try.func56 rfl rfl hE0 hm0 rfl ?_
    conv => whnf
    repeat (any_goals (first
      | exact True.intro
      | (refine And.intro (fun _ => ?_) tf; conv => whnf)
      | (refine And.intro ft (fun _ => ?_); conv => whnf)
      | (refine And.intro (by kernel_rfl) ?_; conv => whnf)
      | (refine And.intro (by decide) ?_; conv => whnf)
      | (refine And.intro (fun _ => ?_) (fun h => absurd h (by decide)); conv => whnf)
      | (refine And.intro (fun h => absurd h (by decide)) (fun _ => ?_); conv => whnf)
      | (refine And.intro (fun _ => ?_) (fun _ => ?_) <;> conv => whnf)))
    all_goals try (refine Or.inl ?_; conv => whnf)
    repeat (any_goals (first
      | exact True.intro
      | (refine And.intro (fun _ => ?_) tf; conv => whnf)
      | (refine And.intro ft (fun _ => ?_); conv => whnf)
      | (refine And.intro (by kernel_rfl) ?_; conv => whnf)
      | (refine And.intro (by decide) ?_; conv => whnf)
      | (refine And.intro (fun _ => ?_) (fun h => absurd h (by decide)); conv => whnf)
      | (refine And.intro (fun h => absurd h (by decide)) (fun _ => ?_); conv => whnf)
      | (refine And.intro (fun _ => ?_) (fun _ => ?_) <;> conv => whnf)))
    all_goals try (exfalso; simp only [decide_eq_true_eq, decide_eq_false_iff_not, Bool.not_eq_true', Bool.not_eq_false', Bool.not_eq_true, Bool.not_eq_false, beq_iff_eq, bne_iff_ne, beq_eq_false_iff_ne, bne_eq_false_iff_eq, ne_eq, Decidable.not_not] at *; first | omega | contradiction | (simp_all; done) | (simp_all; omega))
    rw [e]
    repeat (any_goals (first
      | exact True.intro
      | (refine Or.inl ?_; conv => whnf)
      | (refine And.intro (fun _ => ?_) tf; conv => whnf)
      | (refine And.intro ft (fun _ => ?_); conv => whnf)
      | (refine And.intro (by kernel_rfl) ?_; conv => whnf)
      | (refine And.intro (by decide) ?_; conv => whnf)
      | (refine And.intro (fun _ => ?_) (fun h => absurd h (by decide)); conv => whnf)
      | (refine And.intro (fun h => absurd h (by decide)) (fun _ => ?_); conv => whnf)
      | (refine And.intro (fun _ => ?_) (fun _ => ?_) <;> conv => whnf)
      | (refine ⟨_, _, w1.pu rfl rfl, ?_⟩; conv => whnf)))
    all_goals refine ⟨[], ?_⟩
    repeat (any_goals (first | exact True.intro | exact rfl | with_reducible_and_instances rfl | exact (by kernel_rfl) | refine And.intro ?_ ?_))
    all_goals conv => whnf
  · have w1 := whole_num (-v) (by omega) (by omega)
    have e : IntKind.u64.wrap (IntKind.u64.wrap (IntKind.i64.wrap (0 - IntKind.i64.wrap (v + 1))) + 1) = -v := by
      rw [wi (n := v + 1) (by omega) (by omega), wi (by omega) (by omega), IntKind.wrap_u64, IntKind.wrap_u64]; omega
    have m1 := made_num true (canL (-v).natAbs) (canL_dig _) (by have := canL_short 4 (-v).natAbs (by omega); omega)
    rw [canL_val, if_pos rfl, show -(((-v).natAbs : Nat) : Int) = v by omega] at m1
    refine sat_of_vc (T := tiOf Try.prog) (E := E0) Try.func56 rfl rfl hE0 hm0 rfl ?_
    conv => whnf
    repeat (any_goals (first
      | exact True.intro
      | (refine And.intro (fun _ => ?_) tf; conv => whnf)
      | (refine And.intro ft (fun _ => ?_); conv => whnf)
      | (refine And.intro (by kernel_rfl) ?_; conv => whnf)
      | (refine And.intro (by decide) ?_; conv => whnf)
      | (refine And.intro (fun _ => ?_) (fun h => absurd h (by decide)); conv => whnf)
      | (refine And.intro (fun h => absurd h (by decide)) (fun _ => ?_); conv => whnf)
      | (refine And.intro (fun _ => ?_) (fun _ => ?_) <;> conv => whnf)))
    all_goals try (refine Or.inl ?_; conv => whnf)
    repeat (any_goals (first
      | exact True.intro
      | (refine And.intro (fun _ => ?_) tf; conv => whnf)
      | (refine And.intro ft (fun _ => ?_); conv => whnf)
      | (refine And.intro (by kernel_rfl) ?_; conv => whnf)
      | (refine And.intro (by decide) ?_; conv => whnf)
      | (refine And.intro (fun _ => ?_) (fun h => absurd h (by decide)); conv => whnf)
      | (refine And.intro (fun h => absurd h (by decide)) (fun _ => ?_); conv => whnf)
      | (refine And.intro (fun _ => ?_) (fun _ => ?_) <;> conv => whnf)))
    all_goals try (exfalso; simp only [decide_eq_true_eq, decide_eq_false_iff_not, Bool.not_eq_true', Bool.not_eq_false', Bool.not_eq_true, Bool.not_eq_false, beq_iff_eq, bne_iff_ne, beq_eq_false_iff_ne, bne_eq_false_iff_eq, ne_eq, Decidable.not_not] at *; first | omega | contradiction | (simp_all; done) | (simp_all; omega))
    rw [e]
    repeat (any_goals (first
      | exact True.intro
      | (refine Or.inl ?_; conv => whnf)
      | (refine And.intro (fun _ => ?_) tf; conv => whnf)
      | (refine And.intro ft (fun _ => ?_); conv => whnf)
      | (refine And.intro (by kernel_rfl) ?_; conv => whnf)
      | (refine And.intro (by decide) ?_; conv => whnf)
      | (refine And.intro (fun _ => ?_) (fun h => absurd h (by decide)); conv => whnf)
      | (refine And.intro (fun h => absurd h (by decide)) (fun _ => ?_); conv => whnf)
      | (refine And.intro (fun _ => ?_) (fun _ => ?_) <;> conv => whnf)
      | (refine ⟨_, _, w1.pu rfl rfl, ?_⟩; conv => whnf)
      | (refine ⟨_, _, m1.pu rfl rfl, ?_⟩; conv => whnf)))
    all_goals refine ⟨[], ?_⟩
    repeat (any_goals (first | exact True.intro | exact rfl | with_reducible_and_instances rfl | exact (by kernel_rfl) | refine And.intro ?_ ?_))
    all_goals conv => whnf
theorem neg_num (z : Int) (hz : (canL z.natAbs).length ≤ 4611686018427387904) : Sat Try.prog 97 [.d (numD z)] [] (.d (numD (-z))) [] := by
  have m1 := made_num (!(decide (z < 0))) (canL z.natAbs) (canL_dig _) hz
  rw [canL_val, show (if (!decide (z < 0)) = true then -(z.natAbs : Int) else (z.natAbs : Int)) = -z by by_cases h : z < 0 <;> simp [h] <;> omega] at m1
  refine sat_of_vc (T := tiOf Try.prog) (E := E0) Try.func97 rfl rfl hE0 hm0 rfl ?_
  conv => whnf
  repeat (any_goals (first
    | exact True.intro
    | (refine Or.inl ?_; conv => whnf)
    | (refine And.intro (fun _ => ?_) tf; conv => whnf)
    | (refine And.intro ft (fun _ => ?_); conv => whnf)
    | (refine And.intro (by kernel_rfl) ?_; conv => whnf)
    | (refine And.intro (by decide) ?_; conv => whnf)
    | (refine And.intro (fun _ => ?_) (fun h => absurd h (by decide)); conv => whnf)
    | (refine And.intro (fun h => absurd h (by decide)) (fun _ => ?_); conv => whnf)
    | (refine And.intro (fun _ => ?_) (fun _ => ?_) <;> conv => whnf)
    | (refine ⟨_, _, m1.pu rfl rfl, ?_⟩; conv => whnf)))
  all_goals refine ⟨[], ?_⟩
  repeat (any_goals (first | exact True.intro | exact rfl | with_reducible_and_instances rfl | exact (by kernel_rfl) | refine And.intro ?_ ?_))
  all_goals conv => whnf
end Go.Proofs.Ytgidaifoiljgoaa
/- Numbers of any length: above. -/
namespace Go.Proofs.Ytgidaifoiljgoaa
set_option linter.unusedSimpArgs false
set_option linter.unusedVariables false
open Go.RowKit
set_option maxRecDepth 100000
def lb (l : List Int) (i : Nat) : Int := (l[i]?).getD 0
theorem lb_dig {l : List Int} (h : digL l) (i : Nat) : 0 ≤ lb l i ∧ lb l i < 65536 := by
  unfold lb
  cases hx : l[i]? with
  | none => simp
  | some x => exact h x (List.mem_of_getElem? hx)
theorem valL_drop : ∀ (l : List Int) (i : Nat), valL (l.drop i) = (lb l i).toNat + 65536 * valL (l.drop (i + 1))
  | [], i => by simp [valL, lb]
  | d :: l, 0 => by simp [valL, lb]
  | d :: l, i + 1 => by
    have := valL_drop l i
    simpa [lb] using this
theorem valL_take : ∀ (l : List Int) (i : Nat), digL l → valL l = valL (l.take i) + 65536 ^ i * valL (l.drop i) ∧ valL (l.take i) < 65536 ^ i
  | l, 0, _ => by simp [valL]
  | [], i + 1, _ => by simp [valL]; exact Nat.pos_of_ne_zero (by simp)
  | d :: l, i + 1, h => by
    have hd := h d (List.mem_cons_self ..)
    obtain ⟨h1, h2⟩ := valL_take l i fun x hx => h x (List.mem_cons_of_mem _ hx)
    rw [List.take_succ_cons, List.drop_succ_cons, valL, valL]
    have e : 65536 ^ (i + 1) * valL (l.drop i) = 65536 * (65536 ^ i * valL (l.drop i)) := by rw [Nat.pow_succ, Nat.mul_comm (65536 ^ i) 65536, Nat.mul_assoc]
    have e2 : 65536 ^ (i + 1) = 65536 * 65536 ^ i := by rw [Nat.pow_succ, Nat.mul_comm]
    omega
/-- From i on the limbs are the same. -/
def sameFrom (a b : List Int) (i : Nat) : Prop := ∀ j, i ≤ j → lb a j = lb b j
theorem same_val {a b : List Int} : ∀ (n i : Nat), a.length ≤ i + n → b.length ≤ i + n → sameFrom a b i → valL (a.drop i) = valL (b.drop i)
  | 0, i, ha, hb, _ => by rw [List.drop_eq_nil_of_le (by omega), List.drop_eq_nil_of_le (by omega)]
  | n + 1, i, ha, hb, h => by
    rw [valL_drop a i, valL_drop b i, h i (Nat.le_refl _), same_val n (i + 1) (by omega) (by omega) fun j hj => h j (by omega)]
theorem above_gt {a b : List Int} {i : Nat} (da : digL a) (db : digL b) (h : sameFrom a b (i + 1)) (hg : lb b i < lb a i) : valL b < valL a := by
  obtain ⟨a1, a2⟩ := valL_take a i da
  obtain ⟨b1, b2⟩ := valL_take b i db
  have e := same_val (a := a) (b := b) (a.length + b.length) (i + 1) (by omega) (by omega) h
  rw [valL_drop a i] at a1
  rw [valL_drop b i] at b1
  rw [e] at a1
  have hx := lb_dig da i
  have hy := lb_dig db i
  generalize valL (b.drop (i + 1)) = V at *
  have hm : 65536 ^ i * ((lb b i).toNat + 65536 * V + 1) ≤ 65536 ^ i * ((lb a i).toNat + 65536 * V) := Nat.mul_le_mul_left _ (by omega)
  rw [Nat.mul_add, Nat.mul_one] at hm
  omega
def cmpN (m n : Nat) : Int := if n < m then 1 else if m < n then -1 else 0
theorem above_sat (a b : List Int) (da : digL a) (db : digL b) (ha : a.length ≤ 1000000000) (hb : b.length ≤ 1000000000) : Sat Try.prog 79 [.d (lD a), .d (lD b)] [] (iA (cmpN (valL a) (valL b))) [] := by
  refine sat_of_vc (T := tiOf Try.prog) (E := E0) Try.func79 rfl rfl hE0 hm0 rfl ?_
  conv => whnf
  repeat (any_goals (first
    | exact True.intro
    | (refine And.intro (fun _ => ?_) tf; conv => whnf)
    | (refine And.intro ft (fun _ => ?_); conv => whnf)
    | (refine And.intro (by kernel_rfl) ?_; conv => whnf)
    | (refine And.intro (by decide) ?_; conv => whnf)
    | (refine And.intro (fun _ => ?_) (fun h => absurd h (by decide)); conv => whnf)
    | (refine And.intro (fun h => absurd h (by decide)) (fun _ => ?_); conv => whnf)
    | (refine And.intro (fun _ => ?_) (fun _ => ?_) <;> conv => whnf)))
  all_goals try (refine Or.inl ?_; conv => whnf)
  repeat (any_goals (first
    | exact True.intro
    | (refine And.intro (fun _ => ?_) tf; conv => whnf)
    | (refine And.intro ft (fun _ => ?_); conv => whnf)
    | (refine And.intro (by kernel_rfl) ?_; conv => whnf)
    | (refine And.intro (by decide) ?_; conv => whnf)
    | (refine And.intro (fun _ => ?_) (fun h => absurd h (by decide)); conv => whnf)
    | (refine And.intro (fun h => absurd h (by decide)) (fun _ => ?_); conv => whnf)
    | (refine And.intro (fun _ => ?_) (fun _ => ?_) <;> conv => whnf)))
  refine ⟨Nat, fun n => n ≤ 1000000000 ∧ sameFrom a b n, fun n => ([(5, iA ((n : Int) - 1)), (0, .d (lD a)), (1, .d (lD b))], []), fun n => n, ⟨max a.length b.length, ⟨by omega, fun j hj => ?_⟩, ?_⟩, ?_⟩
  · unfold lb
    rw [List.getElem?_eq_none (by omega), List.getElem?_eq_none (by omega)]
  · all_goals refine ⟨[], ?_⟩
    repeat (any_goals (first | exact True.intro | exact rfl | with_reducible_and_instances rfl | exact (by kernel_rfl) | refine And.intro ?_ ?_))
    all_goals conv => whnf
    rw [List.length_map, List.length_map]
    have e : (if (b.length : Int) > a.length then (b.length : Int) else a.length) = ((max a.length b.length : Nat) : Int) := by split <;> omega
    rw [e, wi (by omega) (by omega)]
  rintro n ⟨hn, hs⟩
  conv => whnf
  cases n with
  | zero =>
    have e := same_val (a := a) (b := b) (a.length + b.length) 0 (by omega) (by omega) hs
    rw [List.drop_zero, List.drop_zero] at e
    have hr : cmpN (valL a) (valL b) = 0 := by unfold cmpN; rw [e]; simp
    rw [hr]
    repeat (any_goals (first
      | exact True.intro
      | (refine Or.inl ?_; conv => whnf)
      | (refine And.intro (fun _ => ?_) tf; conv => whnf)
      | (refine And.intro ft (fun _ => ?_); conv => whnf)
      | (refine And.intro (by kernel_rfl) ?_; conv => whnf)
      | (refine And.intro (by decide) ?_; conv => whnf)
      | (refine And.intro (fun _ => ?_) (fun h => absurd h (by decide)); conv => whnf)
      | (refine And.intro (fun h => absurd h (by decide)) (fun _ => ?_); conv => whnf)
      | (refine And.intro (fun _ => ?_) (fun _ => ?_) <;> conv => whnf)))
    all_goals try (exfalso; simp only [decide_eq_true_eq, decide_eq_false_iff_not, Bool.not_eq_true', Bool.not_eq_false', Bool.not_eq_true, Bool.not_eq_false, beq_iff_eq, bne_iff_ne, beq_eq_false_iff_ne, bne_eq_false_iff_eq, ne_eq, Decidable.not_not] at *; first | omega | contradiction | (simp_all; done) | (simp_all; omega))
    all_goals refine ⟨[], ?_⟩
    repeat (any_goals (first | exact True.intro | exact rfl | with_reducible_and_instances rfl | exact (by kernel_rfl) | refine And.intro ?_ ?_))
    all_goals conv => whnf
  | succ m =>
    have em : ((m + 1 : Nat) : Int) - 1 = (m : Int) := by omega
    have la : Sat Try.prog 99 [.d (lD a), iA (((m + 1 : Nat) : Int) - 1)] [] (iA (lb a m)) [] := by rw [em]; exact limb_sat a m
    have lb' : Sat Try.prog 99 [.d (lD b), iA (((m + 1 : Nat) : Int) - 1)] [] (iA (lb b m)) [] := by rw [em]; exact limb_sat b m
    repeat (any_goals (first
      | exact True.intro
      | (refine Or.inl ?_; conv => whnf)
      | (refine And.intro (fun _ => ?_) tf; conv => whnf)
      | (refine And.intro ft (fun _ => ?_); conv => whnf)
      | (refine And.intro (by kernel_rfl) ?_; conv => whnf)
      | (refine And.intro (by decide) ?_; conv => whnf)
      | (refine And.intro (fun _ => ?_) (fun h => absurd h (by decide)); conv => whnf)
      | (refine And.intro (fun h => absurd h (by decide)) (fun _ => ?_); conv => whnf)
      | (refine And.intro (fun _ => ?_) (fun _ => ?_) <;> conv => whnf)
      | (refine ⟨_, _, la.pu rfl rfl, ?_⟩; conv => whnf)
      | (refine ⟨_, _, lb'.pu rfl rfl, ?_⟩; conv => whnf)))
    all_goals try (exfalso; simp only [decide_eq_true_eq, decide_eq_false_iff_not, Bool.not_eq_true', Bool.not_eq_false', Bool.not_eq_true, Bool.not_eq_false, beq_iff_eq, bne_iff_ne, beq_eq_false_iff_ne, bne_eq_false_iff_eq, ne_eq, Decidable.not_not] at *; first | omega | contradiction | (simp_all; done) | (simp_all; omega))
    · have h := above_gt da db hs (by (try simp only [decide_eq_true_eq, decide_eq_false_iff_not, Bool.not_eq_true', Bool.not_eq_false', Bool.not_eq_true, Bool.not_eq_false, beq_iff_eq, bne_iff_ne, beq_eq_false_iff_ne, bne_eq_false_iff_eq, ne_eq, Decidable.not_not, Int.natCast_eq_zero] at *); first | omega | assumption | (simp_all; done) | (simp_all; omega))
      have hr : cmpN (valL a) (valL b) = 1 := by unfold cmpN; rw [if_pos h]
      rw [hr]
      all_goals refine ⟨[], ?_⟩
      repeat (any_goals (first | exact True.intro | exact rfl | with_reducible_and_instances rfl | exact (by kernel_rfl) | refine And.intro ?_ ?_))
      all_goals conv => whnf
    · have h := above_gt db da (fun j hj => (hs j hj).symm) (by (try simp only [decide_eq_true_eq, decide_eq_false_iff_not, Bool.not_eq_true', Bool.not_eq_false', Bool.not_eq_true, Bool.not_eq_false, beq_iff_eq, bne_iff_ne, beq_eq_false_iff_ne, bne_eq_false_iff_eq, ne_eq, Decidable.not_not, Int.natCast_eq_zero] at *); first | omega | assumption | (simp_all; done) | (simp_all; omega))
      have hr : cmpN (valL a) (valL b) = -1 := by unfold cmpN; rw [if_neg (by omega), if_pos h]
      rw [hr]
      all_goals refine ⟨[], ?_⟩
      repeat (any_goals (first | exact True.intro | exact rfl | with_reducible_and_instances rfl | exact (by kernel_rfl) | refine And.intro ?_ ?_))
      all_goals conv => whnf
    · have he : lb a m = lb b m := (by (try simp only [decide_eq_true_eq, decide_eq_false_iff_not, Bool.not_eq_true', Bool.not_eq_false', Bool.not_eq_true, Bool.not_eq_false, beq_iff_eq, bne_iff_ne, beq_eq_false_iff_ne, bne_eq_false_iff_eq, ne_eq, Decidable.not_not, Int.natCast_eq_zero] at *); first | omega | assumption | (simp_all; done) | (simp_all; omega))
      refine ⟨m, ⟨by omega, fun j hj => ?_⟩, Nat.lt_succ_self m, ?_⟩
      · rcases Nat.lt_or_ge j (m + 1) with q | q
        · rw [show j = m by omega]; exact he
        · exact hs j q
      · all_goals refine ⟨[], ?_⟩
        repeat (any_goals (first | exact True.intro | exact rfl | with_reducible_and_instances rfl | exact (by kernel_rfl) | refine And.intro ?_ ?_))
        all_goals conv => whnf
        rw [em, wi (by omega) (by omega)]
end Go.Proofs.Ytgidaifoiljgoaa
/- Numbers of any length: plus. -/
namespace Go.Proofs.Ytgidaifoiljgoaa
set_option linter.unusedSimpArgs false
set_option linter.unusedVariables false
open Go.RowKit
set_option maxRecDepth 100000
theorem valL_snoc : ∀ (l : List Int) (d : Int), valL (l ++ [d]) = valL l + 65536 ^ l.length * d.toNat
  | [], d => by simp [valL]
  | x :: l, d => by
    rw [List.cons_append, valL, valL_snoc l d, valL, List.length_cons, Nat.pow_succ, Nat.mul_comm (65536 ^ l.length) 65536, Nat.mul_assoc, Nat.mul_add]
    omega
theorem digL_snoc {l : List Int} {d : Int} (h : digL l) (h0 : 0 ≤ d) (h1 : d < 65536) : digL (l ++ [d]) := fun x hx => by
  rcases List.mem_append.1 hx with q | q
  · exact h x q
  · simp at q; subst q; exact ⟨h0, h1⟩
/-- How far a sum has come. -/
structure PlusI (a b : List Int) (k : Nat) (c : Int) (out : List Int) : Prop where
  len : out.length = k
  dig : digL out
  c0 : 0 ≤ c
  c1 : c ≤ 1
  eq : valL out + 65536 ^ k * (c.toNat + valL (a.drop k) + valL (b.drop k)) = valL a + valL b
theorem PlusI.next {a b : List Int} {k : Nat} {c : Int} {out : List Int} (I : PlusI a b k c out) (da : digL a) (db : digL b) : PlusI a b (k + 1) ((c + (lb a k + lb b k)) / 65536) (out ++ [(c + (lb a k + lb b k)) % 65536]) := by
  obtain ⟨h1, h2, h3, h4, h5⟩ := I
  have ha := lb_dig da k
  have hb := lb_dig db k
  refine ⟨by simp [h1], digL_snoc h2 (by omega) (by omega), by omega, by omega, ?_⟩
  rw [valL_snoc, h1, ← h5, valL_drop a k, valL_drop b k, Nat.pow_succ, Nat.mul_assoc, Nat.add_assoc, ← Nat.mul_add]
  congr 2
  omega
theorem PlusI.fin {a b : List Int} {k : Nat} {c : Int} {out : List Int} (I : PlusI a b k c out) (da : digL a) (db : digL b) (hk : k = max a.length b.length + 1) : valL out = valL a + valL b := by
  obtain ⟨h1, h2, h3, h4, h5⟩ := I
  rw [List.drop_eq_nil_of_le (by omega), List.drop_eq_nil_of_le (by omega)] at h5
  simp only [valL, Nat.add_zero] at h5
  have hva := (valL_take a (max a.length b.length) da).2
  have hvb := (valL_take b (max a.length b.length) db).2
  rw [List.take_of_length_le (by omega)] at hva hvb
  rw [hk, Nat.pow_succ] at h5
  rcases Nat.eq_zero_or_pos c.toNat with h0 | h0
  · rw [h0] at h5; omega
  · have : c.toNat = 1 := by omega
    rw [this] at h5
    omega
theorem plus_num (a b : List Int) (da : digL a) (db : digL b) (ha : a.length ≤ 1000000000) (hb : b.length ≤ 1000000000) : Sat Try.prog 78 [.d (lD a), .d (lD b)] [] (.d (lD (canL (valL a + valL b)))) [] := by
  refine sat_of_vc (T := tiOf Try.prog) (E := E0) Try.func78 rfl rfl hE0 hm0 rfl ?_
  conv => whnf
  repeat (any_goals (first
    | exact True.intro
    | (refine And.intro (fun _ => ?_) tf; conv => whnf)
    | (refine And.intro ft (fun _ => ?_); conv => whnf)
    | (refine And.intro (by kernel_rfl) ?_; conv => whnf)
    | (refine And.intro (by decide) ?_; conv => whnf)
    | (refine And.intro (fun _ => ?_) (fun h => absurd h (by decide)); conv => whnf)
    | (refine And.intro (fun h => absurd h (by decide)) (fun _ => ?_); conv => whnf)
    | (refine And.intro (fun _ => ?_) (fun _ => ?_) <;> conv => whnf)))
  all_goals try (refine Or.inl ?_; conv => whnf)
  repeat (any_goals (first
    | exact True.intro
    | (refine And.intro (fun _ => ?_) tf; conv => whnf)
    | (refine And.intro ft (fun _ => ?_); conv => whnf)
    | (refine And.intro (by kernel_rfl) ?_; conv => whnf)
    | (refine And.intro (by decide) ?_; conv => whnf)
    | (refine And.intro (fun _ => ?_) (fun h => absurd h (by decide)); conv => whnf)
    | (refine And.intro (fun h => absurd h (by decide)) (fun _ => ?_); conv => whnf)
    | (refine And.intro (fun _ => ?_) (fun _ => ?_) <;> conv => whnf)))
  have e : (if ((b.map lR).length : Int) > (a.map lR).length then ((b.map lR).length : Int) else (a.map lR).length) = ((max a.length b.length : Nat) : Int) := by rw [List.length_map, List.length_map]; split <;> omega
  refine ⟨Nat × Int × List Int, fun y => y.1 ≤ max a.length b.length + 1 ∧ PlusI a b y.1 y.2.1 y.2.2, fun y => ([(7, iA y.1), (6, iA y.2.1), (5, .own 0), (0, .d (lD a)), (1, .d (lD b))], [.sl 1 (y.2.2.map lR)]), fun y => max a.length b.length + 1 - y.1, ⟨(0, 0, []), ⟨Nat.zero_le _, rfl, fun d hd => by simp at hd, Int.le_refl _, show (0 : Int) ≤ 1 by decide, by simp [valL]⟩, ?_⟩, ?_⟩
  · all_goals refine ⟨[], ?_⟩
    repeat (any_goals (first | exact True.intro | exact rfl | with_reducible_and_instances rfl | exact (by kernel_rfl) | refine And.intro ?_ ?_))
    all_goals conv => whnf
  rintro ⟨k, c, out⟩ ⟨hk, I⟩
  have hk : k ≤ max a.length b.length + 1 := hk
  have I : PlusI a b k c out := I
  conv => whnf
  by_cases hlt : k = max a.length b.length + 1
  · have hv := I.fin da db hlt
    have ho := I.len
    have tr := trim_sat out (by omega)
    rw [trim_can I.dig, hv] at tr
    repeat (any_goals (first
      | exact True.intro
      | (refine Or.inl ?_; conv => whnf)
      | (refine And.intro (fun _ => ?_) tf; conv => whnf)
      | (refine And.intro ft (fun _ => ?_); conv => whnf)
      | (refine And.intro (by kernel_rfl) ?_; conv => whnf)
      | (refine And.intro (by decide) ?_; conv => whnf)
      | (refine And.intro (fun _ => ?_) (fun h => absurd h (by decide)); conv => whnf)
      | (refine And.intro (fun h => absurd h (by decide)) (fun _ => ?_); conv => whnf)
      | (refine And.intro (fun _ => ?_) (fun _ => ?_) <;> conv => whnf)
      | (refine ⟨_, _, frz_a tr rfl rfl, ?_⟩; conv => whnf)))
    all_goals try (exfalso; simp only [decide_eq_true_eq, decide_eq_false_iff_not, Bool.not_eq_true', Bool.not_eq_false', Bool.not_eq_true, Bool.not_eq_false, beq_iff_eq, bne_iff_ne, beq_eq_false_iff_ne, bne_eq_false_iff_eq, ne_eq, Decidable.not_not] at *; first | omega | contradiction | (simp_all; done) | (simp_all; omega))
    all_goals refine ⟨[], ?_⟩
    repeat (any_goals (first | exact True.intro | exact rfl | with_reducible_and_instances rfl | exact (by kernel_rfl) | refine And.intro ?_ ?_))
    all_goals conv => whnf
  · have la := limb_sat a k
    have lb' := limb_sat b k
    have ho := I.len
    repeat (any_goals (first
      | exact True.intro
      | (refine Or.inl ?_; conv => whnf)
      | (refine And.intro (fun _ => ?_) tf; conv => whnf)
      | (refine And.intro ft (fun _ => ?_); conv => whnf)
      | (refine And.intro (by kernel_rfl) ?_; conv => whnf)
      | (refine And.intro (by decide) ?_; conv => whnf)
      | (refine And.intro (fun _ => ?_) (fun h => absurd h (by decide)); conv => whnf)
      | (refine And.intro (fun h => absurd h (by decide)) (fun _ => ?_); conv => whnf)
      | (refine And.intro (fun _ => ?_) (fun _ => ?_) <;> conv => whnf)
      | (refine ⟨_, _, la.pu rfl rfl, ?_⟩; conv => whnf)
      | (refine ⟨_, _, lb'.pu rfl rfl, ?_⟩; conv => whnf)
      | (refine ⟨_, _, ap 1 8 (by kernel_rfl) rfl rfl (by simp; omega), ?_⟩; conv => whnf)))
    all_goals try (exfalso; simp only [decide_eq_true_eq, decide_eq_false_iff_not, Bool.not_eq_true', Bool.not_eq_false', Bool.not_eq_true, Bool.not_eq_false, beq_iff_eq, bne_iff_ne, beq_eq_false_iff_ne, bne_eq_false_iff_eq, ne_eq, Decidable.not_not] at *; first | omega | contradiction | (simp_all; done) | (simp_all; omega))
    have ga := lb_dig da k
    have gb := lb_dig db k
    have c0 := I.c0
    have c1 := I.c1
    refine ⟨(k + 1, (c + (lb a k + lb b k)) / 65536, out ++ [(c + (lb a k + lb b k)) % 65536]), ⟨show k + 1 ≤ _ by omega, I.next da db⟩, show max a.length b.length + 1 - (k + 1) < max a.length b.length + 1 - k by omega, ?_⟩
    have u1 : IntKind.i64.wrap (lb a k + lb b k) = lb a k + lb b k := wi (by omega) (by omega)
    have u2 : IntKind.i64.wrap (c + (lb a k + lb b k)) = c + (lb a k + lb b k) := wi (by omega) (by omega)
    all_goals refine ⟨[(0, 2)], ?_⟩
    repeat (any_goals (first | exact True.intro | exact rfl | with_reducible_and_instances rfl | exact (by kernel_rfl) | refine And.intro ?_ ?_))
    all_goals conv => whnf
    · exact wk1 (show k ≤ _ by omega)
    · show AV.d (.v (.int .i64 (IntKind.i64.wrap ((IntKind.i64.wrap (c + IntKind.i64.wrap (lb a k + lb b k))).tdiv 65536)))) = iA ((c + (lb a k + lb b k)) / 65536)
      rw [u1, u2, Int.tdiv_eq_ediv_of_nonneg (by omega), wi (by omega) (by omega)]
    · show AObj.sl 1 (out.map lR ++ [[.v (.int .i64 ((IntKind.i64.wrap (c + IntKind.i64.wrap (lb a k + lb b k))).tmod 65536))]]) = .sl 1 ((out ++ [(c + (lb a k + lb b k)) % 65536]).map lR)
      rw [u1, u2, Int.tmod_eq_emod_of_nonneg (by omega), List.map_append]; rfl
end Go.Proofs.Ytgidaifoiljgoaa
