/- Parts CeB, CeC, SafeAdd, CeD, CeE, CeF of the proof, put together. -/
import Derived.Test.YtbjmdnemeidpjaaM10
import Derived.Test.YtbjmdnemeidpjaaProg
/- Cells, in plain Lean: what is folded is right; one more value; notes; the order makes no difference. -/
namespace Go.Proofs.Ytbjmdnemeidpjaa
set_option linter.unusedSimpArgs false
set_option linter.unusedVariables false
open Go.RowKit
set_option linter.unusedSectionVars false
theorem bitLen_mono (y : Nat) : ∀ x : Nat, x ≤ y → y < 9223372036854775808 → Lib.bitLen x ≤ Lib.bitLen y := by
  induction y using Nat.strongRecOn with
  | ind y ih =>
    intro x hx hy
    by_cases h0 : x = 0
    · subst h0
      have : Lib.bitLen 0 = 0 := by decide
      omega
    · rw [bitLen_pos h0 (by omega), bitLen_pos (x := y) (by omega) hy]
      have := ih (y / 2) (by omega) (x / 2) (by omega) (by omega)
      omega
theorem bkt_mono {x y : Int} (h : x ≤ y) (hy : y ≤ 9223372036854775807) : bkt x ≤ bkt y := by
  unfold bkt
  have := bitLen_mono y.toNat x.toNat (by omega) (by omega)
  split <;> split <;> (try split) <;> (try split) <;> omega
theorem perm_sumI {l l' : List Int} (h : l.Perm l') : l.sum = l'.sum := by
  induction h with
  | nil => rfl
  | cons x _ ih => simp [ih]
  | swap x y l => simp; omega
  | trans _ _ h1 h2 => exact h1.trans h2
theorem hAt_histL (l : List Int) {b : Nat} (hb : b < 65) : hAt (histL l) b = (l.countP (fun v => bkt v == b) : Nat) := histL_get l b hb
theorem hAt_bump {h : List Int} (hl : h.length = 65) {k : Nat} (hk : k < 65) (b : Nat) : hAt (bump h k) b = if b = k then hAt h k + 1 else hAt h b := by
  unfold hAt bump
  rw [List.getElem?_set]
  by_cases e : k = b
  · subst e
    rw [if_pos rfl, if_pos (by omega), if_pos rfl]; rfl
  · rw [if_neg e, if_neg (fun q => e q.symm)]
theorem sum_bump : ∀ (h : List Int) (k : Nat), k < h.length → (bump h k).sum = h.sum + 1
  | [], k, hk => absurd hk (by simp)
  | x :: h, 0, _ => by simp [bump]; omega
  | x :: h, k + 1, hk => by
    have := sum_bump h k (by simpa using hk)
    unfold bump at *
    simp only [List.set_cons_succ, List.getElem?_cons_succ, List.sum_cons]
    omega
theorem okH_bump {h : List Int} {k : Nat} (ho : okH h = true) : okH (bump h k) = true := by
  unfold okH bump at *
  rw [List.all_eq_true] at *
  intro x hx
  rcases List.mem_or_eq_of_mem_set hx with q | q
  · exact ho x q
  · subst q
    have := okH_at (l := h) (by unfold okH; exact List.all_eq_true.2 ho) k
    exact decide_eq_true (by omega)
theorem okH_le_sum : ∀ {h : List Int}, okH h = true → ∀ x ∈ h, 0 ≤ x ∧ x ≤ h.sum
  | [], _, x, hx => absurd hx (by simp)
  | y :: h, ho, x, hx => by
    unfold okH at ho
    rw [List.all_cons, Bool.and_eq_true] at ho
    have hy := of_decide_eq_true ho.1
    have hs : 0 ≤ h.sum := by
      have : ∀ l : List Int, okH l = true → 0 ≤ l.sum := by
        intro l
        induction l with
        | nil => intro _; simp
        | cons z l ih =>
          intro q
          unfold okH at q
          rw [List.all_cons, Bool.and_eq_true] at q
          have := of_decide_eq_true q.1
          have := ih q.2
          rw [List.sum_cons]; omega
      exact this h ho.2
    rw [List.sum_cons]
    rcases List.mem_cons.1 hx with q | q
    · subst q; omega
    · have := okH_le_sum (h := h) ho.2 x q
      omega
theorem hAt_mem {h : List Int} (hl : h.length = 65) {b : Nat} (hb : b < 65) : hAt h b ∈ h := by
  unfold hAt
  rw [List.getElem?_eq_getElem (by omega)]
  exact List.getElem_mem _
theorem hAt_le {c : Cel} (h : RightC c) (hl : c.h.length = 65) {b : Nat} (hb : b < 65) : 0 ≤ hAt c.h b ∧ hAt c.h b ≤ c.n := by
  have := okH_le_sum h.ok _ (hAt_mem hl hb)
  rw [h.sum] at this
  exact this
theorem rightC_zC : rightC zC = true := by decide
/-! ### what is folded -/
theorem sum_in128 {l : List Int} (h : ∀ z ∈ l, in64 z) (hn : l.length ≤ 65536) : in128 l.sum := by
  have := sum_abs l h
  unfold in128 hiZ word in64
  omega
theorem foldC_ok {l : List Int} (h : ∀ z ∈ l, in64 z) (hn : l.length ≤ 65536) : CelOK (foldC l) where
  n := by show in64 (l.length : Int); unfold in64; omega
  s := sum_in128 h hn
  mn := (mm_in h).1
  mx := (mm_in h).2
  ce := by show in64 0; unfold in64; omega
  po := by show in64 0; unfold in64; omega
  hl := histL_len l
  hx := fun z hz => by have := histL_mem l z hz; unfold in64; omega
theorem foldC_right {l : List Int} (h : ∀ z ∈ l, in64 z) : RightC (foldC l) := by
  have hin : inL l := fun x hx => h x hx
  refine ⟨by show (0 : Int) ≤ (l.length : Int); omega, Int.le_refl _, Int.le_refl _, ?_, histL_ok l, histL_sum l hin, ?_, ?_, ?_, ?_⟩
  · show mmin l ≤ mmax l
    by_cases e : l = []
    · subst e; exact Int.le_refl _
    · exact (mmin_mem l e).2 _ (mmax_mem l e).1
  · intro q
    have q : (l.length : Int) = 0 := q
    have : l = [] := List.length_eq_zero_iff.1 (by omega)
    subst this
    exact ⟨rfl, rfl, rfl⟩
  · intro q
    have e : l ≠ [] := fun e => q (by subst e; rfl)
    have hm := (mmin_mem l e).1
    show hAt (histL l) (bkt (mmin l)) ≠ 0
    rw [hAt_histL l (bkt_lt _ (h _ hm).2)]
    have : 0 < l.countP (fun v => bkt v == bkt (mmin l)) := List.countP_pos_iff.2 ⟨_, hm, by simp⟩
    omega
  · intro q
    have e : l ≠ [] := fun e => q (by subst e; rfl)
    have hm := (mmax_mem l e).1
    show hAt (histL l) (bkt (mmax l)) ≠ 0
    rw [hAt_histL l (bkt_lt _ (h _ hm).2)]
    have : 0 < l.countP (fun v => bkt v == bkt (mmax l)) := List.countP_pos_iff.2 ⟨_, hm, by simp⟩
    omega
  · intro q b hb hne
    have e : l ≠ [] := fun e => q (by subst e; rfl)
    have hne : hAt (histL l) b ≠ 0 := hne
    rw [hAt_histL l hb] at hne
    have : 0 < l.countP (fun v => bkt v == b) := by omega
    obtain ⟨v, hv, hvb⟩ := List.countP_pos_iff.1 this
    have hvb : bkt v = b := by simpa using hvb
    subst hvb
    exact ⟨bkt_mono ((mmin_mem l e).2 v hv) (h v hv).2, bkt_mono ((mmax_mem l e).2 v hv) (h _ (mmax_mem l e).1).2⟩
/-! ### one more value -/
theorem addC_ok {c : Cel} {v : Int} (hc : CelOK c) (hr : RightC c) (hv : in64 v) (hn : c.n ≠ big) (hs : in128 (c.s + v)) : CelOK (addC c v).1 := by
  unfold addC
  rw [if_neg (by rw [right_iff.2 hr]; simp), if_neg hn, if_neg (by simpa using hs)]
  have h1 := hc.n
  have h2 := hr.n
  unfold big at hn
  refine ⟨?_, hs, ?_, ?_, hc.ce, hc.po, by show (bump c.h (bkt v)).length = 65; rw [bump_len]; exact hc.hl, ?_⟩
  · show in64 (c.n + 1); unfold in64 at *; omega
  · show in64 (if c.n = 0 then v else min c.mn v)
    have := hc.mn
    unfold in64 at *
    split <;> omega
  · show in64 (if c.n = 0 then v else max c.mx v)
    have := hc.mx
    unfold in64 at *
    split <;> omega
  · intro z hz
    have hz : z ∈ bump c.h (bkt v) := hz
    have := okH_le_sum (okH_bump (k := bkt v) hr.ok) z hz
    rw [sum_bump _ _ (by rw [hc.hl]; exact bkt_lt v hv.2), hr.sum] at this
    unfold in64 at *
    omega
theorem addC_right {c : Cel} {v : Int} (hc : CelOK c) (hr : RightC c) (hv : in64 v) (hn : c.n ≠ big) (hs : in128 (c.s + v)) : RightC (addC c v).1 := by
  unfold addC
  rw [if_neg (by rw [right_iff.2 hr]; simp), if_neg hn, if_neg (by simpa using hs)]
  have h2 := hr.n
  have hb := bkt_lt v hv.2
  have hA := hAt_bump hc.hl hb
  have hx := fun b (q : b < 65) => hAt_le hr hc.hl q
  refine ⟨by show 0 ≤ c.n + 1; omega, hr.ce, hr.po, ?_, okH_bump hr.ok, ?_, ?_, ?_, ?_, ?_⟩
  · show (if c.n = 0 then v else min c.mn v) ≤ (if c.n = 0 then v else max c.mx v)
    have := hr.mm
    split <;> omega
  · show (bump c.h (bkt v)).sum = c.n + 1
    rw [sum_bump _ _ (by rw [hc.hl]; exact hb), hr.sum]
  · intro q
    have q : c.n + 1 = 0 := q
    omega
  · intro _
    show hAt (bump c.h (bkt v)) (bkt (if c.n = 0 then v else min c.mn v)) ≠ 0
    rw [hA]
    have := hx _ hb
    by_cases e : c.n = 0
    · rw [if_pos e, if_pos rfl]; omega
    · rw [if_neg e]
      by_cases q : bkt (min c.mn v) = bkt v
      · rw [if_pos q]; omega
      · rw [if_neg q]
        rcases Int.le_total c.mn v with r | r
        · rw [Int.min_eq_left r]; exact hr.low e
        · rw [Int.min_eq_right r] at q; exact absurd rfl q
  · intro _
    show hAt (bump c.h (bkt v)) (bkt (if c.n = 0 then v else max c.mx v)) ≠ 0
    rw [hA]
    have := hx _ hb
    by_cases e : c.n = 0
    · rw [if_pos e, if_pos rfl]; omega
    · rw [if_neg e]
      by_cases q : bkt (max c.mx v) = bkt v
      · rw [if_pos q]; omega
      · rw [if_neg q]
        rcases Int.le_total c.mx v with r | r
        · rw [Int.max_eq_right r] at q; exact absurd rfl q
        · rw [Int.max_eq_left r]; exact hr.high e
  · intro _ b hb2 hne
    have hne : hAt (bump c.h (bkt v)) b ≠ 0 := hne
    show bkt (if c.n = 0 then v else min c.mn v) ≤ b ∧ b ≤ bkt (if c.n = 0 then v else max c.mx v)
    rw [hA] at hne
    by_cases e : c.n = 0
    · rw [if_pos e, if_pos e]
      by_cases q : b = bkt v
      · omega
      · rw [if_neg q] at hne
        have := hx b hb2
        omega
    · rw [if_neg e, if_neg e]
      have m1 := bkt_mono (x := min c.mn v) (y := c.mn) (by omega) hc.mn.2
      have m2 := bkt_mono (x := min c.mn v) (y := v) (by omega) hv.2
      have m3 := bkt_mono (x := c.mx) (y := max c.mx v) (by omega) (by have := hc.mx.2; have := hv.2; omega)
      have m4 := bkt_mono (x := v) (y := max c.mx v) (by omega) (by have := hc.mx.2; have := hv.2; omega)
      by_cases q : b = bkt v
      · omega
      · rw [if_neg q] at hne
        have := hr.all e b hb2 hne
        omega
theorem addC_fine {c : Cel} {v : Int} (hr : RightC c) (hn : c.n ≠ big) (hs : in128 (c.s + v)) : addC c v = (⟨c.n + 1, c.s + v, if c.n = 0 then v else min c.mn v, if c.n = 0 then v else max c.mx v, c.ce, c.po, bump c.h (bkt v)⟩, 0) := by
  unfold addC
  rw [if_neg (by rw [right_iff.2 hr]; simp), if_neg hn, if_neg (by simpa using hs)]
theorem hist_fine {c : Cel} {v : Int} (hc : CelOK c) (hr : RightC c) (hv : in64 v) (hn : c.n ≠ big) : addE c.h v = 0 ∧ addL c.h v = bump c.h (bkt v) := by
  have h : addE c.h v = 0 := by
    unfold addE
    rw [if_neg (by rw [hr.ok]; simp), if_neg]
    intro q
    have hb := bkt_lt v hv.2
    have := (hAt_le hr hc.hl hb).2
    unfold hAt at this
    rw [q] at this
    have h2 := hc.n.2
    unfold big at hn
    exact hn (by simp at this; omega)
  exact ⟨h, by unfold addL; rw [if_pos h]⟩
theorem foldC_snoc {l : List Int} {v : Int} (h : ∀ z ∈ l ++ [v], in64 z) (hn : l.length ≤ 60000) : addC (foldC l) v = (foldC (l ++ [v]), 0) := by
  have hl : ∀ z ∈ l, in64 z := fun z hz => h z (by simp [hz])
  have e1 : (l ++ [v]).sum = l.sum + v := by simp
  rw [addC_fine (foldC_right hl) (by show (l.length : Int) ≠ big; unfold big; omega) (by show in128 (l.sum + v); rw [← e1]; exact sum_in128 h (by simp; omega))]
  refine congrArg (·, (0 : Int)) (Cel.ext' ?_ ?_ ?_ ?_ rfl rfl ?_)
  · show (l.length : Int) + 1 = ((l ++ [v]).length : Int); simp
  · exact e1.symm
  · show (if (l.length : Int) = 0 then v else min (mmin l) v) = mmin (l ++ [v])
    rw [mmin_snoc]
    by_cases e : l = []
    · subst e; rfl
    · have : ¬ (l.length : Int) = 0 := fun q => e (List.length_eq_zero_iff.1 (by omega))
      rw [if_neg this, if_neg e]
  · show (if (l.length : Int) = 0 then v else max (mmax l) v) = mmax (l ++ [v])
    rw [mmax_snoc]
    by_cases e : l = []
    · subst e; rfl
    · have : ¬ (l.length : Int) = 0 := fun q => e (List.length_eq_zero_iff.1 (by omega))
      rw [if_neg this, if_neg e]
  · exact (histL_snoc l v).symm
/-! ### notes -/
theorem noteC_fine {c : Cel} {b : Bool} (hr : RightC c) (hn : (if b then c.ce else c.po) ≠ big) : noteC c b = (⟨c.n, c.s, c.mn, c.mx, if b then c.ce + 1 else c.ce, if b then c.po else c.po + 1, c.h⟩, 0) := by
  unfold noteC
  rw [if_neg (by rw [right_iff.2 hr]; simp), if_neg hn]
theorem noteC_right {c : Cel} {b : Bool} (hr : RightC c) (hn : (if b then c.ce else c.po) ≠ big) : RightC (noteC c b).1 := by
  rw [noteC_fine hr hn]
  have h1 := hr.ce
  have h2 := hr.po
  refine ⟨hr.n, ?_, ?_, hr.mm, hr.ok, hr.sum, hr.zero, hr.low, hr.high, hr.all⟩
  · show 0 ≤ if b then c.ce + 1 else c.ce
    split <;> omega
  · show 0 ≤ if b then c.po else c.po + 1
    split <;> omega
theorem noteC_ok {c : Cel} {b : Bool} (hc : CelOK c) (hr : RightC c) (hn : (if b then c.ce else c.po) ≠ big) : CelOK (noteC c b).1 := by
  rw [noteC_fine hr hn]
  have h1 := hr.ce
  have h2 := hr.po
  have h3 := hc.ce
  have h4 := hc.po
  refine ⟨hc.n, hc.s, hc.mn, hc.mx, ?_, ?_, hc.hl, hc.hx⟩
  · show in64 (if b then c.ce + 1 else c.ce)
    unfold in64 big at *
    cases b <;> simp at * <;> omega
  · show in64 (if b then c.po else c.po + 1)
    unfold in64 big at *
    cases b <;> simp at * <;> omega
end Go.Proofs.Ytbjmdnemeidpjaa
/- Cells as rows of 72 words. -/
namespace Go.Proofs.Ytbjmdnemeidpjaa
set_option linter.unusedSimpArgs false
set_option linter.unusedVariables false
open Go.RowKit
set_option maxRecDepth 100000
abbrev uZ (z : Int) : D := .v (.int .u64 z)
def cR (c : Cel) : List D := iD c.n :: iD (hiZ c.s) :: uZ (loZ c.s) :: iD c.mn :: iD c.mx :: iD c.ce :: iD c.po :: hR c.h
abbrev cD (c : Cel) : D := .agg (cR c)
theorem cR_len {c : Cel} (h : c.h.length = 65) : (cR c).length = 72 := by
  show (hR c.h).length + 7 = 72
  rw [hR_len]; omega
theorem sC : (tiOf Try.prog 29).size = 72 := by kernel_rfl
theorem zeC : List.map D.v (tiOf Try.prog 29).zero = cR zC := by kernel_rfl
theorem sF : (tiOf Try.prog 32).size = 72 := by kernel_rfl
theorem zeF : List.map D.v (tiOf Try.prog 32).zero = cR zC := by kernel_rfl
theorem whole_cell {s : Nat} {c : Cel} (hs : s = 72) (hl : c.h.length = 65) : ((cR c).drop 0).take s = cR c := by
  rw [List.drop_zero, List.take_of_length_le (by rw [cR_len hl]; omega)]
theorem clen {s : Nat} {c : Cel} (hs : s = 72) (hl : c.h.length = 65) : (cR c).length = s := by rw [cR_len hl]; omega
theorem sum_cell {n s mn mx ce po : Int} {h : List Int} {k : Nat} (hs : k = 2) : ((cR ⟨n, s, mn, mx, ce, po, h⟩).drop 1).take k = [iD (hiZ s), uZ (loZ s)] := by subst hs; rfl
theorem s25 : (tiOf Try.prog 25).size = 2 := by kernel_rfl
theorem hist_cell {s : Nat} {c : Cel} (hs : s = 65) (hl : c.h.length = 65) : ((cR c).drop 7).take s = hR c.h := by
  show (hR c.h).take s = _
  exact hR_take hs hl
theorem cell_sets {c d : Cel} (hc : c.h.length = 65) (hd : d.h.length = 65) : sets (cR c) 0 (cR d) = cR d := by
  rw [sets_eq _ _ _ (by rw [cR_len hc, cR_len hd]; omega), List.drop_of_length_le (by rw [cR_len hc, cR_len hd]; omega)]
  simp
theorem cell_fit {c d : Cel} (hc : c.h.length = 65) (hd : d.h.length = 65) : 0 + (cR c).length ≤ (cR d).length := by rw [cR_len hc, cR_len hd]; omega
theorem fitC {c : Cel} (h : c.h.length = 65) : 0 + (cR c).length ≤ (List.map D.v (tiOf Try.prog 29).zero).length := by rw [zeC]; exact cell_fit h rfl
theorem setC {c : Cel} (h : c.h.length = 65) : sets (List.map D.v (tiOf Try.prog 29).zero) 0 (cR c) = cR c := by rw [zeC]; exact cell_sets rfl h
theorem setzC : sets (List.map D.v (tiOf Try.prog 29).zero) 0 (List.map D.v (tiOf Try.prog 29).zero) = cR zC := by rw [zeC]; exact cell_sets rfl rfl
theorem fitzC : 0 + (List.map D.v (tiOf Try.prog 29).zero).length ≤ (List.map D.v (tiOf Try.prog 29).zero).length := by omega
theorem fitF {c : Cel} (h : c.h.length = 65) : 0 + (cR c).length ≤ (List.map D.v (tiOf Try.prog 32).zero).length := by rw [zeF]; exact cell_fit h rfl
theorem setF {c : Cel} (h : c.h.length = 65) : sets (List.map D.v (tiOf Try.prog 32).zero) 0 (cR c) = cR c := by rw [zeF]; exact cell_sets rfl h
theorem setzF : sets (List.map D.v (tiOf Try.prog 32).zero) 0 (List.map D.v (tiOf Try.prog 32).zero) = cR zC := by rw [zeF]; exact cell_sets rfl rfl
theorem fitzF : 0 + (List.map D.v (tiOf Try.prog 32).zero).length ≤ (List.map D.v (tiOf Try.prog 32).zero).length := by omega
theorem fit1 {c : Cel} {k : Nat} {x : D} (h : c.h.length = 65) (hk : k ≤ 71) : k + [x].length ≤ (cR c).length := by
  rw [cR_len h, List.length_singleton]; omega
theorem at_hi {n s mn mx ce po : Int} {h : List Int} : List.drop (0 + 1) (cR ⟨n, s, mn, mx, ce, po, h⟩) = iD (hiZ s) :: List.drop 2 (cR ⟨n, s, mn, mx, ce, po, h⟩) := rfl
theorem at_lo {n s mn mx ce po : Int} {h : List Int} : List.drop (0 + 2) (cR ⟨n, s, mn, mx, ce, po, h⟩) = uZ (loZ s) :: List.drop 3 (cR ⟨n, s, mn, mx, ce, po, h⟩) := rfl
theorem whole_z {s : Nat} (hs : s = 72) : ((cR zC).drop 0).take s = cR zC := whole_cell hs rfl
theorem clenz {s : Nat} (hs : s = 72) : (cR zC).length = s := clen hs rfl
theorem set_n {n s mn mx ce po : Int} {h : List Int} (x : Int) : sets (cR ⟨n, s, mn, mx, ce, po, h⟩) 0 [iD x] = cR ⟨x, s, mn, mx, ce, po, h⟩ := rfl
theorem set_s {n s mn mx ce po : Int} {h : List Int} (x : Int) : sets (cR ⟨n, s, mn, mx, ce, po, h⟩) (0 + 1) [iD (hiZ x), uZ (loZ x)] = cR ⟨n, x, mn, mx, ce, po, h⟩ := rfl
theorem set_mn {n s mn mx ce po : Int} {h : List Int} (x : Int) : sets (cR ⟨n, s, mn, mx, ce, po, h⟩) (0 + 3) [iD x] = cR ⟨n, s, x, mx, ce, po, h⟩ := rfl
theorem set_mx {n s mn mx ce po : Int} {h : List Int} (x : Int) : sets (cR ⟨n, s, mn, mx, ce, po, h⟩) (0 + 4) [iD x] = cR ⟨n, s, mn, x, ce, po, h⟩ := rfl
theorem set_ce {n s mn mx ce po : Int} {h : List Int} (x : Int) : sets (cR ⟨n, s, mn, mx, ce, po, h⟩) (0 + 5) [iD x] = cR ⟨n, s, mn, mx, x, po, h⟩ := rfl
theorem set_po {n s mn mx ce po : Int} {h : List Int} (x : Int) : sets (cR ⟨n, s, mn, mx, ce, po, h⟩) (0 + 6) [iD x] = cR ⟨n, s, mn, mx, ce, x, h⟩ := rfl
theorem set_hh {n s mn mx ce po : Int} {h : List Int} {h' : List Int} (hc : h.length = 65) (hh : h'.length = 65) : sets (cR ⟨n, s, mn, mx, ce, po, h⟩) (0 + 7) (hR h') = cR ⟨n, s, mn, mx, ce, po, h'⟩ := by
  have hc : (Cel.mk n s mn mx ce po h).h.length = 65 := hc
  rw [sets_eq _ _ _ (by rw [cR_len hc, hR_len]; omega), List.drop_of_length_le (by rw [cR_len hc, hR_len]; omega)]
  simp [cR]
theorem drop_id {n : Nat} {l : List D} : List.drop n l = List.drop n l := rfl
theorem at_n {n s mn mx ce po : Int} {h : List Int} : List.drop 0 (cR ⟨n, s, mn, mx, ce, po, h⟩) = iD n :: List.drop 1 (cR ⟨n, s, mn, mx, ce, po, h⟩) := rfl
theorem at_mn {n s mn mx ce po : Int} {h : List Int} : List.drop (0 + 3) (cR ⟨n, s, mn, mx, ce, po, h⟩) = iD mn :: List.drop 4 (cR ⟨n, s, mn, mx, ce, po, h⟩) := rfl
theorem at_mx {n s mn mx ce po : Int} {h : List Int} : List.drop (0 + 4) (cR ⟨n, s, mn, mx, ce, po, h⟩) = iD mx :: List.drop 5 (cR ⟨n, s, mn, mx, ce, po, h⟩) := rfl
theorem at_ce {n s mn mx ce po : Int} {h : List Int} : List.drop (0 + 5) (cR ⟨n, s, mn, mx, ce, po, h⟩) = iD ce :: List.drop 6 (cR ⟨n, s, mn, mx, ce, po, h⟩) := rfl
theorem at_po {n s mn mx ce po : Int} {h : List Int} : List.drop (0 + 6) (cR ⟨n, s, mn, mx, ce, po, h⟩) = iD po :: List.drop 7 (cR ⟨n, s, mn, mx, ce, po, h⟩) := rfl
theorem note_sat (c : Cel) (b : Bool) (hc : CelOK c) (hS : Sat Try.prog 13 [.d (cD c)] [] (bA (rightC c)) []) : Sat Try.prog 17 [.d (cD c), bA b] [] (.tup [.d (cD (noteC c b).1), iA (noteC c b).2]) [] := by
  have hl := hc.hl
  have h1 := hc.ce
  have h2 := hc.po
  refine sat_of_vc (T := tiOf Try.prog) (E := E0) Try.func17 rfl rfl hE0 hm0 rfl ?_
  conv => whnf
  iterate 6
    repeat (any_goals (first
      | exact True.intro
      | (refine ⟨_, drop_id, ?_⟩; conv => whnf)
      | (refine ⟨_, _, at_n, ?_⟩; conv => whnf)
      | (refine ⟨_, _, at_hi, ?_⟩; conv => whnf)
      | (refine ⟨_, _, at_lo, ?_⟩; conv => whnf)
      | (refine ⟨_, _, at_mn, ?_⟩; conv => whnf)
      | (refine ⟨_, _, at_mx, ?_⟩; conv => whnf)
      | (refine ⟨_, _, at_ce, ?_⟩; conv => whnf)
      | (refine ⟨_, _, at_po, ?_⟩; conv => whnf)
      | (refine ⟨_, whole_z sC, clenz sC, ?_⟩; conv => whnf)
      | (refine ⟨_, setzC, ?_⟩; conv => whnf)
      | (refine And.intro (clenz sC) ?_; conv => whnf)
      | (refine And.intro fitzC ?_; conv => whnf)
      | (refine ⟨_, whole_cell sC hl, clen sC hl, ?_⟩; conv => whnf)
      | (refine And.intro (clen sC hl) ?_; conv => whnf)
      | (refine And.intro (fitC hl) ?_; conv => whnf)
      | (refine ⟨_, setC hl, ?_⟩; conv => whnf)
      | (refine ⟨_, whole_z sF, clenz sF, ?_⟩; conv => whnf)
      | (refine ⟨_, setzF, ?_⟩; conv => whnf)
      | (refine And.intro (clenz sF) ?_; conv => whnf)
      | (refine And.intro fitzF ?_; conv => whnf)
      | (refine ⟨_, whole_cell sF hl, clen sF hl, ?_⟩; conv => whnf)
      | (refine And.intro (clen sF hl) ?_; conv => whnf)
      | (refine And.intro (fitF hl) ?_; conv => whnf)
      | (refine ⟨_, setF hl, ?_⟩; conv => whnf)
      | (refine And.intro (fit1 hl (by decide)) ?_; conv => whnf)
      | (refine And.intro (fit1 rfl (by decide)) ?_; conv => whnf)
      | (refine ⟨_, sum_cell s25, rfl, ?_⟩; conv => whnf)
      | (refine ⟨_, set_n _, ?_⟩; conv => whnf)
      | (refine ⟨_, set_mn _, ?_⟩; conv => whnf)
      | (refine ⟨_, set_mx _, ?_⟩; conv => whnf)
      | (refine ⟨_, set_ce _, ?_⟩; conv => whnf)
      | (refine ⟨_, set_po _, ?_⟩; conv => whnf)
      | (refine ⟨_, set_s _, ?_⟩; conv => whnf)
      | (refine ⟨_, set_hi _, ?_⟩; conv => whnf)
      | (refine ⟨_, set_lo _, ?_⟩; conv => whnf)
      | (refine And.intro (fun _ => ?_) tf; conv => whnf)
      | (refine And.intro ft (fun _ => ?_); conv => whnf)
      | (refine And.intro (by kernel_rfl) ?_; conv => whnf)
      | (refine And.intro (by decide) ?_; conv => whnf)
      | (refine And.intro (fun _ => ?_) (fun h => absurd h (by decide)); conv => whnf)
      | (refine And.intro (fun h => absurd h (by decide)) (fun _ => ?_); conv => whnf)
      | (refine And.intro (fun _ => ?_) (fun _ => ?_) <;> conv => whnf)
      | (refine ⟨_, _, hS.pu rfl rfl, ?_⟩; conv => whnf)))
    all_goals try (refine Or.inl ?_; conv => whnf)
  · have hr : rightC c = false := (by (try simp only [decide_eq_true_eq, decide_eq_false_iff_not, Bool.not_eq_true', Bool.not_eq_false', Bool.not_eq_true, Bool.not_eq_false, beq_iff_eq, bne_iff_ne, beq_eq_false_iff_ne, bne_eq_false_iff_eq, ne_eq, Decidable.not_not, Int.natCast_eq_zero] at *); first | omega | assumption | (simp_all; done) | (simp_all; omega))
    have e : noteC c b = (zC, 10) := by unfold noteC; rw [if_pos hr]
    rw [e]
    all_goals refine ⟨[], ?_⟩
    repeat (any_goals (first | exact True.intro | exact rfl | with_reducible_and_instances rfl | exact (by kernel_rfl) | refine And.intro ?_ ?_))
    all_goals conv => whnf
  · have hr : rightC c = true := (by (try simp only [decide_eq_true_eq, decide_eq_false_iff_not, Bool.not_eq_true', Bool.not_eq_false', Bool.not_eq_true, Bool.not_eq_false, beq_iff_eq, bne_iff_ne, beq_eq_false_iff_ne, bne_eq_false_iff_eq, ne_eq, Decidable.not_not, Int.natCast_eq_zero] at *); first | omega | assumption | (simp_all; done) | (simp_all; omega))
    subst b
    have e : noteC c true = (zC, 12) := by unfold noteC big; rw [if_neg (by rw [hr]; simp), if_pos (by simp at *; assumption)]
    rw [e]
    all_goals refine ⟨[], ?_⟩
    repeat (any_goals (first | exact True.intro | exact rfl | with_reducible_and_instances rfl | exact (by kernel_rfl) | refine And.intro ?_ ?_))
    all_goals conv => whnf
  · have hr : rightC c = true := (by (try simp only [decide_eq_true_eq, decide_eq_false_iff_not, Bool.not_eq_true', Bool.not_eq_false', Bool.not_eq_true, Bool.not_eq_false, beq_iff_eq, bne_iff_ne, beq_eq_false_iff_ne, bne_eq_false_iff_eq, ne_eq, Decidable.not_not, Int.natCast_eq_zero] at *); first | omega | assumption | (simp_all; done) | (simp_all; omega))
    subst b
    have hb : c.ce ≠ 9223372036854775807 := by simp at *; assumption
    have e : noteC c true = (⟨c.n, c.s, c.mn, c.mx, c.ce + 1, c.po, c.h⟩, 0) := by unfold noteC big; rw [if_neg (by rw [hr]; simp), if_neg (by simpa using hb)]; rfl
    have w : IntKind.i64.wrap (c.ce + 1) = c.ce + 1 := wi (by unfold in64 at h1; have := (right_iff.1 hr).ce; omega) (by unfold in64 at h1; omega)
    rw [e, w]
    all_goals refine ⟨[], ?_⟩
    repeat (any_goals (first | exact True.intro | exact rfl | with_reducible_and_instances rfl | exact (by kernel_rfl) | refine And.intro ?_ ?_))
    all_goals conv => whnf
  · have hr : rightC c = true := (by (try simp only [decide_eq_true_eq, decide_eq_false_iff_not, Bool.not_eq_true', Bool.not_eq_false', Bool.not_eq_true, Bool.not_eq_false, beq_iff_eq, bne_iff_ne, beq_eq_false_iff_ne, bne_eq_false_iff_eq, ne_eq, Decidable.not_not, Int.natCast_eq_zero] at *); first | omega | assumption | (simp_all; done) | (simp_all; omega))
    subst b
    have e : noteC c false = (zC, 12) := by unfold noteC big; rw [if_neg (by rw [hr]; simp), if_pos (by simp at *; assumption)]
    rw [e]
    all_goals refine ⟨[], ?_⟩
    repeat (any_goals (first | exact True.intro | exact rfl | with_reducible_and_instances rfl | exact (by kernel_rfl) | refine And.intro ?_ ?_))
    all_goals conv => whnf
  · have hr : rightC c = true := (by (try simp only [decide_eq_true_eq, decide_eq_false_iff_not, Bool.not_eq_true', Bool.not_eq_false', Bool.not_eq_true, Bool.not_eq_false, beq_iff_eq, bne_iff_ne, beq_eq_false_iff_ne, bne_eq_false_iff_eq, ne_eq, Decidable.not_not, Int.natCast_eq_zero] at *); first | omega | assumption | (simp_all; done) | (simp_all; omega))
    subst b
    have hb : c.po ≠ 9223372036854775807 := by simp at *; assumption
    have e : noteC c false = (⟨c.n, c.s, c.mn, c.mx, c.ce, c.po + 1, c.h⟩, 0) := by unfold noteC big; rw [if_neg (by rw [hr]; simp), if_neg (by simpa using hb)]; rfl
    have w : IntKind.i64.wrap (c.po + 1) = c.po + 1 := wi (by unfold in64 at h2; have := (right_iff.1 hr).po; omega) (by unfold in64 at h2; omega)
    rw [e, w]
    all_goals refine ⟨[], ?_⟩
    repeat (any_goals (first | exact True.intro | exact rfl | with_reducible_and_instances rfl | exact (by kernel_rfl) | refine And.intro ?_ ?_))
    all_goals conv => whnf
end Go.Proofs.Ytbjmdnemeidpjaa
/- safe.Add. -/
namespace Go.Proofs.Ytbjmdnemeidpjaa
open Go.RowKit
set_option linter.unusedVariables false
set_option linter.unusedSimpArgs false
theorem toInt_i64 (x : BitVec 64) : IntKind.i64.wrap (x.toNat : Int) = x.toInt := by
  have h := x.isLt
  rw [IntKind.wrap_i64, BitVec.toInt_eq_toNat_cond]
  split <;> omega
theorem xor_toInt (a b : Int) : bits .xor .i64 a b = (BitVec.ofInt 64 a ^^^ BitVec.ofInt 64 b).toInt := by
  rw [← toInt_i64]; rfl
theorem and_toInt (a b : Int) : bits .and .i64 a b = (BitVec.ofInt 64 a &&& BitVec.ofInt 64 b).toInt := by
  rw [← toInt_i64]; rfl
theorem msb_in (a : Int) (h1 : -9223372036854775808 ≤ a) (h2 : a ≤ 9223372036854775807) : (BitVec.ofInt 64 a).msb = decide (a < 0) := by
  rw [BitVec.msb_eq_toInt, BitVec.toInt_ofInt]
  have : a.bmod (2 ^ 64) = a := by
    unfold Int.bmod
    simp only []
    split <;> omega
  rw [this]
theorem over_sign (a b s : Int) (a1 : -9223372036854775808 ≤ a) (a2 : a ≤ 9223372036854775807) (b1 : -9223372036854775808 ≤ b) (b2 : b ≤ 9223372036854775807) (s1 : -9223372036854775808 ≤ s) (s2 : s ≤ 9223372036854775807) :
    decide (bits .and .i64 (bits .xor .i64 a s) (bits .xor .i64 b s) < 0) = ((decide (a < 0) ^^ decide (s < 0)) && (decide (b < 0) ^^ decide (s < 0))) := by
  rw [and_toInt, ← BitVec.msb_eq_toInt, BitVec.msb_and, xor_toInt, xor_toInt, BitVec.ofInt_toInt, BitVec.ofInt_toInt, BitVec.msb_xor, BitVec.msb_xor, msb_in a a1 a2, msb_in b b1 b2, msb_in s s1 s2]
theorem over_add (a b : Int) (a1 : -9223372036854775808 ≤ a) (a2 : a ≤ 9223372036854775807) (b1 : -9223372036854775808 ≤ b) (b2 : b ≤ 9223372036854775807) :
    decide (bits .and .i64 (bits .xor .i64 a (wrap64 (a + b))) (bits .xor .i64 b (wrap64 (a + b))) < 0) = decide (a + b < -9223372036854775808 ∨ 9223372036854775807 < a + b) := by
  have hw : wrap64 (a + b) = (a + b + 9223372036854775808) % 18446744073709551616 - 9223372036854775808 := by unfold wrap64; omega
  generalize wrap64 (a + b) = s at *
  rw [over_sign a b s a1 a2 b1 b2 (by omega) (by omega)]
  by_cases h1 : a < 0 <;> by_cases h2 : b < 0 <;> by_cases h3 : s < 0 <;> simp [h1, h2, h3] <;> omega
def addR (a b : Int) : Int × Nat := if a + b < -9223372036854775808 ∨ 9223372036854775807 < a + b then (0, 12) else (a + b, 0)
set_option maxRecDepth 100000 in
theorem safeAdd_any (a b : Int) (w : World) (a1 : -9223372036854775808 ≤ a) (a2 : a ≤ 9223372036854775807) (b1 : -9223372036854775808 ≤ b) (b2 : b ≤ 9223372036854775807) :
    Calls Try.prog 39 #[.int .i64 a, .int .i64 b] w fun e w' => e = .returned (.tuple #[.int .i64 (addR a b).1, .int .i64 (addR a b).2]) ∧ w = w' := by
  have HO := over_add a b a1 a2 b1 b2
  have HR : Hid (addR a b = if a + b < -9223372036854775808 ∨ 9223372036854775807 < a + b then (0, 12) else (a + b, 0)) := hide rfl
  generalize addR a b = R at *
  by_cases c : a + b < -9223372036854775808 ∨ 9223372036854775807 < a + b
  · rw [decide_eq_true c] at HO
    rw [if_pos c] at HR
    clear c
    go_enter Try.func39, Try.ntmps39
    go_wp2
    go_ret2
    exact ⟨by rw [HR.out]; rfl, rfl⟩
  · rw [decide_eq_false c] at HO
    rw [if_neg c] at HR
    have hw : wrap64 (a + b) = a + b := IntWalk.wrap64_in _ (by constructor <;> omega)
    have HW := hide hw
    clear c hw
    go_enter Try.func39, Try.ntmps39
    go_wp2
    go_ret2
    refine ⟨?_, rfl⟩
    rw [HR.out]
    show Ending.returned (.tuple #[.int .i64 (wrap64 (a + b)), .int .i64 0]) = _
    rw [HW.out]
    rfl
end Go.Proofs.Ytbjmdnemeidpjaa
/- wide.Add; bits.Add64 as an operation; the sums of cells (192 bits). -/
namespace Go.Proofs.Ytbjmdnemeidpjaa
set_option linter.unusedSimpArgs false
set_option linter.unusedVariables false
open Go.RowKit
set_option maxRecDepth 100000
abbrev uN (z : Int) : AV := .d (.v (.int .u64 z))
theorem add64_runC (x y c : Int) (hx : 0 ≤ x) (hy : 0 ≤ y) (hc : 0 ≤ c) (hc1 : c ≤ 1) (w : World) : (callFunc 74 #[.int .u64 x, .int .u64 y, .int .u64 c]).run Try.prog w =
    .ok (.value (.tuple #[.int .u64 ((x + y + c) % 18446744073709551616), .int .u64 ((x + y + c) / 18446744073709551616)])) w := by
  rw [run_callFunc_extern Try.func74 (by kernel_rfl) (by kernel_rfl) (by kernel_rfl) (e := add64Entry) (by kernel_rfl), run_add64 x y c hx hy (by omega) (by omega)]
  simp only [Result.andThen]
theorem add64_does {L : List AObj} {ty n : Nat} (x y c : Int) (hx : 0 ≤ x) (hy : 0 ≤ y) (hc : 0 ≤ c) (hc1 : c ≤ 1) {a b d : Operand} {ats : Array TypeId} :
    Does Try.prog (.call { callee := .value (.func 74), args := #[a, b, d], argTypes := ats }) ty L n [.fn (.func 74) [] [], uN x, uN y, uN c] e0 (.tup [uN ((x + y + c) % 18446744073709551616), uN ((x + y + c) / 18446744073709551616)]) :=
  does_val fun o w F ρ ev ho _ hx' => by
    have hops : (Op.operands (.call { callee := .value (.func 74), args := #[a, b, d], argTypes := ats })).toList = .func 74 :: [a, b, d] := by simp [Op.operands, Call.operands]
    rw [hops] at hx'
    simp only [List.map_cons, List.map_nil] at hx'
    generalize hvf : ev (.func 74) = vf at hx'
    cases hx' with | cons hf h =>
    cases hf with | fn hfirst hcaps =>
    cases hfirst
    cases hcaps
    cases h with | cons h1 h =>
    cases h with | cons h2 h =>
    cases h with | cons h3 h =>
    have e1 := h1.v_out
    have e2 := h2.v_out
    have e3 := h3.v_out
    refine ⟨_, ?_, .tup (.cons (.d (.v _)) (.cons (.d (.v _)) .nil))⟩
    have := add64_runC x y c hx hy hc hc1 w
    simp [execOp, ho, resolve, hvf, Deferred.ofValue, invoke, e1, e2, e3]
    exact this
theorem wadd_plain (A B : Int) (hA : in128 A) (hB : in128 B) : hiZ (A + B) = hiZ A + hiZ B + (loZ A + loZ B) / word ∧ loZ (A + B) = (loZ A + loZ B) % word ∧
    (decide (bits .and .i64 (bits .xor .i64 (hiZ A) (wrap64 (hiZ (A + B)))) (bits .xor .i64 (hiZ B) (wrap64 (hiZ (A + B)))) < 0) = true ↔ ¬ in128 (A + B)) := by
  have e1 : hiZ (A + B) = hiZ A + hiZ B + (loZ A + loZ B) / word := by unfold hiZ loZ word; omega
  have e2 : loZ (A + B) = (loZ A + loZ B) % word := by unfold loZ word; omega
  refine ⟨e1, e2, ?_⟩
  have o1 : 0 ≤ (loZ A + loZ B) / word ∧ (loZ A + loZ B) / word ≤ 1 := by unfold loZ word; omega
  unfold in128 at *
  have hs : in64 (wrap64 (hiZ (A + B))) := by unfold in64 wrap64; omega
  have hw : wrap64 (hiZ (A + B)) = (hiZ (A + B) + 9223372036854775808) % 18446744073709551616 - 9223372036854775808 := by unfold wrap64; omega
  rw [over_sign _ _ _ hA.1 hA.2 hB.1 hB.2 hs.1 hs.2]
  generalize wrap64 (hiZ (A + B)) = s at *
  generalize hiZ (A + B) = z at *
  generalize hiZ A = a at *
  generalize hiZ B = b at *
  generalize (loZ A + loZ B) / word = o at *
  unfold in64 at *
  by_cases q1 : a < 0 <;> by_cases q2 : b < 0 <;> by_cases q3 : s < 0 <;> simp [q1, q2, q3] <;> omega
theorem wadd_sat (A B : Int) (hA : in128 A) (hB : in128 B) : Sat Try.prog 40 [.d (wD A), .d (wD B)] [] (if in128 (A + B) then .tup [.d (wD (A + B)), iA 0] else .tup [.d (wD 0), iA 12]) [] := by
  have a0 : 0 ≤ loZ A ∧ loZ A < word := by unfold loZ word; omega
  have b0 : 0 ≤ loZ B ∧ loZ B < word := by unfold loZ word; omega
  obtain ⟨e1, e2, e3⟩ := wadd_plain A B hA hB
  have e4 : IntKind.i64.wrap (IntKind.i64.wrap (hiZ A + hiZ B) + IntKind.i64.wrap ((loZ A + loZ B + 0) / 18446744073709551616)) = wrap64 (hiZ (A + B)) := by
    rw [e1, Int.add_zero]
    rw [IntKind.wrap_i64, IntKind.wrap_i64, IntKind.wrap_i64]
    unfold wrap64 word
    generalize (loZ A + loZ B) / 18446744073709551616 = o
    omega
  have e5 : (loZ A + loZ B + 0) % 18446744073709551616 = loZ (A + B) := by rw [e2, Int.add_zero]; rfl
  refine sat_of_vc (T := tiOf Try.prog) (E := E0) Try.func40 rfl rfl hE0 hm0 rfl ?_
  conv => whnf
  iterate 4
    repeat (any_goals (first
      | exact True.intro
      | (refine And.intro (fun _ => ?_) tf; conv => whnf)
      | (refine And.intro ft (fun _ => ?_); conv => whnf)
      | (refine And.intro (by kernel_rfl) ?_; conv => whnf)
      | (refine And.intro (by decide) ?_; conv => whnf)
      | (refine And.intro (fun _ => ?_) (fun h => absurd h (by decide)); conv => whnf)
      | (refine And.intro (fun h => absurd h (by decide)) (fun _ => ?_); conv => whnf)
      | (refine And.intro (fun _ => ?_) (fun _ => ?_) <;> conv => whnf)
      | (refine ⟨_, _, add64_does (loZ A) (loZ B) 0 a0.1 b0.1 (by omega) (by omega), ?_⟩; conv => whnf)))
    all_goals try (refine Or.inl ?_; conv => whnf)
  · rename_i h
    have h : decide (bits .and .i64 (bits .xor .i64 (hiZ A) (IntKind.i64.wrap (IntKind.i64.wrap (hiZ A + hiZ B) + IntKind.i64.wrap ((loZ A + loZ B + 0) / 18446744073709551616)))) (bits .xor .i64 (hiZ B) (IntKind.i64.wrap (IntKind.i64.wrap (hiZ A + hiZ B) + IntKind.i64.wrap ((loZ A + loZ B + 0) / 18446744073709551616)))) < 0) = true := h
    rw [e4, e3] at h
    rw [if_neg h]
    all_goals refine ⟨[], ?_⟩
    repeat (any_goals (first | exact True.intro | exact rfl | with_reducible_and_instances rfl | exact (by kernel_rfl) | refine And.intro ?_ ?_))
    all_goals conv => whnf
  · rename_i h
    have h : decide (bits .and .i64 (bits .xor .i64 (hiZ A) (IntKind.i64.wrap (IntKind.i64.wrap (hiZ A + hiZ B) + IntKind.i64.wrap ((loZ A + loZ B + 0) / 18446744073709551616)))) (bits .xor .i64 (hiZ B) (IntKind.i64.wrap (IntKind.i64.wrap (hiZ A + hiZ B) + IntKind.i64.wrap ((loZ A + loZ B + 0) / 18446744073709551616)))) < 0) = false := h
    rw [e4, ← Bool.not_eq_true, e3] at h
    have hin : in128 (A + B) := Decidable.not_not.1 h
    have e6 : wrap64 (hiZ (A + B)) = hiZ (A + B) := by unfold in128 in64 at hin; unfold wrap64; omega
    rw [if_pos hin, e4, e5, e6]
    all_goals refine ⟨[], ?_⟩
    repeat (any_goals (first | exact True.intro | exact rfl | with_reducible_and_instances rfl | exact (by kernel_rfl) | refine And.intro ?_ ?_))
    all_goals conv => whnf
def w128 : Int := 340282366920938463463374607431768211456
theorem sumS_succ {l : List Cel} {k : Nat} {c : Cel} (h : l[k]? = some c) : sumS (l.take (k + 1)) = sumS (l.take k) + c.s := by
  unfold sumS
  rw [List.map_take, List.map_take]
  exact sum_take_succ (by rw [List.getElem?_map, h]; rfl)
theorem sums_step (S s : Int) : 
    (S + s) % word = (S % word + loZ s) % word ∧ (S + s) / word % word = (S / word % word + (hiZ s) % word + (S % word + loZ s) / word) % word ∧
    (S + s) / w128 = S / w128 + (hiZ s / 18446744073709551616 + (S / word % word + (hiZ s) % word + (S % word + loZ s) / word) / word) := by
  unfold hiZ loZ word w128
  have h1 : S / 18446744073709551616 = S / 340282366920938463463374607431768211456 * 18446744073709551616 + S / 18446744073709551616 % 18446744073709551616 := by omega
  have h2 : S = S / 18446744073709551616 * 18446744073709551616 + S % 18446744073709551616 := by omega
  refine ⟨by omega, by omega, ?_⟩
  omega
theorem fdiv63 (z : Int) : z.fdiv (2 ^ min (Int.toNat 63) IntKind.i64.bits) = z / 9223372036854775808 := by
  rw [show (2 : Int) ^ min (Int.toNat 63) IntKind.i64.bits = 9223372036854775808 from by decide]
  exact Int.fdiv_eq_ediv_of_nonneg _ (by decide)
theorem sums_top (S : Int) : (S / w128 != (IntKind.i64.wrap (S / word % word)).fdiv (2 ^ min (Int.toNat 63) IntKind.i64.bits)) = !decide (in128 S) := by
  rw [fdiv63, IntKind.wrap_i64, Bool.eq_iff_iff]
  simp only [bne_iff_ne, ne_eq, Bool.not_eq_true', decide_eq_false_iff_not]
  unfold in128 in64 hiZ word w128
  omega
theorem sums_sat (l : List Cel) (hl : ∀ c ∈ l, CelOK c) (hn : l.length ≤ 1000) : Sat Try.prog 50 [.d (.sl 72 (l.map cR))] [] (if in128 (sumS l) then .tup [.d (wD (sumS l)), bA true] else .tup [.d (wD 0), bA false]) [] := by
  have hm : (l.map cR).length = l.length := List.length_map _
  have hb : ∀ k, -340282366920938463463374607431768211456 * k ≤ sumS (l.take k) ∧ sumS (l.take k) ≤ 340282366920938463463374607431768211456 * k := by
    intro k
    induction k with
    | zero => simp [sumS]
    | succ k ih =>
      by_cases hk : k < l.length
      · have hx := List.getElem?_eq_getElem hk
        have hs := (hl _ (List.getElem_mem hk)).s
        rw [sumS_succ hx]
        unfold in128 in64 hiZ word at hs
        omega
      · rw [List.take_of_length_le (by omega)] at ih ⊢
        omega
  refine sat_of_vc (T := tiOf Try.prog) (E := E0) Try.func50 rfl rfl hE0 hm0 rfl ?_
  conv => whnf
  repeat (any_goals (first
    | exact True.intro
    | (refine Or.inl ?_; conv => whnf)
    | (refine And.intro (fun _ => ?_) tf; conv => whnf)
    | (refine And.intro ft (fun _ => ?_); conv => whnf)
    | (refine And.intro (by kernel_rfl) ?_; conv => whnf)
    | (refine And.intro (by decide) ?_; conv => whnf)
    | (refine And.intro (fun _ => ?_) (fun h => absurd h (by decide)); conv => whnf)
    | (refine And.intro (fun h => absurd h (by decide)) (fun _ => ?_); conv => whnf)
    | (refine And.intro (fun _ => ?_) (fun _ => ?_) <;> conv => whnf)))
  refine ⟨Nat × Int, fun y => y.1 ≤ l.length ∧ y.2 = sumS (l.take y.1), fun y => ([(12, iA y.1), (11, iA (l.map cR).length), (10, .d (.sl 72 (l.map cR))), (6, uN (y.2 % word)), (5, uN (y.2 / word % word)), (4, iA (y.2 / w128)), (2, .ptr 0 0), (0, .d (.sl 72 (l.map cR)))], [.cells [iA 0, uN 0]]), fun y => l.length - y.1, ⟨(0, 0), ⟨Nat.zero_le _, rfl⟩, ?_⟩, ?_⟩
  · all_goals refine ⟨[], ?_⟩
    repeat (any_goals (first | exact True.intro | exact rfl | with_reducible_and_instances rfl | exact (by kernel_rfl) | refine And.intro ?_ ?_))
    all_goals conv => whnf
  rintro ⟨k, S⟩ ⟨hk, hS⟩
  have hk : k ≤ l.length := hk
  have hS : S = sumS (l.take k) := hS
  have hbk := hb k
  rw [← hS] at hbk
  conv => whnf
  by_cases hlt : k < l.length
  · have hx : l[k]? = some l[k] := List.getElem?_eq_getElem hlt
    have hc := hl _ (List.getElem_mem hlt)
    have hbs := hb (k + 1)
    have hss := sumS_succ hx
    generalize l[k] = c at hx hc hss
    rw [← hS] at hss
    obtain ⟨p1, p2, p3⟩ := sums_step S c.s
    have a0 : 0 ≤ S % word ∧ S % word < word := by unfold word; omega
    have b0 : 0 ≤ loZ c.s ∧ loZ c.s < word := by unfold loZ word; omega
    have c0 : 0 ≤ S / word % word ∧ S / word % word < word := by unfold word; omega
    have w0 : 0 ≤ IntKind.u64.wrap (hiZ c.s) ∧ IntKind.u64.wrap (hiZ c.s) = hiZ c.s % word := by rw [IntKind.wrap_u64]; unfold word; omega
    have o0 : 0 ≤ (S % word + loZ c.s + 0) / 18446744073709551616 ∧ (S % word + loZ c.s + 0) / 18446744073709551616 ≤ 1 := by unfold word at *; omega
    iterate 7
      repeat (any_goals (first
        | exact True.intro
        | (refine ⟨k, _, rfl, map_get hx, ?_⟩; conv => whnf)
        | (refine And.intro (fun _ => ?_) tf; conv => whnf)
        | (refine And.intro ft (fun _ => ?_); conv => whnf)
        | (refine And.intro (by kernel_rfl) ?_; conv => whnf)
        | (refine And.intro (by decide) ?_; conv => whnf)
        | (refine And.intro (fun _ => ?_) (fun h => absurd h (by decide)); conv => whnf)
        | (refine And.intro (fun h => absurd h (by decide)) (fun _ => ?_); conv => whnf)
        | (refine And.intro (fun _ => ?_) (fun _ => ?_) <;> conv => whnf)
        | (refine ⟨_, _, add64_does (S / word % word) (IntKind.u64.wrap (hiZ c.s)) ((S % word + loZ c.s + 0) / 18446744073709551616) c0.1 w0.1 o0.1 o0.2, ?_⟩; conv => whnf)
        | (refine ⟨_, _, add64_does (S % word) (loZ c.s) 0 a0.1 b0.1 (by omega) (by omega), ?_⟩; conv => whnf)))
      all_goals try (exfalso; simp only [decide_eq_true_eq, decide_eq_false_iff_not, Bool.not_eq_true', Bool.not_eq_false', Bool.not_eq_true, Bool.not_eq_false, beq_iff_eq, bne_iff_ne, beq_eq_false_iff_ne, bne_eq_false_iff_eq, ne_eq, Decidable.not_not] at *; first | omega | contradiction | (simp_all; done) | (simp_all; omega))
      all_goals try (refine Or.inl ?_; conv => whnf)
    refine ⟨(k + 1, S + c.s), ⟨hlt, hss.symm⟩, show l.length - (k + 1) < l.length - k by omega, ?_⟩
    all_goals refine ⟨[], ?_⟩
    repeat (any_goals (first | exact True.intro | exact rfl | with_reducible_and_instances rfl | exact (by kernel_rfl) | refine And.intro ?_ ?_))
    all_goals conv => whnf
    · exact wk1 (by omega)
    · show uN _ = uN ((S + c.s) % word)
      rw [p1, Int.add_zero]; rfl
    · show uN _ = uN ((S + c.s) / word % word)
      rw [p2, w0.2, Int.add_zero]; rfl
    · show iA _ = iA ((S + c.s) / w128)
      rw [p3, w0.2, Int.add_zero, fdiv63]
      have hcs := hc.s
      unfold in128 at hcs
      have e1 : hiZ c.s / 9223372036854775808 = hiZ c.s / 18446744073709551616 := by unfold in64 at hcs; omega
      rw [e1]
      have q1 : 0 ≤ (S / word % word + hiZ c.s % word + (S % word + loZ c.s) / word) / word ∧ (S / word % word + hiZ c.s % word + (S % word + loZ c.s) / word) / word ≤ 1 := by unfold word at *; omega
      have q2 : -1 ≤ hiZ c.s / 18446744073709551616 ∧ hiZ c.s / 18446744073709551616 ≤ 0 := by unfold in64 at hcs; omega
      have q3 : -1001 ≤ S / w128 ∧ S / w128 ≤ 1001 := by unfold w128; omega
      show iA (IntKind.i64.wrap (S / w128 + IntKind.i64.wrap (hiZ c.s / 18446744073709551616 + IntKind.i64.wrap ((S / word % word + hiZ c.s % word + (S % word + loZ c.s) / word) / word)))) = _
      generalize (S / word % word + hiZ c.s % word + (S % word + loZ c.s) / word) / word = o at q1 ⊢
      generalize hiZ c.s / 18446744073709551616 = h at q2 ⊢
      generalize S / w128 = T at q3 ⊢
      refine congrArg iA ?_
      rw [wi (n := o) (by omega) (by omega), wi (n := h + o) (by omega) (by omega), wi (by omega) (by omega)]
  · have hke : k = l.length := by omega
    subst hke
    rw [List.take_of_length_le (by omega)] at hS
    subst hS
    have ht := sums_top (sumS l)
    have e3 : IntKind.i64.wrap (sumS l / word % word) = hiZ (sumS l) ∨ ¬ in128 (sumS l) := by
      rw [IntKind.wrap_i64]
      unfold in128 in64 hiZ word
      omega
    iterate 3
      repeat (any_goals (first
        | exact True.intro
        | (refine And.intro (fun _ => ?_) tf; conv => whnf)
        | (refine And.intro ft (fun _ => ?_); conv => whnf)
        | (refine And.intro (by kernel_rfl) ?_; conv => whnf)
        | (refine And.intro (by decide) ?_; conv => whnf)
        | (refine And.intro (fun _ => ?_) (fun h => absurd h (by decide)); conv => whnf)
        | (refine And.intro (fun h => absurd h (by decide)) (fun _ => ?_); conv => whnf)
        | (refine And.intro (fun _ => ?_) (fun _ => ?_) <;> conv => whnf)))
      all_goals try (exfalso; simp only [decide_eq_true_eq, decide_eq_false_iff_not, Bool.not_eq_true', Bool.not_eq_false', Bool.not_eq_true, Bool.not_eq_false, beq_iff_eq, bne_iff_ne, beq_eq_false_iff_ne, bne_eq_false_iff_eq, ne_eq, Decidable.not_not] at *; first | omega | contradiction | (simp_all; done) | (simp_all; omega))
      all_goals try (refine Or.inl ?_; conv => whnf)
    · rename_i h
      have h : (sumS l / w128 != (IntKind.i64.wrap (sumS l / word % word)).fdiv (2 ^ min (Int.toNat 63) IntKind.i64.bits)) = true := h
      rw [ht] at h
      rw [if_neg (by simpa using h)]
      all_goals refine ⟨[], ?_⟩
      repeat (any_goals (first | exact True.intro | exact rfl | with_reducible_and_instances rfl | exact (by kernel_rfl) | refine And.intro ?_ ?_))
      all_goals conv => whnf
    · rename_i h
      have h : (sumS l / w128 != (IntKind.i64.wrap (sumS l / word % word)).fdiv (2 ^ min (Int.toNat 63) IntKind.i64.bits)) = false := h
      rw [ht] at h
      have hin : in128 (sumS l) := by simpa using h
      rw [if_pos hin]
      all_goals refine ⟨[], ?_⟩
      repeat (any_goals (first | exact True.intro | exact rfl | with_reducible_and_instances rfl | exact (by kernel_rfl) | refine And.intro ?_ ?_))
      all_goals conv => whnf
      exact congrArg (fun z => (AV.d (.agg [iD z, uZ (sumS l % word)]))) (e3.resolve_right (fun q => q hin))
end Go.Proofs.Ytbjmdnemeidpjaa
/- total with its three closures; Right. -/
namespace Go.Proofs.Ytbjmdnemeidpjaa
set_option linter.unusedSimpArgs false
set_option linter.unusedVariables false
open Go.RowKit
set_option maxRecDepth 100000
theorem safeAdd_sat (a b : Int) (ha : in64 a) (hb : in64 b) : Sat Try.prog 39 [iA a, iA b] [] (.tup [iA (addR a b).1, iA (addR a b).2]) [] :=
  .of_same (by repeat constructor) (by repeat constructor) fun w => safeAdd_any a b w ha.1 ha.2 hb.1 hb.2
theorem tot_n (c : Cel) : Sat Try.prog 47 [.fp (cR c)] [] (iA c.n) [] := by
  refine sat_of_vc (T := tiOf Try.prog) (E := E0) Try.func47 rfl rfl hE0 hm0 rfl ?_
  conv => whnf
  iterate 3
    repeat (any_goals (first
      | exact True.intro
      | (refine ⟨_, drop_id, ?_⟩; conv => whnf)
      | (refine ⟨_, _, at_n, ?_⟩; conv => whnf)
      | (refine ⟨_, _, at_hi, ?_⟩; conv => whnf)
      | (refine ⟨_, _, at_lo, ?_⟩; conv => whnf)
      | (refine ⟨_, _, at_mn, ?_⟩; conv => whnf)
      | (refine ⟨_, _, at_mx, ?_⟩; conv => whnf)
      | (refine ⟨_, _, at_ce, ?_⟩; conv => whnf)
      | (refine ⟨_, _, at_po, ?_⟩; conv => whnf)
      | (refine ⟨_, whole_z sC, clenz sC, ?_⟩; conv => whnf)
      | (refine ⟨_, setzC, ?_⟩; conv => whnf)
      | (refine And.intro (clenz sC) ?_; conv => whnf)
      | (refine And.intro fitzC ?_; conv => whnf)
      | (refine ⟨_, whole_z sF, clenz sF, ?_⟩; conv => whnf)
      | (refine ⟨_, setzF, ?_⟩; conv => whnf)
      | (refine And.intro (clenz sF) ?_; conv => whnf)
      | (refine And.intro fitzF ?_; conv => whnf)
      | (refine And.intro (fit1 rfl (by decide)) ?_; conv => whnf)
      | (refine ⟨_, sum_cell s25, rfl, ?_⟩; conv => whnf)
      | (refine ⟨_, set_n _, ?_⟩; conv => whnf)
      | (refine ⟨_, set_mn _, ?_⟩; conv => whnf)
      | (refine ⟨_, set_mx _, ?_⟩; conv => whnf)
      | (refine ⟨_, set_ce _, ?_⟩; conv => whnf)
      | (refine ⟨_, set_po _, ?_⟩; conv => whnf)
      | (refine ⟨_, set_s _, ?_⟩; conv => whnf)
      | (refine ⟨_, set_hi _, ?_⟩; conv => whnf)
      | (refine ⟨_, set_lo _, ?_⟩; conv => whnf)
      | (refine And.intro (fun _ => ?_) tf; conv => whnf)
      | (refine And.intro ft (fun _ => ?_); conv => whnf)
      | (refine And.intro (by kernel_rfl) ?_; conv => whnf)
      | (refine And.intro (by decide) ?_; conv => whnf)
      | (refine And.intro (fun _ => ?_) (fun h => absurd h (by decide)); conv => whnf)
      | (refine And.intro (fun h => absurd h (by decide)) (fun _ => ?_); conv => whnf)
      | (refine And.intro (fun _ => ?_) (fun _ => ?_) <;> conv => whnf)))
    all_goals try (refine Or.inl ?_; conv => whnf)
  all_goals refine ⟨[], ?_⟩
  repeat (any_goals (first | exact True.intro | exact rfl | with_reducible_and_instances rfl | exact (by kernel_rfl) | refine And.intro ?_ ?_))
  all_goals conv => whnf
theorem tot_ce (c : Cel) : Sat Try.prog 48 [.fp (cR c)] [] (iA c.ce) [] := by
  refine sat_of_vc (T := tiOf Try.prog) (E := E0) Try.func48 rfl rfl hE0 hm0 rfl ?_
  conv => whnf
  iterate 3
    repeat (any_goals (first
      | exact True.intro
      | (refine ⟨_, drop_id, ?_⟩; conv => whnf)
      | (refine ⟨_, _, at_n, ?_⟩; conv => whnf)
      | (refine ⟨_, _, at_hi, ?_⟩; conv => whnf)
      | (refine ⟨_, _, at_lo, ?_⟩; conv => whnf)
      | (refine ⟨_, _, at_mn, ?_⟩; conv => whnf)
      | (refine ⟨_, _, at_mx, ?_⟩; conv => whnf)
      | (refine ⟨_, _, at_ce, ?_⟩; conv => whnf)
      | (refine ⟨_, _, at_po, ?_⟩; conv => whnf)
      | (refine ⟨_, whole_z sC, clenz sC, ?_⟩; conv => whnf)
      | (refine ⟨_, setzC, ?_⟩; conv => whnf)
      | (refine And.intro (clenz sC) ?_; conv => whnf)
      | (refine And.intro fitzC ?_; conv => whnf)
      | (refine ⟨_, whole_z sF, clenz sF, ?_⟩; conv => whnf)
      | (refine ⟨_, setzF, ?_⟩; conv => whnf)
      | (refine And.intro (clenz sF) ?_; conv => whnf)
      | (refine And.intro fitzF ?_; conv => whnf)
      | (refine And.intro (fit1 rfl (by decide)) ?_; conv => whnf)
      | (refine ⟨_, sum_cell s25, rfl, ?_⟩; conv => whnf)
      | (refine ⟨_, set_n _, ?_⟩; conv => whnf)
      | (refine ⟨_, set_mn _, ?_⟩; conv => whnf)
      | (refine ⟨_, set_mx _, ?_⟩; conv => whnf)
      | (refine ⟨_, set_ce _, ?_⟩; conv => whnf)
      | (refine ⟨_, set_po _, ?_⟩; conv => whnf)
      | (refine ⟨_, set_s _, ?_⟩; conv => whnf)
      | (refine ⟨_, set_hi _, ?_⟩; conv => whnf)
      | (refine ⟨_, set_lo _, ?_⟩; conv => whnf)
      | (refine And.intro (fun _ => ?_) tf; conv => whnf)
      | (refine And.intro ft (fun _ => ?_); conv => whnf)
      | (refine And.intro (by kernel_rfl) ?_; conv => whnf)
      | (refine And.intro (by decide) ?_; conv => whnf)
      | (refine And.intro (fun _ => ?_) (fun h => absurd h (by decide)); conv => whnf)
      | (refine And.intro (fun h => absurd h (by decide)) (fun _ => ?_); conv => whnf)
      | (refine And.intro (fun _ => ?_) (fun _ => ?_) <;> conv => whnf)))
    all_goals try (refine Or.inl ?_; conv => whnf)
  all_goals refine ⟨[], ?_⟩
  repeat (any_goals (first | exact True.intro | exact rfl | with_reducible_and_instances rfl | exact (by kernel_rfl) | refine And.intro ?_ ?_))
  all_goals conv => whnf
theorem tot_po (c : Cel) : Sat Try.prog 49 [.fp (cR c)] [] (iA c.po) [] := by
  refine sat_of_vc (T := tiOf Try.prog) (E := E0) Try.func49 rfl rfl hE0 hm0 rfl ?_
  conv => whnf
  iterate 3
    repeat (any_goals (first
      | exact True.intro
      | (refine ⟨_, drop_id, ?_⟩; conv => whnf)
      | (refine ⟨_, _, at_n, ?_⟩; conv => whnf)
      | (refine ⟨_, _, at_hi, ?_⟩; conv => whnf)
      | (refine ⟨_, _, at_lo, ?_⟩; conv => whnf)
      | (refine ⟨_, _, at_mn, ?_⟩; conv => whnf)
      | (refine ⟨_, _, at_mx, ?_⟩; conv => whnf)
      | (refine ⟨_, _, at_ce, ?_⟩; conv => whnf)
      | (refine ⟨_, _, at_po, ?_⟩; conv => whnf)
      | (refine ⟨_, whole_z sC, clenz sC, ?_⟩; conv => whnf)
      | (refine ⟨_, setzC, ?_⟩; conv => whnf)
      | (refine And.intro (clenz sC) ?_; conv => whnf)
      | (refine And.intro fitzC ?_; conv => whnf)
      | (refine ⟨_, whole_z sF, clenz sF, ?_⟩; conv => whnf)
      | (refine ⟨_, setzF, ?_⟩; conv => whnf)
      | (refine And.intro (clenz sF) ?_; conv => whnf)
      | (refine And.intro fitzF ?_; conv => whnf)
      | (refine And.intro (fit1 rfl (by decide)) ?_; conv => whnf)
      | (refine ⟨_, sum_cell s25, rfl, ?_⟩; conv => whnf)
      | (refine ⟨_, set_n _, ?_⟩; conv => whnf)
      | (refine ⟨_, set_mn _, ?_⟩; conv => whnf)
      | (refine ⟨_, set_mx _, ?_⟩; conv => whnf)
      | (refine ⟨_, set_ce _, ?_⟩; conv => whnf)
      | (refine ⟨_, set_po _, ?_⟩; conv => whnf)
      | (refine ⟨_, set_s _, ?_⟩; conv => whnf)
      | (refine ⟨_, set_hi _, ?_⟩; conv => whnf)
      | (refine ⟨_, set_lo _, ?_⟩; conv => whnf)
      | (refine And.intro (fun _ => ?_) tf; conv => whnf)
      | (refine And.intro ft (fun _ => ?_); conv => whnf)
      | (refine And.intro (by kernel_rfl) ?_; conv => whnf)
      | (refine And.intro (by decide) ?_; conv => whnf)
      | (refine And.intro (fun _ => ?_) (fun h => absurd h (by decide)); conv => whnf)
      | (refine And.intro (fun h => absurd h (by decide)) (fun _ => ?_); conv => whnf)
      | (refine And.intro (fun _ => ?_) (fun _ => ?_) <;> conv => whnf)))
    all_goals try (refine Or.inl ?_; conv => whnf)
  all_goals refine ⟨[], ?_⟩
  repeat (any_goals (first | exact True.intro | exact rfl | with_reducible_and_instances rfl | exact (by kernel_rfl) | refine And.intro ?_ ?_))
  all_goals conv => whnf
def sumBy (f : Cel → Int) (l : List Cel) : Int := (l.map f).sum
theorem sumBy_succ {f : Cel → Int} {l : List Cel} {k : Nat} {c : Cel} (h : l[k]? = some c) : sumBy f (l.take (k + 1)) = sumBy f (l.take k) + f c := by
  unfold sumBy
  rw [List.map_take, List.map_take]
  exact sum_take_succ (by rw [List.getElem?_map, h]; rfl)
theorem sumBy_nonneg {f : Cel → Int} : ∀ {l : List Cel}, (∀ c ∈ l, 0 ≤ f c) → 0 ≤ sumBy f l
  | [], _ => Int.le_refl _
  | c :: l, h => by
    have := sumBy_nonneg (l := l) fun d hd => h d (List.mem_cons_of_mem _ hd)
    have := h c (List.mem_cons_self ..)
    unfold sumBy at *
    rw [List.map_cons, List.sum_cons]; omega
theorem sumBy_take {f : Cel → Int} {l : List Cel} (h : ∀ c ∈ l, 0 ≤ f c) (k : Nat) : 0 ≤ sumBy f (l.take k) ∧ sumBy f (l.take k) ≤ sumBy f l := by
  refine ⟨sumBy_nonneg fun c hc => h c (List.mem_of_mem_take hc), ?_⟩
  have e : sumBy f l = sumBy f (l.take k) + sumBy f (l.drop k) := by
    unfold sumBy
    rw [← List.sum_append, ← List.map_append, List.take_append_drop]
  have := sumBy_nonneg (f := f) (l := l.drop k) fun c hc => h c (List.mem_of_mem_drop hc)
  omega
theorem total_cells (g : FuncId) (f : Cel → Int) (l : List Cel) (hn : l.length ≤ 1000) (hf : ∀ c ∈ l, 0 ≤ f c ∧ in64 (f c)) (hg : ∀ c ∈ l, Sat Try.prog g [.fp (cR c)] [] (iA (f c)) []) (hE : E0 g = true) :
    Sat Try.prog 46 [.d (.sl 72 (l.map cR)), .fn (.func g) [] []] [] (if sumBy f l ≤ 9223372036854775807 then .tup [iA (sumBy f l), bA true] else .tup [iA 0, bA false]) [] := by
  have hm : (l.map cR).length = l.length := List.length_map _
  have h0 : ∀ c ∈ l, 0 ≤ f c := fun c hc => (hf c hc).1
  refine sat_of_vc (T := tiOf Try.prog) (E := E0) Try.func46 rfl rfl hE0 hm0 rfl ?_
  conv => whnf
  repeat (any_goals (first
    | exact True.intro
    | (refine Or.inl ?_; conv => whnf)
    | (refine And.intro (fun _ => ?_) tf; conv => whnf)
    | (refine And.intro ft (fun _ => ?_); conv => whnf)
    | (refine And.intro (by kernel_rfl) ?_; conv => whnf)
    | (refine And.intro (by decide) ?_; conv => whnf)
    | (refine And.intro (fun _ => ?_) (fun h => absurd h (by decide)); conv => whnf)
    | (refine And.intro (fun h => absurd h (by decide)) (fun _ => ?_); conv => whnf)
    | (refine And.intro (fun _ => ?_) (fun _ => ?_) <;> conv => whnf)))
  refine ⟨Nat × Int, fun y => y.1 ≤ l.length ∧ y.2 = sumBy f (l.take y.1) ∧ y.2 ≤ 9223372036854775807, fun y => ([(12, iA y.1), (11, iA (l.map cR).length), (10, .d (.sl 72 (l.map cR))), (6, iA y.2), (0, .d (.sl 72 (l.map cR))), (1, .fn (.func g) [] [])], []), fun y => l.length - y.1, ⟨(0, 0), ⟨Nat.zero_le _, rfl, by decide⟩, ?_⟩, ?_⟩
  · all_goals refine ⟨[], ?_⟩
    repeat (any_goals (first | exact True.intro | exact rfl | with_reducible_and_instances rfl | exact (by kernel_rfl) | refine And.intro ?_ ?_))
    all_goals conv => whnf
  rintro ⟨k, S⟩ ⟨hk, hS, hb⟩
  have hk : k ≤ l.length := hk
  have hS : S = sumBy f (l.take k) := hS
  have hb : S ≤ 9223372036854775807 := hb
  have ht := sumBy_take h0 k
  rw [← hS] at ht
  conv => whnf
  by_cases hlt : k < l.length
  · have hx : l[k]? = some l[k] := List.getElem?_eq_getElem hlt
    have hc := hf _ (List.getElem_mem hlt)
    have hgc := hg _ (List.getElem_mem hlt)
    have hss := sumBy_succ (f := f) hx
    have ht2 := sumBy_take h0 (k + 1)
    generalize l[k] = c at hx hc hss hgc
    rw [← hS] at hss
    have sa := safeAdd_sat S (f c) (by unfold in64; omega) hc.2
    have ea : addR S (f c) = if S + f c ≤ 9223372036854775807 then (S + f c, 0) else (0, 12) := by
      unfold addR
      by_cases q : S + f c ≤ 9223372036854775807
      · rw [if_pos q, if_neg (by omega)]
      · rw [if_neg q, if_pos (by omega)]
    rw [ea] at sa
    by_cases q : S + f c ≤ 9223372036854775807
    · rw [if_pos q] at sa
      iterate 5
        repeat (any_goals (first
          | exact True.intro
          | (rw [hE]; conv => whnf)
          | (refine ⟨k, _, rfl, map_get hx, ?_⟩; conv => whnf)
          | (refine And.intro (fun _ => ?_) tf; conv => whnf)
          | (refine And.intro ft (fun _ => ?_); conv => whnf)
          | (refine And.intro (by kernel_rfl) ?_; conv => whnf)
          | (refine And.intro (by decide) ?_; conv => whnf)
          | (refine And.intro (fun _ => ?_) (fun h => absurd h (by decide)); conv => whnf)
          | (refine And.intro (fun h => absurd h (by decide)) (fun _ => ?_); conv => whnf)
          | (refine And.intro (fun _ => ?_) (fun _ => ?_) <;> conv => whnf)
          | (refine ⟨_, _, hgc.pu rfl rfl, ?_⟩; conv => whnf)
          | (refine ⟨_, _, sa.pu rfl rfl, ?_⟩; conv => whnf)))
        all_goals try (exfalso; simp only [decide_eq_true_eq, decide_eq_false_iff_not, Bool.not_eq_true', Bool.not_eq_false', Bool.not_eq_true, Bool.not_eq_false, beq_iff_eq, bne_iff_ne, beq_eq_false_iff_ne, bne_eq_false_iff_eq, ne_eq, Decidable.not_not] at *; first | omega | contradiction | (simp_all; done) | (simp_all; omega))
        all_goals try (refine Or.inl ?_; conv => whnf)
      refine ⟨(k + 1, S + f c), ⟨hlt, hss.symm, q⟩, show l.length - (k + 1) < l.length - k by omega, ?_⟩
      all_goals refine ⟨[], ?_⟩
      repeat (any_goals (first | exact True.intro | exact rfl | with_reducible_and_instances rfl | exact (by kernel_rfl) | refine And.intro ?_ ?_))
      all_goals conv => whnf
      exact wk1 (by omega)
    · rw [if_neg q] at sa
      iterate 5
        repeat (any_goals (first
          | exact True.intro
          | (rw [hE]; conv => whnf)
          | (refine ⟨k, _, rfl, map_get hx, ?_⟩; conv => whnf)
          | (refine And.intro (fun _ => ?_) tf; conv => whnf)
          | (refine And.intro ft (fun _ => ?_); conv => whnf)
          | (refine And.intro (by kernel_rfl) ?_; conv => whnf)
          | (refine And.intro (by decide) ?_; conv => whnf)
          | (refine And.intro (fun _ => ?_) (fun h => absurd h (by decide)); conv => whnf)
          | (refine And.intro (fun h => absurd h (by decide)) (fun _ => ?_); conv => whnf)
          | (refine And.intro (fun _ => ?_) (fun _ => ?_) <;> conv => whnf)
          | (refine ⟨_, _, hgc.pu rfl rfl, ?_⟩; conv => whnf)
          | (refine ⟨_, _, sa.pu rfl rfl, ?_⟩; conv => whnf)))
        all_goals try (exfalso; simp only [decide_eq_true_eq, decide_eq_false_iff_not, Bool.not_eq_true', Bool.not_eq_false', Bool.not_eq_true, Bool.not_eq_false, beq_iff_eq, bne_iff_ne, beq_eq_false_iff_ne, bne_eq_false_iff_eq, ne_eq, Decidable.not_not] at *; first | omega | contradiction | (simp_all; done) | (simp_all; omega))
        all_goals try (refine Or.inl ?_; conv => whnf)
      rw [if_neg (by rw [hss] at ht2; omega)]
      all_goals refine ⟨[], ?_⟩
      repeat (any_goals (first | exact True.intro | exact rfl | with_reducible_and_instances rfl | exact (by kernel_rfl) | refine And.intro ?_ ?_))
      all_goals conv => whnf
  · have hke : k = l.length := by omega
    subst hke
    rw [List.take_of_length_le (by omega)] at hS
    subst hS
    iterate 3
      repeat (any_goals (first
        | exact True.intro
        | (refine And.intro (fun _ => ?_) tf; conv => whnf)
        | (refine And.intro ft (fun _ => ?_); conv => whnf)
        | (refine And.intro (by kernel_rfl) ?_; conv => whnf)
        | (refine And.intro (by decide) ?_; conv => whnf)
        | (refine And.intro (fun _ => ?_) (fun h => absurd h (by decide)); conv => whnf)
        | (refine And.intro (fun h => absurd h (by decide)) (fun _ => ?_); conv => whnf)
        | (refine And.intro (fun _ => ?_) (fun _ => ?_) <;> conv => whnf)))
      all_goals try (exfalso; simp only [decide_eq_true_eq, decide_eq_false_iff_not, Bool.not_eq_true', Bool.not_eq_false', Bool.not_eq_true, Bool.not_eq_false, beq_iff_eq, bne_iff_ne, beq_eq_false_iff_ne, bne_eq_false_iff_eq, ne_eq, Decidable.not_not] at *; first | omega | contradiction | (simp_all; done) | (simp_all; omega))
      all_goals try (refine Or.inl ?_; conv => whnf)
    rw [if_pos hb]
    all_goals refine ⟨[], ?_⟩
    repeat (any_goals (first | exact True.intro | exact rfl | with_reducible_and_instances rfl | exact (by kernel_rfl) | refine And.intro ?_ ?_))
    all_goals conv => whnf
end Go.Proofs.Ytbjmdnemeidpjaa
/- Right of a cell. -/
namespace Go.Proofs.Ytbjmdnemeidpjaa
set_option linter.unusedSimpArgs false
set_option linter.unusedVariables false
open Go.RowKit
set_option maxRecDepth 100000
theorem right_no {c : Cel} (h : ¬ (0 ≤ c.n ∧ 0 ≤ c.ce ∧ 0 ≤ c.po ∧ c.mn ≤ c.mx)) : rightC c = false := by
  unfold rightC
  rw [decide_eq_false h]
  rfl
theorem right_no2 {c : Cel} (h : okH c.h = false) : rightC c = false := by
  unfold rightC
  rw [h, Bool.and_false]
  rfl
theorem right_no3 {c : Cel} (h : ¬ c.h.sum = c.n) : rightC c = false := by
  unfold rightC
  rw [decide_eq_false h, Bool.and_false]
  rfl
theorem right_zero {c : Cel} (h : 0 ≤ c.n ∧ 0 ≤ c.ce ∧ 0 ≤ c.po ∧ c.mn ≤ c.mx) (h2 : okH c.h = true) (h3 : c.h.sum = c.n) (h4 : c.n = 0) : rightC c = decide (c.s = 0 ∧ c.mn = 0 ∧ c.mx = 0) := by
  unfold rightC
  rw [decide_eq_true h, h2, decide_eq_true h3, if_pos h4]
  rfl
theorem right_some {c : Cel} (h : 0 ≤ c.n ∧ 0 ≤ c.ce ∧ 0 ≤ c.po ∧ c.mn ≤ c.mx) (h2 : okH c.h = true) (h3 : c.h.sum = c.n) (h4 : ¬ c.n = 0) : rightC c = (decide (hAt c.h (bkt c.mn) ≠ 0 ∧ hAt c.h (bkt c.mx) ≠ 0) && inB c) := by
  unfold rightC
  rw [decide_eq_true h, h2, decide_eq_true h3, if_neg h4]
  rfl
theorem at_h {c : Cel} (hl : c.h.length = 65) {k : Nat} (hk : k < 65) : List.drop (0 + 7 + k * 1) (cR c) = iD (hAt c.h k) :: (hR c.h).drop (k + 1) := by
  have e : List.drop (0 + 7 + k * 1) (cR c) = (hR c.h).drop (0 + k * 1) := by
    rw [show 0 + 7 + k * 1 = k + 7 by omega, show 0 + k * 1 = k by omega]; rfl
  rw [e]
  refine drop_row ?_
  unfold hAt
  rw [List.getElem?_eq_getElem (by omega)]
  rfl
theorem wof_sat (v : Int) (h : in64 v) : Sat Try.prog 27 [iA v] [] (.d (wD v)) [] :=
  .of_calls (.cons (.d (.v _)) .nil) (.d (wD_flat _)) fun w => wideOf_any v w h.1 h.2
theorem wd_beq (a b : Int) : (hiZ a == hiZ b && loZ a == loZ b) = decide (a = b) := by
  rw [Bool.eq_iff_iff]
  simp only [Bool.and_eq_true, beq_iff_eq, decide_eq_true_eq]
  unfold hiZ loZ word
  omega
theorem no_way {a b : Int} (h : a = b) (q : (!(hiZ a == hiZ b && loZ a == loZ b)) = true) : False := by rw [wd_beq, decide_eq_true h] at q; exact Bool.noConfusion q
theorem no_way2 {a b : Int} (h : ¬ a = b) (q : (!(hiZ a == hiZ b && loZ a == loZ b)) = false) : False := by rw [wd_beq, decide_eq_false h] at q; exact Bool.noConfusion q
theorem zz1 {c : Cel} (h : (hiZ c.s == 0 && loZ c.s == 0) = true) (h2 : (c.mn == 0) = true) : decide (c.s = 0 ∧ c.mn = 0 ∧ c.mx = 0) = (c.mx == 0) := by
  have e := wd_beq c.s 0
  have e : (hiZ c.s == 0 && loZ c.s == 0) = decide (c.s = 0) := e
  rw [e] at h
  rw [Bool.eq_iff_iff]
  simp only [decide_eq_true_eq, beq_iff_eq] at *
  omega
theorem zz2 {c : Cel} (h2 : (c.mn == 0) = false) : decide (c.s = 0 ∧ c.mn = 0 ∧ c.mx = 0) = false := by
  simp only [beq_eq_false_iff_ne, ne_eq] at h2
  exact decide_eq_false (by omega)
theorem zz3 {c : Cel} (h : (hiZ c.s == 0 && loZ c.s == 0) = false) : decide (c.s = 0 ∧ c.mn = 0 ∧ c.mx = 0) = false := by
  have e : (hiZ c.s == 0 && loZ c.s == 0) = decide (c.s = 0) := wd_beq c.s 0
  rw [e] at h
  have := of_decide_eq_false h
  exact decide_eq_false (by omega)
theorem rr1 {c : Cel} (h : (hAt c.h (bkt c.mn) == 0) = true) : (decide (hAt c.h (bkt c.mn) ≠ 0 ∧ hAt c.h (bkt c.mx) ≠ 0) && inB c) = false := by
  have h := eq_of_beq h
  rw [decide_eq_false (fun q => q.1 h)]; rfl
theorem rr2 {c : Cel} (h : (hAt c.h (bkt c.mx) == 0) = true) : (decide (hAt c.h (bkt c.mn) ≠ 0 ∧ hAt c.h (bkt c.mx) ≠ 0) && inB c) = false := by
  have h := eq_of_beq h
  rw [decide_eq_false (fun q => q.2 h)]; rfl
theorem rr3 {c : Cel} (h : (hAt c.h (bkt c.mn) == 0) = false) (h2 : (hAt c.h (bkt c.mx) == 0) = false) : (decide (hAt c.h (bkt c.mn) ≠ 0 ∧ hAt c.h (bkt c.mx) ≠ 0) && inB c) = inB c := by
  rw [decide_eq_true ⟨by simpa using h, by simpa using h2⟩]; rfl
theorem inB_no {c : Cel} {b : Nat} (hb : b < 65) (h : hAt c.h b ≠ 0) (h2 : b < bkt c.mn ∨ bkt c.mx < b) : inB c = false := by
  rw [← Bool.not_eq_true]
  intro q
  have := of_decide_eq_true (List.all_eq_true.1 q b (List.mem_range.2 hb))
  omega
theorem inB_yes {c : Cel} (h : ∀ b, b < 65 → hAt c.h b ≠ 0 → bkt c.mn ≤ b ∧ b ≤ bkt c.mx) : inB c = true := by
  refine List.all_eq_true.2 fun b hb => decide_eq_true ?_
  by_cases q : hAt c.h b = 0
  · exact .inl q
  · exact .inr (h b (List.mem_range.1 hb) q)
theorem l27 : (tiOf Try.prog 27).len = 65 := by kernel_rfl
set_option maxHeartbeats 4000000 in
theorem right_sat_c (c : Cel) (hc : CelOK c) : Sat Try.prog 13 [.d (cD c)] [] (bA (rightC c)) [] := by
  have hl := hc.hl
  have hx := hc.hx
  have t1 := total_sat c.h hl hx
  have b1 := bucket_sat c.mn hc.mn
  have b2 := bucket_sat c.mx hc.mx
  have f1 := full_sat c.h
  have w1 := wof_sat c.n hc.n
  have k1 := bkt_lt c.mn hc.mn.2
  have k2 := bkt_lt c.mx hc.mx.2
  refine sat_of_vc (T := tiOf Try.prog) (E := E0) Try.func13 rfl rfl hE0 hm0 rfl ?_
  conv => whnf
  by_cases h0 : 0 ≤ c.n ∧ 0 ≤ c.ce ∧ 0 ≤ c.po ∧ c.mn ≤ c.mx
  case neg =>
    rw [right_no h0]
    iterate 2
      repeat (any_goals (first
        | exact True.intro
        | (refine ⟨_, drop_id, ?_⟩; conv => whnf)
        | (refine ⟨_, _, at_n, ?_⟩; conv => whnf)
        | (refine ⟨_, _, at_hi, ?_⟩; conv => whnf)
        | (refine ⟨_, _, at_lo, ?_⟩; conv => whnf)
        | (refine ⟨_, _, at_mn, ?_⟩; conv => whnf)
        | (refine ⟨_, _, at_mx, ?_⟩; conv => whnf)
        | (refine ⟨_, _, at_ce, ?_⟩; conv => whnf)
        | (refine ⟨_, _, at_po, ?_⟩; conv => whnf)
        | (refine ⟨_, whole_z sC, clenz sC, ?_⟩; conv => whnf)
        | (refine ⟨_, setzC, ?_⟩; conv => whnf)
        | (refine And.intro (clenz sC) ?_; conv => whnf)
        | (refine And.intro fitzC ?_; conv => whnf)
        | (refine ⟨_, whole_cell sC hl, clen sC hl, ?_⟩; conv => whnf)
        | (refine And.intro (clen sC hl) ?_; conv => whnf)
        | (refine And.intro (fitC hl) ?_; conv => whnf)
        | (refine ⟨_, setC hl, ?_⟩; conv => whnf)
        | (refine ⟨_, whole_z sF, clenz sF, ?_⟩; conv => whnf)
        | (refine ⟨_, setzF, ?_⟩; conv => whnf)
        | (refine And.intro (clenz sF) ?_; conv => whnf)
        | (refine And.intro fitzF ?_; conv => whnf)
        | (refine ⟨_, whole_cell sF hl, clen sF hl, ?_⟩; conv => whnf)
        | (refine And.intro (clen sF hl) ?_; conv => whnf)
        | (refine And.intro (fitF hl) ?_; conv => whnf)
        | (refine ⟨_, setF hl, ?_⟩; conv => whnf)
        | (refine And.intro (fit1 hl (by decide)) ?_; conv => whnf)
        | (refine And.intro (fit1 rfl (by decide)) ?_; conv => whnf)
        | (refine ⟨_, sum_cell s25, rfl, ?_⟩; conv => whnf)
        | (refine ⟨_, set_n _, ?_⟩; conv => whnf)
        | (refine ⟨_, set_mn _, ?_⟩; conv => whnf)
        | (refine ⟨_, set_mx _, ?_⟩; conv => whnf)
        | (refine ⟨_, set_ce _, ?_⟩; conv => whnf)
        | (refine ⟨_, set_po _, ?_⟩; conv => whnf)
        | (refine ⟨_, set_s _, ?_⟩; conv => whnf)
        | (refine ⟨_, set_hi _, ?_⟩; conv => whnf)
        | (refine ⟨_, set_lo _, ?_⟩; conv => whnf)
        | (refine And.intro (fun _ => ?_) tf; conv => whnf)
        | (refine And.intro ft (fun _ => ?_); conv => whnf)
        | (refine And.intro (by kernel_rfl) ?_; conv => whnf)
        | (refine And.intro (by decide) ?_; conv => whnf)
        | (refine And.intro (fun _ => ?_) (fun h => absurd h (by decide)); conv => whnf)
        | (refine And.intro (fun h => absurd h (by decide)) (fun _ => ?_); conv => whnf)
        | (refine And.intro (fun _ => ?_) (fun _ => ?_) <;> conv => whnf)
        | (refine ⟨_, _, t1.pu rfl rfl, ?_⟩; conv => whnf)
        | (refine ⟨_, _, b1.pu rfl rfl, ?_⟩; conv => whnf)
        | (refine ⟨_, _, b2.pu rfl rfl, ?_⟩; conv => whnf)))
      all_goals try (exfalso; simp only [decide_eq_true_eq, decide_eq_false_iff_not, Bool.not_eq_true', Bool.not_eq_false', Bool.not_eq_true, Bool.not_eq_false, beq_iff_eq, bne_iff_ne, beq_eq_false_iff_ne, bne_eq_false_iff_eq, ne_eq, Decidable.not_not] at *; first | omega | contradiction | (simp_all; done) | (simp_all; omega))
      all_goals try (refine Or.inl ?_; conv => whnf)
    all_goals try (exfalso; simp only [decide_eq_true_eq, decide_eq_false_iff_not] at *; omega)
    all_goals refine ⟨[], ?_⟩
    repeat (any_goals (first | exact True.intro | exact rfl | with_reducible_and_instances rfl | exact (by kernel_rfl) | refine And.intro ?_ ?_))
    all_goals conv => whnf
  iterate 2
    repeat (any_goals (first
      | exact True.intro
      | (refine ⟨_, drop_id, ?_⟩; conv => whnf)
      | (refine ⟨_, _, at_n, ?_⟩; conv => whnf)
      | (refine ⟨_, _, at_hi, ?_⟩; conv => whnf)
      | (refine ⟨_, _, at_lo, ?_⟩; conv => whnf)
      | (refine ⟨_, _, at_mn, ?_⟩; conv => whnf)
      | (refine ⟨_, _, at_mx, ?_⟩; conv => whnf)
      | (refine ⟨_, _, at_ce, ?_⟩; conv => whnf)
      | (refine ⟨_, _, at_po, ?_⟩; conv => whnf)
      | (refine ⟨_, whole_z sC, clenz sC, ?_⟩; conv => whnf)
      | (refine ⟨_, setzC, ?_⟩; conv => whnf)
      | (refine And.intro (clenz sC) ?_; conv => whnf)
      | (refine And.intro fitzC ?_; conv => whnf)
      | (refine ⟨_, whole_cell sC hl, clen sC hl, ?_⟩; conv => whnf)
      | (refine And.intro (clen sC hl) ?_; conv => whnf)
      | (refine And.intro (fitC hl) ?_; conv => whnf)
      | (refine ⟨_, setC hl, ?_⟩; conv => whnf)
      | (refine ⟨_, whole_z sF, clenz sF, ?_⟩; conv => whnf)
      | (refine ⟨_, setzF, ?_⟩; conv => whnf)
      | (refine And.intro (clenz sF) ?_; conv => whnf)
      | (refine And.intro fitzF ?_; conv => whnf)
      | (refine ⟨_, whole_cell sF hl, clen sF hl, ?_⟩; conv => whnf)
      | (refine And.intro (clen sF hl) ?_; conv => whnf)
      | (refine And.intro (fitF hl) ?_; conv => whnf)
      | (refine ⟨_, setF hl, ?_⟩; conv => whnf)
      | (refine And.intro (fit1 hl (by decide)) ?_; conv => whnf)
      | (refine And.intro (fit1 rfl (by decide)) ?_; conv => whnf)
      | (refine ⟨_, sum_cell s25, rfl, ?_⟩; conv => whnf)
      | (refine ⟨_, set_n _, ?_⟩; conv => whnf)
      | (refine ⟨_, set_mn _, ?_⟩; conv => whnf)
      | (refine ⟨_, set_mx _, ?_⟩; conv => whnf)
      | (refine ⟨_, set_ce _, ?_⟩; conv => whnf)
      | (refine ⟨_, set_po _, ?_⟩; conv => whnf)
      | (refine ⟨_, set_s _, ?_⟩; conv => whnf)
      | (refine ⟨_, set_hi _, ?_⟩; conv => whnf)
      | (refine ⟨_, set_lo _, ?_⟩; conv => whnf)
      | (refine And.intro (fun _ => ?_) tf; conv => whnf)
      | (refine And.intro ft (fun _ => ?_); conv => whnf)
      | (refine And.intro (by kernel_rfl) ?_; conv => whnf)
      | (refine And.intro (by decide) ?_; conv => whnf)
      | (refine And.intro (fun _ => ?_) (fun h => absurd h (by decide)); conv => whnf)
      | (refine And.intro (fun h => absurd h (by decide)) (fun _ => ?_); conv => whnf)
      | (refine And.intro (fun _ => ?_) (fun _ => ?_) <;> conv => whnf)))
    all_goals try (exfalso; simp only [decide_eq_true_eq, decide_eq_false_iff_not, Bool.not_eq_true', Bool.not_eq_false', Bool.not_eq_true, Bool.not_eq_false, beq_iff_eq, bne_iff_ne, beq_eq_false_iff_ne, bne_eq_false_iff_eq, ne_eq, Decidable.not_not] at *; first | omega | contradiction | (simp_all; done) | (simp_all; omega))
    all_goals try (refine Or.inl ?_; conv => whnf)
  all_goals try (exfalso; simp only [decide_eq_true_eq, decide_eq_false_iff_not] at *; omega)
  repeat (any_goals (first
    | exact True.intro
    | (refine ⟨_, drop_id, ?_⟩; conv => whnf)
    | (refine ⟨_, _, at_n, ?_⟩; conv => whnf)
    | (refine ⟨_, _, at_hi, ?_⟩; conv => whnf)
    | (refine ⟨_, _, at_lo, ?_⟩; conv => whnf)
    | (refine ⟨_, _, at_mn, ?_⟩; conv => whnf)
    | (refine ⟨_, _, at_mx, ?_⟩; conv => whnf)
    | (refine ⟨_, _, at_ce, ?_⟩; conv => whnf)
    | (refine ⟨_, _, at_po, ?_⟩; conv => whnf)
    | (refine ⟨_, whole_z sC, clenz sC, ?_⟩; conv => whnf)
    | (refine ⟨_, setzC, ?_⟩; conv => whnf)
    | (refine And.intro (clenz sC) ?_; conv => whnf)
    | (refine And.intro fitzC ?_; conv => whnf)
    | (refine ⟨_, whole_cell sC hl, clen sC hl, ?_⟩; conv => whnf)
    | (refine And.intro (clen sC hl) ?_; conv => whnf)
    | (refine And.intro (fitC hl) ?_; conv => whnf)
    | (refine ⟨_, setC hl, ?_⟩; conv => whnf)
    | (refine ⟨_, whole_z sF, clenz sF, ?_⟩; conv => whnf)
    | (refine ⟨_, setzF, ?_⟩; conv => whnf)
    | (refine And.intro (clenz sF) ?_; conv => whnf)
    | (refine And.intro fitzF ?_; conv => whnf)
    | (refine ⟨_, whole_cell sF hl, clen sF hl, ?_⟩; conv => whnf)
    | (refine And.intro (clen sF hl) ?_; conv => whnf)
    | (refine And.intro (fitF hl) ?_; conv => whnf)
    | (refine ⟨_, setF hl, ?_⟩; conv => whnf)
    | (refine And.intro (fit1 hl (by decide)) ?_; conv => whnf)
    | (refine And.intro (fit1 rfl (by decide)) ?_; conv => whnf)
    | (refine ⟨_, sum_cell s25, rfl, ?_⟩; conv => whnf)
    | (refine ⟨_, set_n _, ?_⟩; conv => whnf)
    | (refine ⟨_, set_mn _, ?_⟩; conv => whnf)
    | (refine ⟨_, set_mx _, ?_⟩; conv => whnf)
    | (refine ⟨_, set_ce _, ?_⟩; conv => whnf)
    | (refine ⟨_, set_po _, ?_⟩; conv => whnf)
    | (refine ⟨_, set_s _, ?_⟩; conv => whnf)
    | (refine ⟨_, set_hi _, ?_⟩; conv => whnf)
    | (refine ⟨_, set_lo _, ?_⟩; conv => whnf)
    | (refine ⟨_, hist_cell s69 hl, whole_len s69 hl, ?_⟩; conv => whnf)
    | (refine And.intro (fun _ => ?_) tf; conv => whnf)
    | (refine And.intro ft (fun _ => ?_); conv => whnf)
    | (refine And.intro (by kernel_rfl) ?_; conv => whnf)
    | (refine And.intro (by decide) ?_; conv => whnf)
    | (refine And.intro (fun _ => ?_) (fun h => absurd h (by decide)); conv => whnf)
    | (refine And.intro (fun h => absurd h (by decide)) (fun _ => ?_); conv => whnf)
    | (refine And.intro (fun _ => ?_) (fun _ => ?_) <;> conv => whnf)))
  refine ⟨Nat, fun k => k ≤ 65 ∧ okH (c.h.take k) = true, fun k => ([(30, iA k), (29, .d (hD c.h)), (2, .ptr 1 0), (1, .ptr 0 0)], [.row (cR c), .cells [bA false]]), fun k => 65 - k, ⟨0, ⟨by omega, rfl⟩, ?_⟩, ?_⟩
  · all_goals refine ⟨[], ?_⟩
    repeat (any_goals (first | exact True.intro | exact rfl | with_reducible_and_instances rfl | exact (by kernel_rfl) | refine And.intro ?_ ?_))
    all_goals conv => whnf
  rintro k ⟨hk, ho⟩
  conv => whnf
  by_cases hlt : k < 65
  · have hxk : c.h[k]? = some c.h[k] := List.getElem?_eq_getElem (by omega)
    generalize c.h[k] = x at hxk
    have ha : okH (c.h.take (k + 1)) = decide (0 ≤ x) := by unfold okH at *; rw [all_take hxk, ho, Bool.true_and]
    iterate 3
      repeat (any_goals (first
        | exact True.intro
        | (refine ⟨_, drop_id, ?_⟩; conv => whnf)
        | (refine ⟨_, _, at_n, ?_⟩; conv => whnf)
        | (refine ⟨_, _, at_hi, ?_⟩; conv => whnf)
        | (refine ⟨_, _, at_lo, ?_⟩; conv => whnf)
        | (refine ⟨_, _, at_mn, ?_⟩; conv => whnf)
        | (refine ⟨_, _, at_mx, ?_⟩; conv => whnf)
        | (refine ⟨_, _, at_ce, ?_⟩; conv => whnf)
        | (refine ⟨_, _, at_po, ?_⟩; conv => whnf)
        | (refine ⟨_, whole_z sC, clenz sC, ?_⟩; conv => whnf)
        | (refine ⟨_, setzC, ?_⟩; conv => whnf)
        | (refine And.intro (clenz sC) ?_; conv => whnf)
        | (refine And.intro fitzC ?_; conv => whnf)
        | (refine ⟨_, whole_cell sC hl, clen sC hl, ?_⟩; conv => whnf)
        | (refine And.intro (clen sC hl) ?_; conv => whnf)
        | (refine And.intro (fitC hl) ?_; conv => whnf)
        | (refine ⟨_, setC hl, ?_⟩; conv => whnf)
        | (refine ⟨_, whole_z sF, clenz sF, ?_⟩; conv => whnf)
        | (refine ⟨_, setzF, ?_⟩; conv => whnf)
        | (refine And.intro (clenz sF) ?_; conv => whnf)
        | (refine And.intro fitzF ?_; conv => whnf)
        | (refine ⟨_, whole_cell sF hl, clen sF hl, ?_⟩; conv => whnf)
        | (refine And.intro (clen sF hl) ?_; conv => whnf)
        | (refine And.intro (fitF hl) ?_; conv => whnf)
        | (refine ⟨_, setF hl, ?_⟩; conv => whnf)
        | (refine And.intro (fit1 hl (by decide)) ?_; conv => whnf)
        | (refine And.intro (fit1 rfl (by decide)) ?_; conv => whnf)
        | (refine ⟨_, sum_cell s25, rfl, ?_⟩; conv => whnf)
        | (refine ⟨_, set_n _, ?_⟩; conv => whnf)
        | (refine ⟨_, set_mn _, ?_⟩; conv => whnf)
        | (refine ⟨_, set_mx _, ?_⟩; conv => whnf)
        | (refine ⟨_, set_ce _, ?_⟩; conv => whnf)
        | (refine ⟨_, set_po _, ?_⟩; conv => whnf)
        | (refine ⟨_, set_s _, ?_⟩; conv => whnf)
        | (refine ⟨_, set_hi _, ?_⟩; conv => whnf)
        | (refine ⟨_, set_lo _, ?_⟩; conv => whnf)
        | (refine ⟨k, _, rfl, Nat.lt_of_lt_of_eq hlt l27.symm, map_get hxk, ?_⟩; conv => whnf)
        | (refine ⟨_, rfl, _, _, drop_row hxk, ?_⟩; conv => whnf)
        | (refine And.intro (fun _ => ?_) tf; conv => whnf)
        | (refine And.intro ft (fun _ => ?_); conv => whnf)
        | (refine And.intro (by kernel_rfl) ?_; conv => whnf)
        | (refine And.intro (by decide) ?_; conv => whnf)
        | (refine And.intro (fun _ => ?_) (fun h => absurd h (by decide)); conv => whnf)
        | (refine And.intro (fun h => absurd h (by decide)) (fun _ => ?_); conv => whnf)
        | (refine And.intro (fun _ => ?_) (fun _ => ?_) <;> conv => whnf)))
      all_goals try (exfalso; simp only [decide_eq_true_eq, decide_eq_false_iff_not, Bool.not_eq_true', Bool.not_eq_false', Bool.not_eq_true, Bool.not_eq_false, beq_iff_eq, bne_iff_ne, beq_eq_false_iff_ne, bne_eq_false_iff_eq, ne_eq, Decidable.not_not] at *; first | omega | contradiction | (simp_all; done) | (simp_all; omega))
      all_goals try (refine Or.inl ?_; conv => whnf)
    · have h1 : x < 0 := (by (try simp only [decide_eq_true_eq, decide_eq_false_iff_not, Bool.not_eq_true', Bool.not_eq_false', Bool.not_eq_true, Bool.not_eq_false, beq_iff_eq, bne_iff_ne, beq_eq_false_iff_ne, bne_eq_false_iff_eq, ne_eq, Decidable.not_not, Int.natCast_eq_zero] at *); first | omega | assumption | (simp_all; done) | (simp_all; omega))
      have hr : okH c.h = false := by
        rw [← List.take_append_drop (k + 1) c.h]
        unfold okH at *
        rw [List.all_append, ha, decide_eq_false (by omega)]; rfl
      rw [right_no2 hr]
      all_goals refine ⟨[], ?_⟩
      repeat (any_goals (first | exact True.intro | exact rfl | with_reducible_and_instances rfl | exact (by kernel_rfl) | refine And.intro ?_ ?_))
      all_goals conv => whnf
    · have h1 : ¬ x < 0 := (by (try simp only [decide_eq_true_eq, decide_eq_false_iff_not, Bool.not_eq_true', Bool.not_eq_false', Bool.not_eq_true, Bool.not_eq_false, beq_iff_eq, bne_iff_ne, beq_eq_false_iff_ne, bne_eq_false_iff_eq, ne_eq, Decidable.not_not, Int.natCast_eq_zero] at *); first | omega | assumption | (simp_all; done) | (simp_all; omega))
      refine ⟨k + 1, ⟨hlt, by rw [ha]; exact decide_eq_true (by omega)⟩, show 65 - (k + 1) < 65 - k by omega, ?_⟩
      all_goals refine ⟨[], ?_⟩
      repeat (any_goals (first | exact True.intro | exact rfl | with_reducible_and_instances rfl | exact (by kernel_rfl) | refine And.intro ?_ ?_))
      all_goals conv => whnf
      exact wk1 (by omega)
  · have hke : k = 65 := by omega
    subst hke
    rw [List.take_of_length_le (by omega)] at ho
    by_cases h3 : c.h.sum = c.n
    case neg =>
      iterate 4
        repeat (any_goals (first
          | exact True.intro
          | (refine ⟨_, drop_id, ?_⟩; conv => whnf)
          | (refine ⟨_, _, at_n, ?_⟩; conv => whnf)
          | (refine ⟨_, _, at_hi, ?_⟩; conv => whnf)
          | (refine ⟨_, _, at_lo, ?_⟩; conv => whnf)
          | (refine ⟨_, _, at_mn, ?_⟩; conv => whnf)
          | (refine ⟨_, _, at_mx, ?_⟩; conv => whnf)
          | (refine ⟨_, _, at_ce, ?_⟩; conv => whnf)
          | (refine ⟨_, _, at_po, ?_⟩; conv => whnf)
          | (refine ⟨_, whole_z sC, clenz sC, ?_⟩; conv => whnf)
          | (refine ⟨_, setzC, ?_⟩; conv => whnf)
          | (refine And.intro (clenz sC) ?_; conv => whnf)
          | (refine And.intro fitzC ?_; conv => whnf)
          | (refine ⟨_, whole_cell sC hl, clen sC hl, ?_⟩; conv => whnf)
          | (refine And.intro (clen sC hl) ?_; conv => whnf)
          | (refine And.intro (fitC hl) ?_; conv => whnf)
          | (refine ⟨_, setC hl, ?_⟩; conv => whnf)
          | (refine ⟨_, whole_z sF, clenz sF, ?_⟩; conv => whnf)
          | (refine ⟨_, setzF, ?_⟩; conv => whnf)
          | (refine And.intro (clenz sF) ?_; conv => whnf)
          | (refine And.intro fitzF ?_; conv => whnf)
          | (refine ⟨_, whole_cell sF hl, clen sF hl, ?_⟩; conv => whnf)
          | (refine And.intro (clen sF hl) ?_; conv => whnf)
          | (refine And.intro (fitF hl) ?_; conv => whnf)
          | (refine ⟨_, setF hl, ?_⟩; conv => whnf)
          | (refine And.intro (fit1 hl (by decide)) ?_; conv => whnf)
          | (refine And.intro (fit1 rfl (by decide)) ?_; conv => whnf)
          | (refine ⟨_, sum_cell s25, rfl, ?_⟩; conv => whnf)
          | (refine ⟨_, set_n _, ?_⟩; conv => whnf)
          | (refine ⟨_, set_mn _, ?_⟩; conv => whnf)
          | (refine ⟨_, set_mx _, ?_⟩; conv => whnf)
          | (refine ⟨_, set_ce _, ?_⟩; conv => whnf)
          | (refine ⟨_, set_po _, ?_⟩; conv => whnf)
          | (refine ⟨_, set_s _, ?_⟩; conv => whnf)
          | (refine ⟨_, set_hi _, ?_⟩; conv => whnf)
          | (refine ⟨_, set_lo _, ?_⟩; conv => whnf)
          | (refine ⟨_, hist_cell s69 hl, whole_len s69 hl, ?_⟩; conv => whnf)
          | (refine And.intro (fun _ => ?_) tf; conv => whnf)
          | (refine And.intro ft (fun _ => ?_); conv => whnf)
          | (refine And.intro (by kernel_rfl) ?_; conv => whnf)
          | (refine And.intro (by decide) ?_; conv => whnf)
          | (refine And.intro (fun _ => ?_) (fun h => absurd h (by decide)); conv => whnf)
          | (refine And.intro (fun h => absurd h (by decide)) (fun _ => ?_); conv => whnf)
          | (refine And.intro (fun _ => ?_) (fun _ => ?_) <;> conv => whnf)
          | (refine ⟨_, _, t1.pu rfl rfl, ?_⟩; conv => whnf)
          | (refine ⟨_, _, w1.pu rfl rfl, ?_⟩; conv => whnf)
          | (refine ⟨_, _, neS (by kernel_rfl), ?_⟩; conv => whnf)))
        all_goals try (exfalso; simp only [decide_eq_true_eq, decide_eq_false_iff_not, Bool.not_eq_true', Bool.not_eq_false', Bool.not_eq_true, Bool.not_eq_false, beq_iff_eq, bne_iff_ne, beq_eq_false_iff_ne, bne_eq_false_iff_eq, ne_eq, Decidable.not_not] at *; first | omega | contradiction | (simp_all; done) | (simp_all; omega))
        all_goals try (refine Or.inl ?_; conv => whnf)
      all_goals try exact (no_way2 h3 ‹_›).elim
      rw [right_no3 h3]
      all_goals refine ⟨[], ?_⟩
      repeat (any_goals (first | exact True.intro | exact rfl | with_reducible_and_instances rfl | exact (by kernel_rfl) | refine And.intro ?_ ?_))
      all_goals conv => whnf
    by_cases h4 : c.n = 0
    case pos =>
      rw [right_zero h0 ho h3 h4]
      iterate 6
        repeat (any_goals (first
          | exact True.intro
          | (refine ⟨_, drop_id, ?_⟩; conv => whnf)
          | (refine ⟨_, _, at_n, ?_⟩; conv => whnf)
          | (refine ⟨_, _, at_hi, ?_⟩; conv => whnf)
          | (refine ⟨_, _, at_lo, ?_⟩; conv => whnf)
          | (refine ⟨_, _, at_mn, ?_⟩; conv => whnf)
          | (refine ⟨_, _, at_mx, ?_⟩; conv => whnf)
          | (refine ⟨_, _, at_ce, ?_⟩; conv => whnf)
          | (refine ⟨_, _, at_po, ?_⟩; conv => whnf)
          | (refine ⟨_, whole_z sC, clenz sC, ?_⟩; conv => whnf)
          | (refine ⟨_, setzC, ?_⟩; conv => whnf)
          | (refine And.intro (clenz sC) ?_; conv => whnf)
          | (refine And.intro fitzC ?_; conv => whnf)
          | (refine ⟨_, whole_cell sC hl, clen sC hl, ?_⟩; conv => whnf)
          | (refine And.intro (clen sC hl) ?_; conv => whnf)
          | (refine And.intro (fitC hl) ?_; conv => whnf)
          | (refine ⟨_, setC hl, ?_⟩; conv => whnf)
          | (refine ⟨_, whole_z sF, clenz sF, ?_⟩; conv => whnf)
          | (refine ⟨_, setzF, ?_⟩; conv => whnf)
          | (refine And.intro (clenz sF) ?_; conv => whnf)
          | (refine And.intro fitzF ?_; conv => whnf)
          | (refine ⟨_, whole_cell sF hl, clen sF hl, ?_⟩; conv => whnf)
          | (refine And.intro (clen sF hl) ?_; conv => whnf)
          | (refine And.intro (fitF hl) ?_; conv => whnf)
          | (refine ⟨_, setF hl, ?_⟩; conv => whnf)
          | (refine And.intro (fit1 hl (by decide)) ?_; conv => whnf)
          | (refine And.intro (fit1 rfl (by decide)) ?_; conv => whnf)
          | (refine ⟨_, sum_cell s25, rfl, ?_⟩; conv => whnf)
          | (refine ⟨_, set_n _, ?_⟩; conv => whnf)
          | (refine ⟨_, set_mn _, ?_⟩; conv => whnf)
          | (refine ⟨_, set_mx _, ?_⟩; conv => whnf)
          | (refine ⟨_, set_ce _, ?_⟩; conv => whnf)
          | (refine ⟨_, set_po _, ?_⟩; conv => whnf)
          | (refine ⟨_, set_s _, ?_⟩; conv => whnf)
          | (refine ⟨_, set_hi _, ?_⟩; conv => whnf)
          | (refine ⟨_, set_lo _, ?_⟩; conv => whnf)
          | (refine ⟨_, hist_cell s69 hl, whole_len s69 hl, ?_⟩; conv => whnf)
          | (refine And.intro (fun _ => ?_) tf; conv => whnf)
          | (refine And.intro ft (fun _ => ?_); conv => whnf)
          | (refine And.intro (by kernel_rfl) ?_; conv => whnf)
          | (refine And.intro (by decide) ?_; conv => whnf)
          | (refine And.intro (fun _ => ?_) (fun h => absurd h (by decide)); conv => whnf)
          | (refine And.intro (fun h => absurd h (by decide)) (fun _ => ?_); conv => whnf)
          | (refine And.intro (fun _ => ?_) (fun _ => ?_) <;> conv => whnf)
          | (refine ⟨_, _, t1.pu rfl rfl, ?_⟩; conv => whnf)
          | (refine ⟨_, _, w1.pu rfl rfl, ?_⟩; conv => whnf)
          | (refine ⟨_, _, neS (by kernel_rfl), ?_⟩; conv => whnf)
          | (refine ⟨_, _, eqS (by kernel_rfl), ?_⟩; conv => whnf)))
        all_goals try (exfalso; simp only [decide_eq_true_eq, decide_eq_false_iff_not, Bool.not_eq_true', Bool.not_eq_false', Bool.not_eq_true, Bool.not_eq_false, beq_iff_eq, bne_iff_ne, beq_eq_false_iff_ne, bne_eq_false_iff_eq, ne_eq, Decidable.not_not] at *; first | omega | contradiction | (simp_all; done) | (simp_all; omega))
        all_goals try (refine Or.inl ?_; conv => whnf)
      all_goals try exact (no_way h3 ‹_›).elim
      · rw [zz1 ‹_› ‹_›]
        all_goals refine ⟨[], ?_⟩
        repeat (any_goals (first | exact True.intro | exact rfl | with_reducible_and_instances rfl | exact (by kernel_rfl) | refine And.intro ?_ ?_))
        all_goals conv => whnf
      · rw [zz2 ‹_›]
        all_goals refine ⟨[], ?_⟩
        repeat (any_goals (first | exact True.intro | exact rfl | with_reducible_and_instances rfl | exact (by kernel_rfl) | refine And.intro ?_ ?_))
        all_goals conv => whnf
      · rw [zz3 ‹_›]
        all_goals refine ⟨[], ?_⟩
        repeat (any_goals (first | exact True.intro | exact rfl | with_reducible_and_instances rfl | exact (by kernel_rfl) | refine And.intro ?_ ?_))
        all_goals conv => whnf
    rw [right_some h0 ho h3 h4]
    iterate 8
      repeat (any_goals (first
        | exact True.intro
        | (refine ⟨_, drop_id, ?_⟩; conv => whnf)
        | (refine ⟨_, _, at_n, ?_⟩; conv => whnf)
        | (refine ⟨_, _, at_hi, ?_⟩; conv => whnf)
        | (refine ⟨_, _, at_lo, ?_⟩; conv => whnf)
        | (refine ⟨_, _, at_mn, ?_⟩; conv => whnf)
        | (refine ⟨_, _, at_mx, ?_⟩; conv => whnf)
        | (refine ⟨_, _, at_ce, ?_⟩; conv => whnf)
        | (refine ⟨_, _, at_po, ?_⟩; conv => whnf)
        | (refine ⟨_, whole_z sC, clenz sC, ?_⟩; conv => whnf)
        | (refine ⟨_, setzC, ?_⟩; conv => whnf)
        | (refine And.intro (clenz sC) ?_; conv => whnf)
        | (refine And.intro fitzC ?_; conv => whnf)
        | (refine ⟨_, whole_cell sC hl, clen sC hl, ?_⟩; conv => whnf)
        | (refine And.intro (clen sC hl) ?_; conv => whnf)
        | (refine And.intro (fitC hl) ?_; conv => whnf)
        | (refine ⟨_, setC hl, ?_⟩; conv => whnf)
        | (refine ⟨_, whole_z sF, clenz sF, ?_⟩; conv => whnf)
        | (refine ⟨_, setzF, ?_⟩; conv => whnf)
        | (refine And.intro (clenz sF) ?_; conv => whnf)
        | (refine And.intro fitzF ?_; conv => whnf)
        | (refine ⟨_, whole_cell sF hl, clen sF hl, ?_⟩; conv => whnf)
        | (refine And.intro (clen sF hl) ?_; conv => whnf)
        | (refine And.intro (fitF hl) ?_; conv => whnf)
        | (refine ⟨_, setF hl, ?_⟩; conv => whnf)
        | (refine And.intro (fit1 hl (by decide)) ?_; conv => whnf)
        | (refine And.intro (fit1 rfl (by decide)) ?_; conv => whnf)
        | (refine ⟨_, sum_cell s25, rfl, ?_⟩; conv => whnf)
        | (refine ⟨_, set_n _, ?_⟩; conv => whnf)
        | (refine ⟨_, set_mn _, ?_⟩; conv => whnf)
        | (refine ⟨_, set_mx _, ?_⟩; conv => whnf)
        | (refine ⟨_, set_ce _, ?_⟩; conv => whnf)
        | (refine ⟨_, set_po _, ?_⟩; conv => whnf)
        | (refine ⟨_, set_s _, ?_⟩; conv => whnf)
        | (refine ⟨_, set_hi _, ?_⟩; conv => whnf)
        | (refine ⟨_, set_lo _, ?_⟩; conv => whnf)
        | (refine ⟨bkt c.mn, rfl, Nat.lt_of_lt_of_eq k1 l27.symm, ?_⟩; conv => whnf)
        | (refine ⟨bkt c.mx, rfl, Nat.lt_of_lt_of_eq k2 l27.symm, ?_⟩; conv => whnf)
        | (refine ⟨_, _, at_h hl k1, ?_⟩; conv => whnf)
        | (refine ⟨_, _, at_h hl k2, ?_⟩; conv => whnf)
        | (refine ⟨_, hist_cell s69 hl, whole_len s69 hl, ?_⟩; conv => whnf)
        | (refine And.intro (fun _ => ?_) tf; conv => whnf)
        | (refine And.intro ft (fun _ => ?_); conv => whnf)
        | (refine And.intro (by kernel_rfl) ?_; conv => whnf)
        | (refine And.intro (by decide) ?_; conv => whnf)
        | (refine And.intro (fun _ => ?_) (fun h => absurd h (by decide)); conv => whnf)
        | (refine And.intro (fun h => absurd h (by decide)) (fun _ => ?_); conv => whnf)
        | (refine And.intro (fun _ => ?_) (fun _ => ?_) <;> conv => whnf)
        | (refine ⟨_, _, t1.pu rfl rfl, ?_⟩; conv => whnf)
        | (refine ⟨_, _, w1.pu rfl rfl, ?_⟩; conv => whnf)
        | (refine ⟨_, _, b1.pu rfl rfl, ?_⟩; conv => whnf)
        | (refine ⟨_, _, b2.pu rfl rfl, ?_⟩; conv => whnf)
        | (refine ⟨_, _, neS (by kernel_rfl), ?_⟩; conv => whnf)
        | (refine ⟨_, _, f1.nw rfl, ?_⟩; conv => whnf)))
      all_goals try (exfalso; simp only [decide_eq_true_eq, decide_eq_false_iff_not, Bool.not_eq_true', Bool.not_eq_false', Bool.not_eq_true, Bool.not_eq_false, beq_iff_eq, bne_iff_ne, beq_eq_false_iff_ne, bne_eq_false_iff_eq, ne_eq, Decidable.not_not] at *; first | omega | contradiction | (simp_all; done) | (simp_all; omega))
      all_goals try (refine Or.inl ?_; conv => whnf)
    all_goals try exact (no_way h3 ‹_›).elim
    · rw [rr2 ‹_›]
      all_goals refine ⟨[], ?_⟩
      repeat (any_goals (first | exact True.intro | exact rfl | with_reducible_and_instances rfl | exact (by kernel_rfl) | refine And.intro ?_ ?_))
      all_goals conv => whnf
    · have q1 := rr3 (c := c) ‹_› ‹_›
      rw [q1]
      refine ⟨Nat, Nat, fun y z => z = y ∧ y ≤ 65 ∧ ∀ b, b < y → hAt c.h b ≠ 0 → bkt c.mn ≤ b ∧ b ≤ bkt c.mx, fun _ => [.row (cR c), .cells [bA false], .cells [iA (bkt c.mn)], .cells [iA (bkt c.mx)], .row (hR c.h)], [(80, .fn (.func 80) [] [.ptr 4 0]), (6, .ptr 3 0), (5, .ptr 2 0), (2, .ptr 1 0), (1, .ptr 0 0)], 5, _, _, _, [.dead, .dead, .dead, .dead, .row (hR c.h)], 0, _, _, ⟨0, ⟨rfl, by omega, fun b hb => absurd hb (by omega)⟩, ?_⟩, rfl, rfl, fullN hl rfl, ?_, ?_, ?_, ?_⟩
      · all_goals refine ⟨[], ?_⟩
        repeat (any_goals (first | exact True.intro | exact rfl | with_reducible_and_instances rfl | exact (by kernel_rfl) | refine And.intro ?_ ?_))
        all_goals conv => whnf
      · rintro y x y' ⟨b, v, _, rfl⟩; rfl
      · rintro y z _; exact ⟨⟨rfl, trivial⟩, Nat.le_refl _⟩
      · rintro y z x y' ⟨rfl, hy, hall⟩ ⟨b, v, ⟨hyb, hb, hbv, hv0, hz, rfl⟩, rfl⟩
        have hne : hAt c.h b ≠ 0 := by unfold hAt; rw [hbv]; exact hv0
        conv => whnf
        by_cases h5 : bkt c.mn ≤ b ∧ b ≤ bkt c.mx
        · iterate 3
            repeat (any_goals (first
              | exact True.intro
              | (refine And.intro (fun _ => ?_) tf; conv => whnf)
              | (refine And.intro ft (fun _ => ?_); conv => whnf)
              | (refine And.intro (by kernel_rfl) ?_; conv => whnf)
              | (refine And.intro (by decide) ?_; conv => whnf)
              | (refine And.intro (fun _ => ?_) (fun h => absurd h (by decide)); conv => whnf)
              | (refine And.intro (fun h => absurd h (by decide)) (fun _ => ?_); conv => whnf)
              | (refine And.intro (fun _ => ?_) (fun _ => ?_) <;> conv => whnf)))
            all_goals try (exfalso; simp only [decide_eq_true_eq, decide_eq_false_iff_not, Bool.not_eq_true', Bool.not_eq_false', Bool.not_eq_true, Bool.not_eq_false, beq_iff_eq, bne_iff_ne, beq_eq_false_iff_ne, bne_eq_false_iff_eq, ne_eq, Decidable.not_not] at *; first | omega | contradiction | (simp_all; done) | (simp_all; omega))
            all_goals try (refine Or.inl ?_; conv => whnf)
          refine ⟨b + 1, ⟨rfl, by omega, fun j hj hjn => ?_⟩, ?_⟩
          · by_cases e : j = b
            · subst e; exact h5
            · refine hall j ?_ hjn
              by_cases q : z ≤ j
              · exact absurd (by unfold hAt; rw [hz j q (by omega)]; rfl) hjn
              · omega
          · all_goals refine ⟨[], ?_⟩
            repeat (any_goals (first | exact True.intro | exact rfl | with_reducible_and_instances rfl | exact (by kernel_rfl) | refine And.intro ?_ ?_))
            all_goals conv => whnf
        · rw [inB_no hb hne (by omega)]
          iterate 3
            repeat (any_goals (first
              | exact True.intro
              | (refine And.intro (fun _ => ?_) tf; conv => whnf)
              | (refine And.intro ft (fun _ => ?_); conv => whnf)
              | (refine And.intro (by kernel_rfl) ?_; conv => whnf)
              | (refine And.intro (by decide) ?_; conv => whnf)
              | (refine And.intro (fun _ => ?_) (fun h => absurd h (by decide)); conv => whnf)
              | (refine And.intro (fun h => absurd h (by decide)) (fun _ => ?_); conv => whnf)
              | (refine And.intro (fun _ => ?_) (fun _ => ?_) <;> conv => whnf)))
            all_goals try (exfalso; simp only [decide_eq_true_eq, decide_eq_false_iff_not, Bool.not_eq_true', Bool.not_eq_false', Bool.not_eq_true, Bool.not_eq_false, beq_iff_eq, bne_iff_ne, beq_eq_false_iff_ne, bne_eq_false_iff_eq, ne_eq, Decidable.not_not] at *; first | omega | contradiction | (simp_all; done) | (simp_all; omega))
            all_goals try (refine Or.inl ?_; conv => whnf)
          all_goals refine ⟨[], ?_⟩
          repeat (any_goals (first | exact True.intro | exact rfl | with_reducible_and_instances rfl | exact (by kernel_rfl) | refine And.intro ?_ ?_))
          all_goals conv => whnf
      · rintro y z ⟨hy2, hz⟩ ⟨rfl, hy, hall⟩
        rw [inB_yes fun b hb hbn => by
          by_cases q : z ≤ b
          · exact absurd (by unfold hAt; rw [hz b q hb]; rfl) hbn
          · exact hall b (by omega) hbn]
        conv => whnf
        iterate 3
          repeat (any_goals (first
            | exact True.intro
            | (refine And.intro (fun _ => ?_) tf; conv => whnf)
            | (refine And.intro ft (fun _ => ?_); conv => whnf)
            | (refine And.intro (by kernel_rfl) ?_; conv => whnf)
            | (refine And.intro (by decide) ?_; conv => whnf)
            | (refine And.intro (fun _ => ?_) (fun h => absurd h (by decide)); conv => whnf)
            | (refine And.intro (fun h => absurd h (by decide)) (fun _ => ?_); conv => whnf)
            | (refine And.intro (fun _ => ?_) (fun _ => ?_) <;> conv => whnf)))
          all_goals try (exfalso; simp only [decide_eq_true_eq, decide_eq_false_iff_not, Bool.not_eq_true', Bool.not_eq_false', Bool.not_eq_true, Bool.not_eq_false, beq_iff_eq, bne_iff_ne, beq_eq_false_iff_ne, bne_eq_false_iff_eq, ne_eq, Decidable.not_not] at *; first | omega | contradiction | (simp_all; done) | (simp_all; omega))
          all_goals try (refine Or.inl ?_; conv => whnf)
        all_goals refine ⟨[], ?_⟩
        repeat (any_goals (first | exact True.intro | exact rfl | with_reducible_and_instances rfl | exact (by kernel_rfl) | refine And.intro ?_ ?_))
        all_goals conv => whnf
    · rw [rr1 ‹_›]
      all_goals refine ⟨[], ?_⟩
      repeat (any_goals (first | exact True.intro | exact rfl | with_reducible_and_instances rfl | exact (by kernel_rfl) | refine And.intro ?_ ?_))
      all_goals conv => whnf
end Go.Proofs.Ytbjmdnemeidpjaa
