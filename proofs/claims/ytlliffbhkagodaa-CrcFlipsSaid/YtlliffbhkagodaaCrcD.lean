/- crc.Seal, crc.Open, and the document's Open. -/
import Derived.Test.YtlliffbhkagodaaCrcC
namespace Go.Proofs.Ytlliffbhkagodaa
open Go.RowKit
set_option linter.unusedVariables false

theorem RdP.one {w : World} {A : Option Addr} {n c : Nat} {l : List UInt8} (e : TypeId) (h : RdB w w.heap.size A n l) (hc : n ≤ c) (hn : n ≤ 140737488351232) :
    RdP (w.alloc (.cells #[.slice A n c] e)) (w.alloc (.cells #[.slice A n c] e)).heap.size (some ⟨w.heap.size, 0, none⟩) 1 [l] := by
  have hl := RdB.len h
  refine ⟨rfl, [.slice A n c], by simpa using Rd.lit w #[.slice A n c] e 1 1 (by simp [maxLen]) rfl, fun i hi => ?_⟩
  obtain rfl : i = 0 := by simpa using hi
  exact ⟨A, c, by simp [hl], by simpa [hl] using hc, by simpa [hl] using hn, by simpa [hl] using Rd.alloc' h _⟩
theorem seal_any (A : Option Addr) (n c : Nat) (ls : List (List UInt8)) (w : World) (hp : RdP w w.heap.size A n ls) (hc : n ≤ c) (hn : n ≤ 140737488351232) (hs : ls.flatten.length ≤ 70368744175616) :
    Calls Try.prog 15 #[.slice A n c] w fun e w' => ∃ v, e = .returned v ∧ Ow w' w.heap.size 5 1 v (ls.flatten.length + 4) ((ls.flatten ++ le4 (sumN ls.flatten)).map bv) ∧ Below w.heap.size w w' := by
  obtain ⟨i0, hi0, hz0, hz1, hz2⟩ := info_parts Try.info8
  have hlt := sumN_lt ls.flatten
  have hle := le4_spelled (sumN ls.flatten) hlt
  have HLE := hide hle
  clear hle
  have hm : n ≤ maxLen := by simp only [maxLen]; omega
  go_enter Try.func15, Try.ntmps15
  go_wp2_with (first
   | (go_at_call 12; refine (crcSum_any A n c ls _ hp hm).mono ?_; rintro e w' ⟨rfl, rfl⟩)
   | (go_at_call 18; refine (join_lib A n c ls _ hp hc hn (by omega)).mono ?_; rintro e w1 ⟨v1, rfl, hown1, hb1⟩)
   | (at_builtin; refine wpList_append_ow _ rfl (.tmp 9) (.tmp 21) _ rfl w.heap.size 5 i0 _ 1 1 Try.underlying23 hi0 hz0 hz1 hz2 rfl (by omega) v1 _ _ rfl (hown1.alloc _) (w1.heap.size + 1) (some ⟨w1.heap.size, 0, none⟩) 4 4 ((le4 (sumN ls.flatten)).map bv) rfl (by rw [← HLE.out]; exact Rd.lit _ _ _ _ _ (by simp [maxLen]) rfl) (bvs_one _) (by simp only [maxLen]; omega) (by omega) (by have := hb1.size; simp; omega) ?_; intro v2 w2 hown2 hg2 hat2 hnn2))
  go_ret
  refine ⟨_, rfl, ?_, ?_⟩
  · rw [List.map_append]
    simpa using hown2
  · exact (hb1.alloc hb1.size _).grown hg2 (by have := hb1.size; simp; omega) (fun k hk => hown1.lt k hk)

/-! ### four bytes as a number -/
def val4 (x0 x1 x2 x3 : UInt8) : Nat := x0.toNat + x1.toNat * 256 + x2.toNat * 65536 + x3.toNat * 16777216
theorem or_add (a b i : Nat) (h : a < 2 ^ i) : a ||| b * 2 ^ i = a + b * 2 ^ i := by
  have := Nat.two_pow_add_eq_or_of_lt h b
  rw [Nat.mul_comm, Nat.add_comm] at this
  rw [this, Nat.or_comm]
theorem val4_spelled (x0 x1 x2 x3 : UInt8) :
    bits BinOp.or IntKind.u32 (bits BinOp.or IntKind.u32 (bits BinOp.or IntKind.u32 (x0.toNat : Int) ((x1.toNat : Int) * 256)) ((x2.toNat : Int) * 65536)) ((x3.toNat : Int) * 16777216) = ((val4 x0 x1 x2 x3 : Nat) : Int) := by
  have b0 := x0.toNat_lt
  have b1 := x1.toNat_lt
  have b2 := x2.toNat_lt
  have b3 := x3.toNat_lt
  have e1 : bits BinOp.or IntKind.u32 (x0.toNat : Int) ((x1.toNat : Int) * 256) = ((x0.toNat + x1.toNat * 256 : Nat) : Int) := by
    have := u32_or_nat x0.toNat (x1.toNat * 256) (by omega) (by omega)
    rw [or_add _ _ 8 (by omega)] at this
    simpa using this
  have e2 : bits BinOp.or IntKind.u32 ((x0.toNat + x1.toNat * 256 : Nat) : Int) ((x2.toNat : Int) * 65536) = ((x0.toNat + x1.toNat * 256 + x2.toNat * 65536 : Nat) : Int) := by
    have := u32_or_nat (x0.toNat + x1.toNat * 256) (x2.toNat * 65536) (by omega) (by omega)
    rw [or_add _ _ 16 (by omega)] at this
    simpa using this
  have e3 : bits BinOp.or IntKind.u32 ((x0.toNat + x1.toNat * 256 + x2.toNat * 65536 : Nat) : Int) ((x3.toNat : Int) * 16777216) = ((val4 x0 x1 x2 x3 : Nat) : Int) := by
    have := u32_or_nat (x0.toNat + x1.toNat * 256 + x2.toNat * 65536) (x3.toNat * 16777216) (by omega) (by omega)
    rw [or_add _ _ 24 (by omega)] at this
    simpa [val4] using this
  rw [e1, e2, e3]
theorem val4_iff (x0 x1 x2 x3 : UInt8) (s : Nat) (h : s < 4294967296) : val4 x0 x1 x2 x3 = s ↔ [x0, x1, x2, x3] = le4 s := by
  have b0 := x0.toNat_lt
  have b1 := x1.toNat_lt
  have b2 := x2.toNat_lt
  have b3 := x3.toNat_lt
  simp only [le4, List.cons.injEq, and_true, ← UInt8.toNat_inj, UInt8.toNat_ofNat', val4]
  omega

def openOk (l : List UInt8) : Bool := decide (4 ≤ l.length ∧ l.drop (l.length - 4) = le4 (sumN (l.take (l.length - 4))))
def openErr (l : List UInt8) : Int := if l.length < 4 then 15 else if openOk l then 0 else 14
def openBody (l : List UInt8) : List UInt8 := if openOk l then l.take (l.length - 4) else []

theorem open_any (A : Option Addr) (n c : Nat) (l : List UInt8) (w : World) (hr : RdB w w.heap.size A n l) (hc : n ≤ c) (hcm : c ≤ maxLen) (hn : n ≤ 140737488351232) :
    Calls Try.prog 10 #[.slice A n c] w fun e w' => ∃ v, e = .returned (.tuple #[v, .int .i64 (openErr l)]) ∧ Ow w' w.heap.size 5 1 v (openBody l).length ((openBody l).map bv) ∧ Below w.heap.size w w' := by
  have hlen := RdB.len hr
  unfold maxLen at hcm
  by_cases h4 : n < 4
  · have e1 : openErr l = 15 := by unfold openErr; rw [if_pos (by omega)]
    have e2 : openBody l = [] := by unfold openBody openOk; rw [if_neg (by simp; omega)]
    rw [e1, e2]
    go_enter Try.func10, Try.ntmps10
    go_wp2
    go_ret2
    exact ⟨_, rfl, Ow.nil _ _ _ _, Below.refl _ _⟩
  · obtain ⟨m, rfl⟩ : ∃ m, n = m + 4 := ⟨n - 4, by omega⟩
    obtain ⟨b, off, rfl, hb, hcell⟩ := hr.at_ (k := 0) (by omega)
    have hl : l.length = m + 4 := by omega
    have c0 : w.cell? ⟨b, off + m, none⟩ = some (.int .u8 ((l[m]'(by omega)).toNat : Int)) := by rw [hcell m (by simp; omega)]; simp [bv]
    have c1 : w.cell? ⟨b, off + m + 1, none⟩ = some (.int .u8 ((l[m + 1]'(by omega)).toNat : Int)) := by rw [Nat.add_assoc, hcell (m + 1) (by simp; omega)]; simp [bv]
    have c2 : w.cell? ⟨b, off + m + 2, none⟩ = some (.int .u8 ((l[m + 2]'(by omega)).toNat : Int)) := by rw [Nat.add_assoc, hcell (m + 2) (by simp; omega)]; simp [bv]
    have c3 : w.cell? ⟨b, off + m + 3, none⟩ = some (.int .u8 ((l[m + 3]'(by omega)).toNat : Int)) := by rw [Nat.add_assoc, hcell (m + 3) (by simp; omega)]; simp [bv]
    clear hcell
    have hd : l.drop m = [l[m]'(by omega), l[m + 1]'(by omega), l[m + 2]'(by omega), l[m + 3]'(by omega)] := by
      rw [List.drop_eq_getElem_cons (by omega), List.drop_eq_getElem_cons (by omega), List.drop_eq_getElem_cons (by omega), List.drop_eq_getElem_cons (by omega), List.drop_of_length_le (by omega)]
    generalize l[m]'(by omega) = x0 at c0 hd
    generalize l[m + 1]'(by omega) = x1 at c1 hd
    generalize l[m + 2]'(by omega) = x2 at c2 hd
    generalize l[m + 3]'(by omega) = x3 at c3 hd
    have HD := hide hd
    clear hd
    have b0 := x0.toNat_lt
    have b1 := x1.toNat_lt
    have b2 := x2.toNat_lt
    have b3 := x3.toNat_lt
    have hsl := sumN_lt (l.take m)
    have hiff := val4_iff x0 x1 x2 x3 (sumN (l.take m)) hsl
    have hsub : m + 4 - 4 = m := by omega
    have hok : openOk l = decide (val4 x0 x1 x2 x3 = sumN (l.take m)) := by
      unfold openOk
      rw [hl, hsub, HD.out]
      apply decide_eq_decide.2
      rw [hiff]
      simp
    have hrm : RdB w w.heap.size (some ⟨b, off, none⟩) m (l.take m) := by
      have := hr.take (k := m) (by omega)
      rwa [Nat.mul_one, ← List.map_take] at this
    have herr : openErr l = if openOk l then 0 else 14 := by unfold openErr; rw [if_neg (by omega)]
    have hbody : openBody l = if openOk l then l.take m else [] := by unfold openBody; rw [hl, hsub]
    clear hsub hiff
    have hvs := val4_spelled x0 x1 x2 x3
    by_cases hv : val4 x0 x1 x2 x3 = sumN (l.take m)
    · have hne : (bits BinOp.or IntKind.u32 (bits BinOp.or IntKind.u32 (bits BinOp.or IntKind.u32 (x0.toNat : Int) ((x1.toNat : Int) * 256)) ((x2.toNat : Int) * 65536)) ((x3.toNat : Int) * 16777216) != ((sumN (l.take m) : Nat) : Int)) = false := by
        rw [hvs, hv]; simp
      rw [decide_eq_true hv] at hok
      rw [hok, if_pos rfl] at herr hbody
      rw [herr, hbody]
      clear hvs hv hok herr hbody HD
      have hlm : (l.take m).length = m := by rw [List.length_take]; omega
      have HLM := hide hlm
      clear hlm hl hlen
      go_enter Try.func10, Try.ntmps10
      go_wp2_with fail
      go_quiet (fail)
      go_wp2_with fail
      go_quiet (fail)
      go_wp2_with fail
      refine (crcSum_any _ _ _ [l.take m] _ (RdP.one (c := c) _ (hrm.drewN _) (by omega) (by omega)) (by simp [maxLen])).mono ?_
      rintro e w' ⟨rfl, rfl⟩
      simp only [List.flatten_cons, List.flatten_nil, List.append_nil]
      go_wp2_with fail
      refine (clone_any _ m c (l.take m) _ (Rd.alloc' (hrm.drewN _) _) (by omega)).mono ?_
      rintro e w1 ⟨v1, rfl, hown1, hb1⟩
      go_wp2_with fail
      go_ret2
      refine ⟨_, rfl, ?_, ?_⟩
      · rw [HLM.out]
        exact hown1.less (by simp)
      · exact ((below_drewN (Below.refl _ _) _).alloc (Nat.le_refl _) _).trans (hb1.mono (by simp))
    · have hne : (bits BinOp.or IntKind.u32 (bits BinOp.or IntKind.u32 (bits BinOp.or IntKind.u32 (x0.toNat : Int) ((x1.toNat : Int) * 256)) ((x2.toNat : Int) * 65536)) ((x3.toNat : Int) * 16777216) != ((sumN (l.take m) : Nat) : Int)) = true := by
        rw [hvs]; simp; omega
      rw [decide_eq_false hv] at hok
      rw [hok, if_neg (by simp)] at herr hbody
      rw [herr, hbody]
      clear hvs hv hok herr hbody HD
      have hlm : (l.take m).length = m := by rw [List.length_take]; omega
      have HLM := hide hlm
      clear hlm hl hlen
      go_enter Try.func10, Try.ntmps10
      go_wp2_with fail
      go_quiet (fail)
      go_wp2_with fail
      go_quiet (fail)
      go_wp2_with fail
      refine (crcSum_any _ _ _ [l.take m] _ (RdP.one (c := c) _ (hrm.drewN _) (by omega) (by omega)) (by simp [maxLen])).mono ?_
      rintro e w' ⟨rfl, rfl⟩
      simp only [List.flatten_cons, List.flatten_nil, List.append_nil]
      go_wp2_with fail
      go_ret2
      exact ⟨_, rfl, Ow.nil _ _ _ _, (below_drewN (Below.refl _ _) _).alloc (Nat.le_refl _) _⟩
end Go.Proofs.Ytlliffbhkagodaa
