/- Parts PrH, PrI, Laid of the proof, put together. -/
import Derived.Test.YtamomaihmfdebaaM6
import Derived.Test.YtamomaihmfdebaaChecked
import Derived.Test.YtamomaihmfdebaaRows
/- ProbeOnce, its law. -/
namespace Go.Proofs.Ytamomaihmfdebaa
set_option linter.unusedSimpArgs false
open Go.RowKit
set_option maxRecDepth 100000
set_option linter.unusedVariables false
theorem send_ok (boot most count : Int) (out : List Snt) (m : LastM) (c : Nat) (g e a : Int) (hn : out.length ≤ 90000) (hc : 0 ≤ count ∧ count ≤ 1000000) (ho : sendOK g e a) (hmo : 1 ≤ most) :
    Sat Try.prog 6 [.ptr 0 0, iA g, iA e, iA a] (prH boot most count out m c) (.tup [.d (ncD (boot, count)), iA 0]) (prM boot most (count + 1) (pushO most out ⟨boot, count, g, e, a⟩) (putX g a c m) (clkX g m c)) := by
  unfold pushO
  split
  · exact send_ok2 boot most count out m c g e a hn hc ho hmo ‹_›
  · exact send_ok1 boot most count out m c g e a (by omega) hc ho (by omega)
def clQ (q : CallQ) : List D := [iD q.w, iD q.g, iD q.e, iD q.a, iD q.p, iD q.n.1, iD q.n.2]
abbrev clqD (q : CallQ) : D := .agg (clQ q)
def zQ : CallQ := ⟨0, 0, 0, 0, 0, (0, 0)⟩
abbrev seO (m : SentM) (c : Nat) : AObj := mapO ncD clqD m c
theorem zQ_zero : (Try.prog.info? 33).bind (·.zero) = some (vOf (clqD zQ)) := by kernel_rfl
section
variable {L : List AObj} {ty nn : Nat} {sent : SentM} {cs : Nat} {done : DoneM} {cd : Nat} {i : Nat} {mx kx vx : Operand}
theorem lkS {n : NonceP} {o : Option CallQ} (h : findX sent n = o) (hi : L[i]? = some (seO sent cs)) : Does Try.prog (.lookup 28 mx kx true) ty L nn [.mp i, .d (ncD n)] ⟨[i], [], []⟩ (.tup [.d (clqD (o.getD zQ)), bA o.isSome]) := by
  have := mp_looks (ty := ty) (n := nn) (mx := mx) (kx := kx) kN (ev := clqD) (fun _ => rfl) zQ Try.underlying28 zQ_zero n hi
  rwa [h] at this
theorem lkS1 {n : NonceP} (hi : L[i]? = some (seO sent cs)) : Does Try.prog (.lookup 28 mx kx false) ty L nn [.mp i, .d (ncD n)] ⟨[i], [], []⟩ (.d (clqD ((findX sent n).getD zQ))) :=
  mp_look kN (ev := clqD) (fun _ => rfl) zQ Try.underlying28 zQ_zero n hi
theorem putS (n : NonceP) (q : CallQ) (hi : L[i]? = some (seO sent cs)) : Does Try.prog (.mapUpdate 28 mx kx vx) ty L nn [.mp i, .d (ncD n), .d (clqD q)] ⟨[i], [(i, seO (putX n q cs sent) (clkX n sent cs))], []⟩ .any :=
  mp_put kN (fun _ => rfl) Try.underlying28 n q hi
theorem mkS : Does Try.prog (.makeMap 28 none) ty L nn [] ⟨[], [], [seO [] 0]⟩ (.mp nn) := mp_make
theorem mkD : Does Try.prog (.makeMap 29 none) ty L nn [] ⟨[], [], [doO [] 0]⟩ (.mp nn) := mp_make
theorem lkD {n : NonceP} (hi : L[i]? = some (doO (putX n 1 cd done) (cd + 1))) : Does Try.prog (.lookup 29 mx kx false) ty L nn [.mp i, .d (ncD n)] ⟨[i], [], []⟩ (iA 1) := by
  have := mp_look (ty := ty) (n := nn) (mx := mx) (kx := kx) kN (ev := intD .i64) (fun _ => rfl) 0 Try.underlying29 (by kernel_rfl) n hi
  rwa [findX_put, if_pos rfl] at this
end
structure PrS where
  count : Int
  out : List Snt
  m : LastM
  c : Nat
  sent : SentM
  cs : Nat
  done : DoneM
  cd : Nat
set_option maxHeartbeats 32000000 in
theorem once16_sat (boot other most : Int) (l : List CallQ) : Sat Try.prog 3 [iA boot, iA other, iA most, .d (.sl 7 (l.map clQ))] [] (bA true) [] := by
  have hm : (l.map clQ).length = l.length := List.length_map _
  by_cases hll : 100 < l.length
  · refine sat_of_vc (T := tiOf Try.prog) (E := E0) Try.func3 rfl rfl hE0 hm0 rfl ?_
    conv => whnf
    iterate 3
      repeat' (first | exact True.intro | ((first | refine And.intro (fun _ => ?_) tf | refine And.intro ft (fun _ => ?_) | refine And.intro (by kernel_rfl) ?_ | refine And.intro (by decide) ?_ | refine And.intro (fun _ => ?_) (fun h => absurd h (by decide)) | refine And.intro (fun h => absurd h (by decide)) (fun _ => ?_) | refine ⟨_, _, alive16.pu rfl rfl, ?_⟩ | fail); conv => whnf) | (refine And.intro (fun _ => ?_) (fun _ => ?_) <;> conv => whnf) | fail)
      all_goals try (refine Or.inl ?_; conv => whnf)
    all_goals try (exfalso; simp only [decide_eq_true_eq, decide_eq_false_iff_not, Bool.not_eq_true', Bool.not_eq_false', Bool.not_eq_true, Bool.not_eq_false, beq_iff_eq, bne_iff_ne, beq_eq_false_iff_ne, bne_eq_false_iff_eq, ne_eq, Decidable.not_not] at *; first | omega | contradiction | (simp_all; done) | (simp_all; omega))
    all_goals refine ⟨[], ?_⟩
    repeat (any_goals (first | exact True.intro | exact rfl | with_reducible_and_instances rfl | exact (by kernel_rfl) | refine And.intro ?_ ?_))
    all_goals conv => whnf
  by_cases hmm : 1 ≤ boot ∧ boot ≤ 1099511627776 ∧ 1 ≤ most ∧ most ≤ 1024
  case neg =>
    have w0 := prNew_err boot most hmm
    refine sat_of_vc (T := tiOf Try.prog) (E := E0) Try.func3 rfl rfl hE0 hm0 rfl ?_
    conv => whnf
    iterate 6
      repeat' (first | exact True.intro | ((first | refine And.intro (fun _ => ?_) tf | refine And.intro ft (fun _ => ?_) | refine And.intro (by kernel_rfl) ?_ | refine And.intro (by decide) ?_ | refine And.intro (fun _ => ?_) (fun h => absurd h (by decide)) | refine And.intro (fun h => absurd h (by decide)) (fun _ => ?_) | refine ⟨_, _, alive16.pu rfl rfl, ?_⟩ | refine ⟨_, _, w0.pu rfl rfl, ?_⟩ | refine ⟨_, _, eqN (by kernel_rfl), ?_⟩ | fail); conv => whnf) | (refine And.intro (fun _ => ?_) (fun _ => ?_) <;> conv => whnf) | fail)
      all_goals try (refine Or.inl ?_; conv => whnf)
    all_goals try (exfalso; simp only [decide_eq_true_eq, decide_eq_false_iff_not, Bool.not_eq_true', Bool.not_eq_false', Bool.not_eq_true, Bool.not_eq_false, beq_iff_eq, bne_iff_ne, beq_eq_false_iff_ne, bne_eq_false_iff_eq, ne_eq, Decidable.not_not] at *; first | omega | contradiction | (simp_all; done) | (simp_all; omega))
    all_goals refine ⟨[], ?_⟩
    repeat (any_goals (first | exact True.intro | exact rfl | with_reducible_and_instances rfl | exact (by kernel_rfl) | refine And.intro ?_ ?_))
    all_goals conv => whnf
  have w0 := prNew_ok boot most ⟨hmm.1, hmm.2.1⟩ hmm.2.2
  refine sat_of_vc (T := tiOf Try.prog) (E := E0) Try.func3 rfl rfl hE0 hm0 rfl ?_
  conv => whnf
  iterate 6
    repeat' (first | exact True.intro | ((first | refine And.intro (fun _ => ?_) tf | refine And.intro ft (fun _ => ?_) | refine And.intro (by kernel_rfl) ?_ | refine And.intro (by decide) ?_ | refine And.intro (fun _ => ?_) (fun h => absurd h (by decide)) | refine And.intro (fun h => absurd h (by decide)) (fun _ => ?_) | refine ⟨_, _, alive16.pu rfl rfl, ?_⟩ | refine ⟨_, _, w0.nw rfl, ?_⟩ | refine ⟨_, _, eqP (by kernel_rfl), ?_⟩ | refine ⟨_, _, mkS, ?_⟩ | refine ⟨_, _, mkD, ?_⟩ | fail); conv => whnf) | (refine And.intro (fun _ => ?_) (fun _ => ?_) <;> conv => whnf) | fail)
    all_goals try (refine Or.inl ?_; conv => whnf)
  all_goals try (exfalso; simp only [decide_eq_true_eq, decide_eq_false_iff_not, Bool.not_eq_true', Bool.not_eq_false', Bool.not_eq_true, Bool.not_eq_false, beq_iff_eq, bne_iff_ne, beq_eq_false_iff_ne, bne_eq_false_iff_eq, ne_eq, Decidable.not_not] at *; first | omega | contradiction | (simp_all; done) | (simp_all; omega))
  refine ⟨Nat × PrS, fun y => y.1 ≤ l.length ∧ PrI boot most y.2.count y.2.out y.2.sent y.2.done ∧ Fr y.2.done y.2.cd ∧ 0 ≤ y.2.count ∧ y.2.count ≤ y.1,
    fun y => ([(13, iA y.1), (12, .mp 3), (11, .mp 2), (9, .ptr 1 0), (3, .d (.sl 7 (l.map clQ))), (2, iA most), (1, iA other), (0, iA boot)], [laO y.2.m y.2.c, .cells [iA boot, iA most, iA y.2.count, .own 4, .mp 0], seO y.2.sent y.2.cs, doO y.2.done y.2.cd, .sl 5 (y.2.out.map sntR)]), fun y => l.length - y.1, ⟨(0, ⟨0, [], [], 0, [], 0, [], 0⟩), ⟨Nat.zero_le _, PrI.nil (by omega), Fr.nil, Int.le_refl _, Int.le_refl _⟩, ?_⟩, ?_⟩
  · all_goals refine ⟨[], ?_⟩
    repeat (any_goals (first | exact True.intro | exact rfl | with_reducible_and_instances rfl | exact (by kernel_rfl) | refine And.intro ?_ ?_))
    all_goals conv => whnf
  rintro ⟨i, ⟨count, out, m, c, sent, cs, done, cd⟩⟩ ⟨hi, hI, hF, hc0, hci⟩
  simp only at hi hI hF hc0 hci
  have hol : out.length ≤ 1024 := by have := hI.len; omega
  have hmo : (out.map sntR).length = out.length := List.length_map _
  conv => whnf
  by_cases hlt : i < l.length
  · have hx : l[i]? = some l[i] := List.getElem?_eq_getElem hlt
    generalize l[i] = q at hx
    have hgq := map_get (f := clQ) hx
    have hd : decide ((i : Int) < ((l.map clQ).length : Nat)) = true := decide_eq_true (by rw [hm]; omega)
    obtain ⟨w, g, e, a, p, n⟩ := q
    obtain ⟨nb, nc⟩ := n
    by_cases hw0 : w = 0
    · subst hw0
      by_cases ho : sendOK g e a
      · have s1 := send_ok boot most count out m c g e a (by omega) (by omega) ho (by omega)
        obtain ⟨hnew, hI'⟩ := hI.send ⟨0, g, e, a, p, (nb, nc)⟩ cs
        simp only at hI'
        generalize hX : pushO most out ⟨boot, count, g, e, a⟩ = out' at s1 hI'
        have hol' : out'.length ≤ 1024 := by have := hI'.len; omega
        have hmo' : (out'.map sntR).length = out'.length := List.length_map _
        have o1 := out_sat boot most (count + 1) out' (putX g a c m) (clkX g m c) (by omega)
        iterate 7
          repeat' (first | exact True.intro | ((first | refine ⟨i, _, rfl, hgq, ?_⟩ | refine And.intro (fun _ => ?_) tf | refine And.intro ft (fun _ => ?_) | refine And.intro (by kernel_rfl) ?_ | refine And.intro (by decide) ?_ | refine And.intro (fun _ => ?_) (fun h => absurd h (by decide)) | refine And.intro (fun h => absurd h (by decide)) (fun _ => ?_) | refine ⟨_, _, s1.at3 1 4 0 rfl rfl rfl rfl rfl rfl, ?_⟩ | refine ⟨_, _, lkS hnew rfl, ?_⟩ | refine ⟨_, _, putS (boot, count) ⟨0, g, e, a, p, (nb, nc)⟩ rfl, ?_⟩ | refine ⟨_, _, o1.at3 1 6 0 rfl rfl rfl rfl rfl rfl, ?_⟩ | fail); conv => whnf) | (refine And.intro (fun _ => ?_) (fun _ => ?_) <;> conv => whnf) | fail)
          all_goals try (refine Or.inl ?_; conv => whnf)
        all_goals try exact (bno hd ‹_›).elim
        all_goals try exact (bno ‹((boot, count).fst != boot) = true› (by simp)).elim
        all_goals try exact absurd (of_decide_eq_true ‹decide (((out'.map fun x => ncR x.n).length : Int) > most) = true›) (by rw [List.length_map]; have := hI'.len; omega)
        refine ⟨(i + 1, ⟨count + 1, out', putX g a c m, clkX g m c, putX (boot, count) ⟨0, g, e, a, p, (nb, nc)⟩ cs sent, clkX (boot, count) sent cs, done, cd⟩), ⟨hlt, hI', hF, show (0 : Int) ≤ count + 1 by omega, show count + 1 ≤ ((i + 1 : Nat) : Int) by omega⟩, show l.length - (i + 1) < l.length - i by omega, ?_⟩
        all_goals refine ⟨[(4, 6)], ?_⟩
        repeat (any_goals (first | exact True.intro | exact rfl | with_reducible_and_instances rfl | exact (by kernel_rfl) | refine And.intro ?_ ?_))
        all_goals conv => whnf
        exact wk1 (by omega)
      · have s1 := send_bad boot most count out m c g e a ho
        iterate 7
          repeat' (first | exact True.intro | ((first | refine ⟨i, _, rfl, hgq, ?_⟩ | refine And.intro (fun _ => ?_) tf | refine And.intro ft (fun _ => ?_) | refine And.intro (by kernel_rfl) ?_ | refine And.intro (by decide) ?_ | refine And.intro (fun _ => ?_) (fun h => absurd h (by decide)) | refine And.intro (fun h => absurd h (by decide)) (fun _ => ?_) | refine ⟨_, _, s1.at3 1 4 0 rfl rfl rfl rfl rfl rfl, ?_⟩ | fail); conv => whnf) | (refine And.intro (fun _ => ?_) (fun _ => ?_) <;> conv => whnf) | fail)
          all_goals try (refine Or.inl ?_; conv => whnf)
        all_goals try exact (bno hd ‹_›).elim
        refine ⟨(i + 1, ⟨count, out, m, c, sent, cs, done, cd⟩), ⟨hlt, hI, hF, hc0, show count ≤ ((i + 1 : Nat) : Int) by omega⟩, show l.length - (i + 1) < l.length - i by omega, ?_⟩
        all_goals refine ⟨[], ?_⟩
        repeat (any_goals (first | exact True.intro | exact rfl | with_reducible_and_instances rfl | exact (by kernel_rfl) | refine And.intro ?_ ?_))
        all_goals conv => whnf
        exact wk1 (by omega)
    by_cases hw1 : w = 1
    · subst hw1
      by_cases hb : nb = boot
      case neg =>
        have s1 := answer_old boot most count out m c g e nb nc hb
        iterate 7
          repeat' (first | exact True.intro | ((first | refine ⟨i, _, rfl, hgq, ?_⟩ | refine And.intro (fun _ => ?_) tf | refine And.intro ft (fun _ => ?_) | refine And.intro (by kernel_rfl) ?_ | refine And.intro (by decide) ?_ | refine And.intro (fun _ => ?_) (fun h => absurd h (by decide)) | refine And.intro (fun h => absurd h (by decide)) (fun _ => ?_) | refine ⟨_, _, s1.at3 1 4 0 rfl rfl rfl rfl rfl rfl, ?_⟩ | fail); conv => whnf) | (refine And.intro (fun _ => ?_) (fun _ => ?_) <;> conv => whnf) | fail)
          all_goals try (refine Or.inl ?_; conv => whnf)
        all_goals try exact (bno hd ‹_›).elim
        refine ⟨(i + 1, ⟨count, out, m, c, sent, cs, done, cd⟩), ⟨hlt, hI, hF, hc0, show count ≤ ((i + 1 : Nat) : Int) by omega⟩, show l.length - (i + 1) < l.length - i by omega, ?_⟩
        all_goals refine ⟨[], ?_⟩
        repeat (any_goals (first | exact True.intro | exact rfl | with_reducible_and_instances rfl | exact (by kernel_rfl) | refine And.intro ?_ ?_))
        all_goals conv => whnf
        exact wk1 (by omega)
      subst hb
      cases hX : out.findIdx? (fun x => decide (x.n = (nb, nc))) with
      | none =>
        have s1 := answer_none nb most count out m c g e nc (by omega) (by unfold idxF; rw [hX])
        iterate 7
          repeat' (first | exact True.intro | ((first | refine ⟨i, _, rfl, hgq, ?_⟩ | refine And.intro (fun _ => ?_) tf | refine And.intro ft (fun _ => ?_) | refine And.intro (by kernel_rfl) ?_ | refine And.intro (by decide) ?_ | refine And.intro (fun _ => ?_) (fun h => absurd h (by decide)) | refine And.intro (fun h => absurd h (by decide)) (fun _ => ?_) | refine ⟨_, _, s1.at3 1 4 0 rfl rfl rfl rfl rfl rfl, ?_⟩ | fail); conv => whnf) | (refine And.intro (fun _ => ?_) (fun _ => ?_) <;> conv => whnf) | fail)
          all_goals try (refine Or.inl ?_; conv => whnf)
        all_goals try exact (bno hd ‹_›).elim
        refine ⟨(i + 1, ⟨count, out, m, c, sent, cs, done, cd⟩), ⟨hlt, hI, hF, hc0, show count ≤ ((i + 1 : Nat) : Int) by omega⟩, show l.length - (i + 1) < l.length - i by omega, ?_⟩
        all_goals refine ⟨[], ?_⟩
        repeat (any_goals (first | exact True.intro | exact rfl | with_reducible_and_instances rfl | exact (by kernel_rfl) | refine And.intro ?_ ?_))
        all_goals conv => whnf
        exact wk1 (by omega)
      | some k =>
        obtain ⟨x, hxk, hxn⟩ := atO_some hX
        by_cases hge : x.g = g ∧ x.e = e
        case neg =>
          have s1 := answer_bad nb most count out m c g e nc (by omega) k x hX hxk hge
          iterate 7
            repeat' (first | exact True.intro | ((first | refine ⟨i, _, rfl, hgq, ?_⟩ | refine And.intro (fun _ => ?_) tf | refine And.intro ft (fun _ => ?_) | refine And.intro (by kernel_rfl) ?_ | refine And.intro (by decide) ?_ | refine And.intro (fun _ => ?_) (fun h => absurd h (by decide)) | refine And.intro (fun h => absurd h (by decide)) (fun _ => ?_) | refine ⟨_, _, s1.at3 1 4 0 rfl rfl rfl rfl rfl rfl, ?_⟩ | fail); conv => whnf) | (refine And.intro (fun _ => ?_) (fun _ => ?_) <;> conv => whnf) | fail)
            all_goals try (refine Or.inl ?_; conv => whnf)
          all_goals try exact (bno hd ‹_›).elim
          refine ⟨(i + 1, ⟨count, out, m, c, sent, cs, done, cd⟩), ⟨hlt, hI, hF, hc0, show count ≤ ((i + 1 : Nat) : Int) by omega⟩, show l.length - (i + 1) < l.length - i by omega, ?_⟩
          all_goals refine ⟨[], ?_⟩
          repeat (any_goals (first | exact True.intro | exact rfl | with_reducible_and_instances rfl | exact (by kernel_rfl) | refine And.intro ?_ ?_))
          all_goals conv => whnf
          exact wk1 (by omega)
        obtain ⟨h1, h2⟩ := hge
        subst h1 h2
        have s1 := answer_ok nb most count out m c nc (by omega) k x hX hxk
        obtain ⟨hdn, ⟨⟨sw, sg, se, sa, sp, sn⟩, hsn, g1, g2, g3⟩, hI'⟩ := hI.answer hxk hxn cd
        simp only at g1 g2 g3
        subst g1 g2 g3
        have hFp := (hF.put (nb, nc) (1 : Int)).1
        rw [show clkX (nb, nc) done cd = cd + 1 from if_neg (by unfold hasX; rw [hdn]; simp)] at hFp
        generalize hY : out.take k ++ out.drop (k + 1) = out' at s1 hI'
        have hol' : out'.length ≤ 1024 := by have := hI'.len; omega
        have hmo' : (out'.map sntR).length = out'.length := List.length_map _
        have o1 := out_sat nb most count out' m c (by omega)
        iterate 9
          repeat' (first | exact True.intro | ((first | refine ⟨i, _, rfl, hgq, ?_⟩ | refine ⟨_, _, inc_reg (d := 3) (p := 5) (m := done) (c := cd) (n := (nb, nc)) rfl (by kernel_rfl) ⟨by kernel_rfl, by kernel_rfl, by kernel_rfl⟩ rfl rfl rfl (by decide) rfl hdn hF.lt, ?_⟩ | refine And.intro (fun _ => ?_) tf | refine And.intro ft (fun _ => ?_) | refine And.intro (by kernel_rfl) ?_ | refine And.intro (by decide) ?_ | refine And.intro (fun _ => ?_) (fun h => absurd h (by decide)) | refine And.intro (fun h => absurd h (by decide)) (fun _ => ?_) | refine ⟨_, _, s1.at3 1 4 0 rfl rfl rfl rfl rfl rfl, ?_⟩ | refine ⟨_, _, lkS hsn rfl, ?_⟩ | refine ⟨_, _, lkD rfl, ?_⟩ | refine ⟨_, _, o1.at3 1 6 0 rfl rfl rfl rfl rfl rfl, ?_⟩ | fail); conv => whnf) | (refine And.intro (fun _ => ?_) (fun _ => ?_) <;> conv => whnf) | fail)
          all_goals try (refine Or.inl ?_; conv => whnf)
        all_goals try exact (bno hd ‹_›).elim
        all_goals try exact (bno ‹((_ : Int) != _) = true› (by simp)).elim
        all_goals try exact absurd (of_decide_eq_true ‹decide (((out'.map fun x => ncR x.n).length : Int) > most) = true›) (by rw [List.length_map]; have := hI'.len; omega)
        all_goals try exact (bno ‹(!(some (CallQ.mk sw x.g x.e x.a sp sn)).isSome) = true› rfl).elim
        refine ⟨(i + 1, ⟨count, out', m, c, sent, cs, putX (nb, nc) 1 cd done, cd + 1⟩), ⟨hlt, hI', hFp, hc0, show count ≤ ((i + 1 : Nat) : Int) by omega⟩, show l.length - (i + 1) < l.length - i by omega, ?_⟩
        all_goals refine ⟨[(4, 6)], ?_⟩
        repeat (any_goals (first | exact True.intro | exact rfl | with_reducible_and_instances rfl | exact (by kernel_rfl) | refine And.intro ?_ ?_))
        all_goals conv => whnf
        exact wk1 (by omega)
    by_cases hw2 : w = 2
    · subst hw2
      cases hX : out.findIdx? (fun x => decide (x.g = g)) with
      | none =>
        have s1 := forget_none boot most count out m c g (by omega) (by unfold idxF; rw [hX])
        have o1 := out_sat boot most count out (delX g m) c (by omega)
        iterate 7
          repeat' (first | exact True.intro | ((first | refine ⟨i, _, rfl, hgq, ?_⟩ | refine And.intro (fun _ => ?_) tf | refine And.intro ft (fun _ => ?_) | refine And.intro (by kernel_rfl) ?_ | refine And.intro (by decide) ?_ | refine And.intro (fun _ => ?_) (fun h => absurd h (by decide)) | refine And.intro (fun h => absurd h (by decide)) (fun _ => ?_) | refine ⟨_, _, s1.at3 1 4 0 rfl rfl rfl rfl rfl rfl, ?_⟩ | refine ⟨_, _, o1.at3 1 4 0 rfl rfl rfl rfl rfl rfl, ?_⟩ | fail); conv => whnf) | (refine And.intro (fun _ => ?_) (fun _ => ?_) <;> conv => whnf) | fail)
          all_goals try (refine Or.inl ?_; conv => whnf)
        all_goals try exact (bno hd ‹_›).elim
        all_goals try exact absurd (of_decide_eq_true ‹decide (((out.map fun x => ncR x.n).length : Int) > most) = true›) (by rw [List.length_map]; have := hI.len; omega)
        refine ⟨(i + 1, ⟨count, out, delX g m, c, sent, cs, done, cd⟩), ⟨hlt, hI, hF, hc0, show count ≤ ((i + 1 : Nat) : Int) by omega⟩, show l.length - (i + 1) < l.length - i by omega, ?_⟩
        all_goals refine ⟨[], ?_⟩
        repeat (any_goals (first | exact True.intro | exact rfl | with_reducible_and_instances rfl | exact (by kernel_rfl) | refine And.intro ?_ ?_))
        all_goals conv => whnf
        exact wk1 (by omega)
      | some k =>
        have s1 := forget_some boot most count out m c g (by omega) k hX
        have hI' := hI.sub (List.filter_sublist (p := keepO g))
        generalize out.filter (keepO g) = out' at s1 hI'
        have hol' : out'.length ≤ 1024 := by have := hI'.len; omega
        have hmo' : (out'.map sntR).length = out'.length := List.length_map _
        have o1 := out_sat boot most count out' (delX g m) c (by omega)
        iterate 7
          repeat' (first | exact True.intro | ((first | refine ⟨i, _, rfl, hgq, ?_⟩ | refine And.intro (fun _ => ?_) tf | refine And.intro ft (fun _ => ?_) | refine And.intro (by kernel_rfl) ?_ | refine And.intro (by decide) ?_ | refine And.intro (fun _ => ?_) (fun h => absurd h (by decide)) | refine And.intro (fun h => absurd h (by decide)) (fun _ => ?_) | refine ⟨_, _, s1.at3 1 4 0 rfl rfl rfl rfl rfl rfl, ?_⟩ | refine ⟨_, _, o1.at3 1 6 0 rfl rfl rfl rfl rfl rfl, ?_⟩ | fail); conv => whnf) | (refine And.intro (fun _ => ?_) (fun _ => ?_) <;> conv => whnf) | fail)
          all_goals try (refine Or.inl ?_; conv => whnf)
        all_goals try exact (bno hd ‹_›).elim
        all_goals try exact absurd (of_decide_eq_true ‹decide (((out'.map fun x => ncR x.n).length : Int) > most) = true›) (by rw [List.length_map]; have := hI'.len; omega)
        refine ⟨(i + 1, ⟨count, out', delX g m, c, sent, cs, done, cd⟩), ⟨hlt, hI', hF, hc0, show count ≤ ((i + 1 : Nat) : Int) by omega⟩, show l.length - (i + 1) < l.length - i by omega, ?_⟩
        all_goals refine ⟨[(4, 6)], ?_⟩
        repeat (any_goals (first | exact True.intro | exact rfl | with_reducible_and_instances rfl | exact (by kernel_rfl) | refine And.intro ?_ ?_))
        all_goals conv => whnf
        exact wk1 (by omega)
    · have o1 := out_sat boot most count out m c (by omega)
      have e0 : (w == 0) = false := by simpa using hw0
      have e1 : (w == 1) = false := by simpa using hw1
      have e2 : (w == 2) = false := by simpa using hw2
      iterate 7
        repeat' (first | exact True.intro | ((first | refine ⟨i, _, rfl, hgq, ?_⟩ | refine And.intro (fun _ => ?_) tf | refine And.intro ft (fun _ => ?_) | refine And.intro (by kernel_rfl) ?_ | refine And.intro (by decide) ?_ | refine And.intro (fun _ => ?_) (fun h => absurd h (by decide)) | refine And.intro (fun h => absurd h (by decide)) (fun _ => ?_) | refine ⟨_, _, o1.at3 1 4 0 rfl rfl rfl rfl rfl rfl, ?_⟩ | fail); conv => whnf) | (refine And.intro (fun _ => ?_) (fun _ => ?_) <;> conv => whnf) | fail)
        all_goals try (refine Or.inl ?_; conv => whnf)
      all_goals try exact (bno hd ‹_›).elim
      all_goals try exact (bno ‹_› e0).elim
      all_goals try exact (bno ‹_› e1).elim
      all_goals try exact (bno ‹_› e2).elim
      all_goals try exact absurd (of_decide_eq_true ‹decide (((out.map fun x => ncR x.n).length : Int) > most) = true›) (by rw [List.length_map]; have := hI.len; omega)
      refine ⟨(i + 1, ⟨count, out, m, c, sent, cs, done, cd⟩), ⟨hlt, hI, hF, hc0, show count ≤ ((i + 1 : Nat) : Int) by omega⟩, show l.length - (i + 1) < l.length - i by omega, ?_⟩
      all_goals refine ⟨[], ?_⟩
      repeat (any_goals (first | exact True.intro | exact rfl | with_reducible_and_instances rfl | exact (by kernel_rfl) | refine And.intro ?_ ?_))
      all_goals conv => whnf
      exact wk1 (by omega)
  · have hil : ¬ (i : Int) < ((l.map clQ).length : Nat) := by rw [hm]; omega
    have hd := decide_eq_false hil
    by_cases hob : other = boot
    · have e0 : (other == boot) = true := by simpa using hob
      iterate 3
        repeat' (first | exact True.intro | ((first | refine And.intro (fun _ => ?_) tf | refine And.intro ft (fun _ => ?_) | refine And.intro (by kernel_rfl) ?_ | refine And.intro (by decide) ?_ | refine And.intro (fun _ => ?_) (fun h => absurd h (by decide)) | refine And.intro (fun h => absurd h (by decide)) (fun _ => ?_) | fail); conv => whnf) | (refine And.intro (fun _ => ?_) (fun _ => ?_) <;> conv => whnf) | fail)
        all_goals try (refine Or.inl ?_; conv => whnf)
      all_goals try exact (bno ‹decide ((i : Int) < ((l.map clQ).length : Nat)) = true› hd).elim
      all_goals try exact (bno e0 ‹_›).elim
      all_goals refine ⟨[], ?_⟩
      repeat (any_goals (first | exact True.intro | exact rfl | with_reducible_and_instances rfl | exact (by kernel_rfl) | refine And.intro ?_ ?_))
      all_goals conv => whnf
    have e0 : (other == boot) = false := by simpa using hob
    have o1 := out_sat boot most count out m c (by omega)
    iterate 5
      repeat' (first | exact True.intro | ((first | refine And.intro (fun _ => ?_) tf | refine And.intro ft (fun _ => ?_) | refine And.intro (by kernel_rfl) ?_ | refine And.intro (by decide) ?_ | refine And.intro (fun _ => ?_) (fun h => absurd h (by decide)) | refine And.intro (fun h => absurd h (by decide)) (fun _ => ?_) | refine ⟨_, _, o1.at3 1 4 0 rfl rfl rfl rfl rfl rfl, ?_⟩ | fail); conv => whnf) | (refine And.intro (fun _ => ?_) (fun _ => ?_) <;> conv => whnf) | fail)
      all_goals try (refine Or.inl ?_; conv => whnf)
    all_goals try exact (bno ‹decide ((i : Int) < ((l.map clQ).length : Nat)) = true› hd).elim
    all_goals try exact (bno ‹_› e0).elim
    have hmn : (out.map fun x => ncR x.n).length = out.length := List.length_map _
    refine ⟨Nat, fun j => j ≤ out.length, fun j => ([(24, iA j), (23, .own 5), (11, .mp 2), (9, .ptr 1 0), (1, iA other)], [laO m c, .cells [iA boot, iA most, iA count, .own 4, .mp 0], seO sent cs, doO done cd, .sl 5 (out.map sntR), .sl 2 (out.map fun x => ncR x.n)]), fun j => out.length - j, ⟨0, Nat.zero_le _, ?_⟩, ?_⟩
    · all_goals refine ⟨[], ?_⟩
      repeat (any_goals (first | exact True.intro | exact rfl | with_reducible_and_instances rfl | exact (by kernel_rfl) | refine And.intro ?_ ?_))
      all_goals conv => whnf
    intro j hj
    conv => whnf
    by_cases hjl : j < out.length
    · have hx : out[j]? = some out[j] := List.getElem?_eq_getElem hjl
      generalize out[j] = x at hx
      have hgx := map_get (f := fun x : Snt => ncR x.n) hx
      have hjl' : j < (out.map fun x : Snt => ncR x.n).length := by rw [hmn]; exact hjl
      have hdj : decide ((j : Int) < ((out.map fun x => ncR x.n).length : Nat)) = true := decide_eq_true (by rw [hmn]; omega)
      have s1 := answer_old boot most count out m c ((findX sent x.n).getD zQ).g ((findX sent x.n).getD zQ).e other x.n.2 hob
      iterate 7
        repeat' (first | exact True.intro | ((first | refine ⟨j, rfl, hjl', ?_⟩ | refine ⟨_, hgx, ?_⟩ | refine And.intro (fun _ => ?_) tf | refine And.intro ft (fun _ => ?_) | refine And.intro (by kernel_rfl) ?_ | refine And.intro (by decide) ?_ | refine And.intro (fun _ => ?_) (fun h => absurd h (by decide)) | refine And.intro (fun h => absurd h (by decide)) (fun _ => ?_) | refine ⟨_, _, lkS1 (n := x.n) rfl, ?_⟩ | refine ⟨_, _, s1.at3 1 4 0 rfl rfl rfl rfl rfl rfl, ?_⟩ | fail); conv => whnf) | (refine And.intro (fun _ => ?_) (fun _ => ?_) <;> conv => whnf) | fail)
        all_goals try (refine Or.inl ?_; conv => whnf)
      all_goals try exact (bno hdj ‹_›).elim
      refine ⟨j + 1, hjl, show out.length - (j + 1) < out.length - j by omega, ?_⟩
      all_goals refine ⟨[], ?_⟩
      repeat (any_goals (first | exact True.intro | exact rfl | with_reducible_and_instances rfl | exact (by kernel_rfl) | refine And.intro ?_ ?_))
      all_goals conv => whnf
      exact wk1 (by omega)
    · have hdj : decide ((j : Int) < ((out.map fun x => ncR x.n).length : Nat)) = false := decide_eq_false (by rw [hmn]; omega)
      iterate 3
        repeat' (first | exact True.intro | ((first | refine ⟨j, rfl, by omega, ?_⟩ | refine And.intro (fun _ => ?_) tf | refine And.intro ft (fun _ => ?_) | refine And.intro (by kernel_rfl) ?_ | refine And.intro (by decide) ?_ | refine And.intro (fun _ => ?_) (fun h => absurd h (by decide)) | refine And.intro (fun h => absurd h (by decide)) (fun _ => ?_) | fail); conv => whnf) | (refine And.intro (fun _ => ?_) (fun _ => ?_) <;> conv => whnf) | fail)
        all_goals try (refine Or.inl ?_; conv => whnf)
      all_goals try exact (bno ‹_› hdj).elim
      all_goals refine ⟨[], ?_⟩
      repeat (any_goals (first | exact True.intro | exact rfl | with_reducible_and_instances rfl | exact (by kernel_rfl) | refine And.intro ?_ ?_))
      all_goals conv => whnf
end Go.Proofs.Ytamomaihmfdebaa
/- ProbeOnce from its arguments. -/
namespace Go.Proofs.Ytamomaihmfdebaa
set_option linter.unusedSimpArgs false
set_option linter.unusedVariables false
open Go.RowKit
set_option maxRecDepth 100000
theorem ty_long1' {m : Nat} {t : TypeId} {ds : List D} (h : Ty Try.prog (m + 1) t ds) (hu : Try.prog.underlying t = some (.int .i64)) : ∃ z, ds = [iD z] ∧ in64 z := by
  have h : TyB (Ty Try.prog m) Try.prog t ds := h
  unfold TyB at h
  rw [hu] at h
  obtain ⟨z, h1, h2⟩ := h
  exact ⟨z, h1, wf_i64 h2⟩
theorem ty_qs {x : D} (h : TyV Try.prog 22 x) : ∃ l : List CallQ, x = .sl 7 (l.map clQ) := by
  obtain ⟨rows, rfl, h2, h3⟩ := ty_slice h Try.underlying22
  obtain ⟨l, rfl, _⟩ := rows_map (f := clQ) (p := fun _ => True) fun r hr => by
    have h : TyB (Ty Try.prog 7) Try.prog 33 r := h2 r hr
    unfold TyB at h
    rw [Try.underlying33] at h
    obtain ⟨dss, e0, h⟩ := h
    obtain ⟨d1, r1, e1, h1, h⟩ := h
    obtain ⟨d2, r2, e2, h2, h⟩ := h
    obtain ⟨d3, r3, e3, h3, h⟩ := h
    obtain ⟨d4, r4, e4, h4, h⟩ := h
    obtain ⟨d5, r5, e5, h5, h⟩ := h
    obtain ⟨d6, r6, e6, h6, h⟩ := h
    obtain rfl : r6 = [] := h
    subst e6 e5 e4 e3 e2 e1 e0
    obtain ⟨a1, rfl, _⟩ := ty_long1' h1 Try.underlying3
    obtain ⟨a2, rfl, _⟩ := ty_long1' h2 Try.underlying2
    obtain ⟨a3, rfl, _⟩ := ty_long1' h3 Try.underlying2
    obtain ⟨a4, rfl, _⟩ := ty_long1' h4 Try.underlying2
    obtain ⟨a5, rfl, _⟩ := ty_long1' h5 Try.underlying2
    have h : TyB (Ty Try.prog 5) Try.prog 31 d6 := h6
    unfold TyB at h
    rw [Try.underlying31] at h
    obtain ⟨dss, e0, h⟩ := h
    obtain ⟨c1, r1, e1, h1, h⟩ := h
    obtain ⟨c2, r2, e2, h2, h⟩ := h
    obtain rfl : r2 = [] := h
    subst e2 e1 e0
    obtain ⟨b1, rfl, _⟩ := ty_long1' h1 Try.underlying2
    obtain ⟨b2, rfl, _⟩ := ty_long1' h2 Try.underlying2
    exact ⟨⟨a1, a2, a3, a4, a5, (b1, b2)⟩, rfl, trivial⟩
  exact ⟨l, rfl⟩
theorem once16_law (H : Type) (enc : TypeId × Value → H) : LawWalk H enc Try.prog 3 Try.f3 :=
  lawWalk_of_sat (by kernel_rfl) fun args h => by
    obtain ⟨a, _, rfl, h1, h⟩ := h
    obtain ⟨b, _, rfl, h2, h⟩ := h
    obtain ⟨c, _, rfl, h3, h⟩ := h
    obtain ⟨d, _, rfl, h4, h⟩ := h
    obtain rfl := h
    obtain ⟨boot, rfl, _⟩ := ty_i64 h1 Try.underlying2
    obtain ⟨other, rfl, _⟩ := ty_i64 h2 Try.underlying2
    obtain ⟨most, rfl, _⟩ := ty_i64 h3 Try.underlying3
    obtain ⟨l, rfl⟩ := ty_qs h4
    exact once16_sat boot other most l
end Go.Proofs.Ytamomaihmfdebaa
/- Two closed facts on the program that every law's statement asks. -/
namespace Go.Proofs.Ytamomaihmfdebaa
set_option linter.unusedSimpArgs false
set_option linter.unusedVariables false
open Go.RowKit
theorem own : ownKnob Try.prog.godebug = none := by kernel_rfl
theorem laidOut : laidOutB Try.prog = true := by kernel_rfl
end Go.Proofs.Ytamomaihmfdebaa
