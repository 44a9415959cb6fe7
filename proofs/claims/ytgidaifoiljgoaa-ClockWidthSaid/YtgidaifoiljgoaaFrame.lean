/- From the walk of a law to its statement: the part that is alike for all laws. No program is named here. -/
import Derived.Test.YtgidaifoiljgoaaBase
import Derived.ProofKit
import Derived.OpenShut
import Derived.ShutString
import Derived.ChangeOld
import Derived.SizedLaws
import Derived.Carry
import Derived.Deep.Slices
namespace Go.Proofs.Ytgidaifoiljgoaa
set_option linter.unusedSimpArgs false
set_option linter.unusedVariables false
open Go.ChangeShapes Go.WideShapes Go.ChangeAt Go.RowKit

section
variable {H : Type} {enc : TypeId × Value → H} {P : Program}
theorem trodAll_below (hl : laidOutB P = true) {W W' : World} (hb : Below W.heap.size W W') : ∀ {ts : List TypeId}, (ts.all fun t => P.readableRec t && decide (t < P.types.size)) = true → ∀ {vs : List Value} {ds : List (DataW H)} {ps : List MemPlace},
    DataW.TrodAll enc P W 0 (fun _ => true) true ts vs ds ps → DataW.TrodAll enc P W' 0 (fun b => decide (b < W.heap.size)) true ts vs ds ps := by
  intro ts
  induction ts with
  | nil =>
    intro _ vs ds ps h
    obtain ⟨rfl, rfl, rfl⟩ := trodAll_nil h
    exact trodAll_mk0
  | cons t ts ih =>
    intro hts vs ds ps h
    obtain ⟨v, vs', d, ds', p, q, rfl, rfl, rfl, h0, r0⟩ := trodAll_cons h
    simp only [List.all_cons, Bool.and_eq_true, decide_eq_true_eq] at hts
    have lt0 : ∀ x ∈ p, x.block < W.heap.size := by obtain ⟨m, hm⟩ := h0; exact DataW.trod_lt m _ _ _ hm
    refine trodAll_cons_mk (Below.trod hl hts.1.1 hts.1.2 h0 hb lt0) (ih ?_ r0)
    simpa using hts.2

theorem trodAll_length {w : World} {base : Nat} {spare : Nat → Bool} {held : Bool} : ∀ {ts : List TypeId} {vs : List Value} {ds : List (DataW H)} {ps : List MemPlace}, DataW.TrodAll enc P w base spare held ts vs ds ps → ds.length = ts.length := by
  intro ts
  induction ts with
  | nil =>
    intro vs ds ps h
    obtain ⟨rfl, rfl, rfl⟩ := trodAll_nil h
    rfl
  | cons t ts ih =>
    intro vs ds ps h
    obtain ⟨v, vs', d, ds', p, q, rfl, rfl, rfl, h0, r0⟩ := trodAll_cons h
    simp [ih r0]

/-- What the walk of a law must show: from whatever arguments that read as data, true comes back, and nothing that was there has turned. -/
def LawWalk (H : Type) (enc : TypeId × Value → H) (P : Program) (F : FuncId) (fn : Func) : Prop :=
  ∀ (W : World) (base : Nat) (args : Array Value) (ds : List (DataW H)) (p : List MemPlace),
    (∀ (j : Nat) t v, fn.params[j]? = some t → args[j]? = some v → Value.okWide P W .any base t v) →
    DataW.TrodAll enc P W 0 (fun _ => true) true fn.params.toList args.toList ds p →
    (DataW.weightsEach P fn.params.toList ds).all (· ≤ reachBytes) = true →
    Calls P F args W fun e W' => e = .returned (.bool true) ∧ Below W.heap.size W W'

theorem lift_law {C : Checked} {os : Os} {F : FuncId} {fn : Func} {s : ChangeSpec} {bT : TypeId} (laid : laidOutB C.prog = true) (own : ownKnob C.prog.godebug = none) (started : os.Started) (noInit : C.prog.inits.idxOf? F = none)
    (hfn : C.prog.funcs[F]? = some fn) (hts : (fn.params.toList.all fun t => C.prog.readableRec t && decide (t < C.prog.types.size)) = true) (hbT : C.prog.underlying bT = some .bool) (hres : fn.resultTypes = #[bT])
    (hvars : s.vars = []) (hs : ∀ ds : List (DataW H), ds.length = fn.params.toList.length → s.fn H ds = { results := [.lit (.bool true)], args := ds })
    (witness : ∃ (w : World) (tape : Tape) (i : Input), w.os = os ∧ (w.forCall tape i).Shaped C.prog ∧ i.vars = [] ∧ Input.okWide C.prog (w.forCall tape i) .any w.heap.size F i ∧
      s.pre6 enc C.prog fn [] false (w.forCall tape i).memory i.args ∧ Assume.holds {} C.prog (lone (Frame.enter C.prog F i.args .normal) [] (w.forCall tape i)))
    (walk : LawWalk H enc C.prog F fn) :
    ReturnsInHanded {} C os F .any (s.pre6 enc C.prog fn [] false) (s.post enc C.prog fn false true false false) := by
  refine returnsInHanded_of_change_sized own started noInit hfn witness ?_
  intro W base args ds gs before hval hW _ hsz _
  have hW' := hW
  obtain ⟨p, q, hA, hV, rfl, hfz, hnd⟩ := hW
  rw [hvars] at hV
  obtain ⟨rfl, rfl⟩ := trodVars_none hV
  have hvt : s.plain.varTypes C.prog = [] := by simp [ChangeSpec.plain, DataSpec.varTypes, hvars]
  rw [hvt, List.append_nil, List.append_nil] at hsz
  refine (walk W base args ds p hval hA hsz).mono fun e W' ⟨he, bel⟩ => ?_
  subst he
  have hd := trodAll_length hA
  have hsp := hs ds hd
  refine ⟨_, rfl, ds, [], p ++ [], [], p, [], hW', ?_, ?_, ?_, bel.frame _, fun h => by cases h⟩
  · rw [List.append_nil, hsp, hres]
    exact trodAll_mk1 (shut_bool hbT _)
  · rw [List.append_nil, hsp]
    exact trodAll_below laid bel hts hA
  · rw [List.append_nil, hsp, hvars]
    rfl
end

/-! ### arguments -/
section
variable {H : Type} {enc : TypeId × Value → H} {P : Program} {w : World}
theorem u8_of_wf {z : Int} (h : (Lit.int .u8 z).wf = true) : ((UInt8.ofNat z.toNat).toNat : Int) = z := by
  have hb : 0 ≤ z ∧ z ≤ 255 := by
    have := bounds_u8 h
    omega
  simp [UInt8.toNat_ofNat']
  omega
/-- A slice of bytes that came in. -/
theorem open_bytes {t e : TypeId} {base : Nat} {v : Value} {d : DataW H} {p : List MemPlace} (ht : P.underlying t = some (.slice e)) (he : P.underlying e = some (.int .u8)) (hce : P.cellsOf e = 1) (hbe : P.bytesOf e = 1)
    (hok : Value.okWide P w .any base t v) (h : DataW.Trod enc P w 0 (fun _ => true) true t v d p) (hwt : (d.weights P t).all (· ≤ reachBytes) = true) :
    ∃ A n c l, v = .slice A n c ∧ RdB w w.heap.size A n l ∧ n ≤ c ∧ c ≤ 140737488351232 := by
  obtain ⟨a0, len, cap, rfl⟩ := okWide_slice ht hok
  have lt0 : ∀ x ∈ p, x.block < w.heap.size := by obtain ⟨m, hm⟩ := h; exact DataW.trod_lt m _ _ _ hm
  obtain ⟨fuel, hf⟩ := h
  rcases open_ints ht he hce hf with ⟨hcs, _⟩ | ⟨x, l', c', zs, hcs, _, hl, hm, hz, hx, hcell, hwz⟩
  · simp [Value.cells] at hcs
    obtain ⟨rfl, rfl, rfl⟩ := hcs
    exact ⟨none, 0, 0, [], rfl, Rd.nil, by omega, by omega⟩
  · simp [Value.cells] at hcs
    obtain ⟨rfl, rfl, rfl⟩ := hcs
    simp only [if_true] at hz
    have hcap : cap ≤ 140737488351232 := by
      have hd : d = .slice (lits .u8 (zs.take len)) (lits .u8 (zs.drop len)) := congrArg Prod.fst hx
      rw [hd] at hwt
      have h1 := List.all_eq_true.1 hwt (((lits (H := H) .u8 (zs.take len)).length + (lits (H := H) .u8 (zs.drop len)).length) * P.bytesOf e) (by simp [DataW.weights, ht])
      simp only [lits, List.length_map, List.length_take, List.length_drop, hbe, decide_eq_true_eq, reachBytes] at h1
      omega
    refine ⟨some x, len, cap, (zs.take len).map (fun z => UInt8.ofNat z.toNat), rfl, ⟨by simp; omega, fun hn => ?_⟩, hl, hcap⟩
    obtain ⟨b, off, spot⟩ := x
    have hc0 := hcell 0 (by omega)
    have hspot : spot = none := by simpa [Addr.add] using World.cell?_spot hc0
    subst hspot
    refine ⟨b, off, rfl, World.block_lt_of_cell? w _ hc0 |> (by simpa [Addr.add_lit] using ·), fun j hj => ?_⟩
    have hj' : j < len := by simp at hj; omega
    have hcj := hcell j (by omega)
    rw [Addr.add_lit] at hcj
    rw [hcj]
    have hjz : j < zs.length := by omega
    simp only [List.getElem_map, List.getElem_take, bv, Option.some.injEq, Value.int.injEq, true_and]
    rw [u8_of_wf (hwz _ (List.getElem_mem _))]
    simp [List.getD, List.getElem?_eq_getElem hjz]
end
end Go.Proofs.Ytgidaifoiljgoaa
