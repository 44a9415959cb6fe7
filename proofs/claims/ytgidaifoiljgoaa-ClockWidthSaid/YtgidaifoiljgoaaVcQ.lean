/- Contracts at a call. No program is named here. -/
import Derived.Test.YtgidaifoiljgoaaVcP
namespace Go.Proofs.Ytgidaifoiljgoaa
set_option linter.unusedSimpArgs false
set_option linter.unusedVariables false
open Go.RowKit
mutual
theorem AV.rn_zero {f : Nat → Nat} : ∀ (x : AV), AV.lt 0 x = true → x.rn f = x
  | .d x, _ => by rw [AV.rn]
  | .ptr i o, h => by simp [AV.lt, Nat.blt] at h
  | .own i, h => by simp [AV.lt, Nat.blt] at h
  | .ep i s q g, h => by simp [AV.lt, Nat.blt] at h
  | .fp xs, _ => by rw [AV.rn]
  | .agg xs, h => by rw [AV.rn, AV.rns_zero xs (by simpa [AV.lt] using h)]
  | .tup xs, h => by rw [AV.rn, AV.rns_zero xs (by simpa [AV.lt] using h)]
  | .fn g a b, h => by simp [AV.lt] at h; rw [AV.rn, AV.rns_zero a h.1, AV.rns_zero b h.2]
  | .mp i, h => by simp [AV.lt, Nat.blt] at h
  | .any, _ => by rw [AV.rn]
theorem AV.rns_zero {f : Nat → Nat} : ∀ (xs : List AV), AV.lts 0 xs = true → AV.rns f xs = xs
  | [], _ => by rw [AV.rns]
  | x :: r, h => by simp [AV.lts] at h; rw [AV.rns, AV.rn_zero x h.1, AV.rns_zero r h.2]
end
section
variable {P : Program} {L : List AObj} {n : Nat} {g : FuncId} {args : List AV} {r : AV}
/-- A function that is only handed data, and hands back data. -/
theorem Sat.pu (h : Sat P g args [] r []) (hi : AV.lts 0 args = true) (hr : AV.lt 0 r = true) : CallOK P g args L n e0 r := by
  have := h.at_ [] L n rfl List.nodup_nil rfl rfl (by simp [hi, AObj.lts]) (fun j hj => by simp at hj)
  rw [AV.rns_zero _ hi, AV.rn_zero _ hr] at this
  exact this
/-- .. and hands back new objects. -/
theorem Sat.nw {H' : List AObj} (h : Sat P g args [] r H') (hi : AV.lts 0 args = true) : CallOK P g args L n ⟨[], [], AObj.rns (sub [] n) H'⟩ (r.rn (sub [] n)) := by
  have := h.at_ [] L n rfl List.nodup_nil rfl rfl (by simp [hi, AObj.lts]) (fun j hj => by simp at hj)
  rw [AV.rns_zero _ hi] at this
  exact this
end
end Go.Proofs.Ytgidaifoiljgoaa
