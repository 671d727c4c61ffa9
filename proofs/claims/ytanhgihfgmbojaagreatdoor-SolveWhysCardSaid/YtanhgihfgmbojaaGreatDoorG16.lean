/- JOINED: V181 -/
import Derived.Test.YtanhgihfgmbojaaGreatDoorG15
set_option linter.unusedSimpArgs false
set_option linter.unusedVariables false
/- ref 20: the search. -/
namespace Go.Proofs.YtanhgihfgmbojaaGreatDoor
open Go.X Go.X.Diff
set_option maxRecDepth 100000
set_option linter.unusedSimpArgs false
set_option linter.unusedVariables false

structure OkH (hv : List Man) : Prop where
  v : ∀ k, k < hv.length → verOk (gM hv k).ver = true
  d : ∀ k, k < hv.length → ∀ d ∈ (gM hv k).deps, d.wf ∧ wantOk d.want = true
  c : ∀ k, k < hv.length → ∀ d ∈ (gM hv k).conf, wantOk d.want = true
  s : ∀ k, k < hv.length → (gM hv k).deps.length ≤ 1000 ∧ (gM hv k).conf.length ≤ 1000
  r : (List.range hv.length).all (haveAt hv) = true
theorem OkH.ref {hv : List Man} (h : OkH hv) {i j : Nat} (hi : i < hv.length) (hj : j < hv.length) : refR (gM hv i) (gM hv j) = refM (gM hv i) (gM hv j) := by
  unfold refR refM
  rw [Bool.eq_iff_iff, List.any_eq_true, List.any_eq_true]
  constructor
  · rintro ⟨d, hd, hf⟩
    exact ⟨d, hd, by rw [← fitR_eq (h.c i hi d hd) (h.v j hj)]; exact hf⟩
  · rintro ⟨d, hd, hf⟩
    exact ⟨d, hd, by rw [fitR_eq (h.c i hi d hd) (h.v j hj)]; exact hf⟩
theorem _root_.Go.X.SlE.lt {n : Nat} {P : Nat → Prop} {H : Heap} {v : Value} {xs : List (List Value)} (h : SlE n P H v xs) : SlE n (fun b => P b ∧ b < H.size) H v xs := by
  obtain ⟨⟨a, c, hv, hc, hx⟩, h2, h3⟩ := h
  refine ⟨⟨a, c, hv, hc, hx.imp id ?_⟩, h2, h3⟩
  rintro ⟨b, o, rfl, hP, hp⟩
  exact ⟨b, o, rfl, ⟨hP, hp.lt⟩, hp⟩
theorem PksV.lt {Q : Nat → Prop} {H : Heap} {v : Value} {pk : List PK} (h : PksV Q H v pk) : PksV (fun b => Q b ∧ b < H.size) H v pk := ⟨h.s.lt, fun x hx => ⟨(h.m x hx).d.lt, (h.m x hx).c.lt, (h.m x hx).wf⟩⟩
end Go.Proofs.YtanhgihfgmbojaaGreatDoor

