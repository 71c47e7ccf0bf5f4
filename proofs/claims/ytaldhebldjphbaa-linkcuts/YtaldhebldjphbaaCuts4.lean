/-
  The law LinkCuts: what its functions compute, and that it answers true.
  Conditions: none.
-/
import Derived.Test.YtaldhebldjphbaaCuts3
import Derived.WalkKit
namespace Go.Proofs.Ytaldhebldjphbaa
open Go.Vm
open Go.ChangeShapes Go.WideShapes Go.ChangeAt Go.RowKit
set_option maxRecDepth 100000
theorem own : ownKnob Try.prog.godebug = none := by kernel_rfl
theorem laidOut : laidOutB Try.prog = true := by kernel_rfl
theorem mixed : Try.prog.follows .mixedOrders = true := by kernel_rfl

theorem int_of {x : PV} {k : Nat} (h : InT Try.prog (k + 1) 3 x) : ∃ n, x = .int .i64 n ∧ (Lit.int .i64 n).wf = true := by
  unfold InT at h; rw [Try.underlying3] at h; exact h
theorem str_of {x : PV} {k : Nat} (h : InT Try.prog (k + 1) 9 x) : ∃ s, x = .str s ∧ s.length ≤ reachBytes := by
  unfold InT at h; rw [Try.underlying9] at h; exact h
theorem bool_of {x : PV} {k : Nat} (h : InT Try.prog (k + 1) 4 x) : ∃ b, x = .bool b := by
  unfold InT at h; rw [Try.underlying4] at h; exact h
theorem link_of {x : PV} {k : Nat} (h : InT Try.prog (k + 1 + 1 + 1) 24 x) : ∃ nl xs cut, x = lnk nl xs cut ∧ ∀ y ∈ xs, ∃ s, y = .str s := by
  unfold InT at h; rw [Try.underlying24] at h
  obtain ⟨xs, rfl, h⟩ := h
  simp only [List.map_cons, List.map_nil, AllT] at h
  obtain ⟨p, _, rfl, hp, c, _, rfl, hc, rfl⟩ := h
  unfold InT at hp; rw [Try.underlying22] at hp
  obtain ⟨nl, ys, rfl, _, _, hy⟩ := hp
  obtain ⟨b, rfl⟩ := bool_of hc
  exact ⟨nl, ys, b, rfl, fun y h => by obtain ⟨s, hs, _⟩ := str_of (hy y h); exact ⟨s, hs⟩⟩

theorem LinkCuts_pure (xs : List PV) (h : AllT (InT Try.prog depth) Try.f3.params.toList xs) : ∃ k, call T k 3 xs = some [.bool true] := by
  rw [Try.params3] at h
  simp only [AllT] at h
  obtain ⟨l, _, rfl, hl, s, _, rfl, hs, a, _, rfl, ha, rfl⟩ := h
  obtain ⟨nl, xs, cut, rfl, hx⟩ := link_of (k := 9) hl
  obtain ⟨s, rfl, _⟩ := str_of (k := 11) hs
  obtain ⟨a, rfl, _⟩ := int_of (k := 11) ha
  exact Ans_some.1 (LinkCuts nl xs cut s a hx)

theorem LinkCuts_lifted (os : Os) (started : os.Started) (H : Type) (enc : TypeId × Value → H) :
    ReturnsInHanded {} Try.checked os 3 .any (Rows.linkCutsSpec.pre6 enc Try.prog Try.f3 Rows.linkCutsRow.domain false) (Rows.linkCutsSpec.post enc Try.prog Try.f3 false true false false) := by
  refine returnsInHanded_of_change_sized (C := Try.checked) own started (by kernel_rfl) Try.func3
    (ChangeSpec.witness6 (enc := enc) (C := Try.checked) false ⟨#[], #[.agg #[.slice none 0 0, .bool false], .string ByteArray.empty, .int .i64 0], []⟩ 8 (by kernel_rfl) (by kernel_rfl) (by kernel_rfl) (by kernel_rfl)) ?_
  intro W base args ds gs before hval hW hcnd hsz _
  exact law_post (T := T) (sg := sg) mixed (fun f F h => h) (f := 3) (fn := Try.f3) (tys := [.agg [.sl .sh .sc, .sc], .sc, .sc]) rfl (by kernel_rfl) rfl (tb := 4) (by kernel_rfl) Try.underlying4 laidOut (by kernel_rfl) LinkCuts_pure
    (s := Rows.linkCutsSpec) rfl (by kernel_rfl) (fun ds h => by
      rw [Try.params3] at h
      match ds, h with
      | [a, b, c], _ => rfl) hval hW hsz

theorem LinkCuts_holds : Rows.LinkCutsSaid :=
  OpenClaim.holds_of_wide 3 Try.f3 rfl rfl rfl rfl rfl rfl rfl ⟨rfl, rfl, rfl, rfl, rfl⟩ rfl rfl rfl rfl rfl (by kernel_rfl) Try.func3 (by kernel_rfl)
    (of_decide_eq_true (by kernel_rfl)) (by unfold Func.isWrapper; first | (rw [if_pos (by decide +kernel)]; kernel_rfl) | (rw [if_neg (by decide +kernel)]; exact ⟨rfl, rfl⟩))
    (fun os started H enc _ => LinkCuts_lifted os started H enc)
#print axioms LinkCuts_holds
end Go.Proofs.Ytaldhebldjphbaa
