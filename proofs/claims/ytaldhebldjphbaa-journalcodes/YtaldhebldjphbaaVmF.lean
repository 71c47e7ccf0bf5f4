/-
  A verified evaluator of the program's functions by value, part 6.
  Conditions: none.
-/
import Derived.Test.YtaldhebldjphbaaVmE
import Derived.ProofKit
import Derived.SizedLaws
import Derived.Carry

/-
  The contract of every function of a table.
  Conditions: none.
-/
set_option linter.unusedVariables false
set_option linter.unusedSimpArgs false
namespace Go.Vm

theorem av_start {params : List PM} {m i : Nat} : av (params.map startAV ++ List.replicate m .dead) i = match params[i]? with | some pm => startAV pm | none => .dead := by
  unfold av
  by_cases h : i < params.length
  · rw [List.getElem?_append_left (by simpa using h)]
    simp [h]
  · rw [List.getElem?_append_right (by simpa using h), List.getElem?_replicate]
    rw [List.getElem?_eq_none (l := params) (by omega)]
    split <;> rfl

theorem refIdx_mask : ∀ {l : List PM} {i j : Nat}, j ∈ refIdx i l → (refMask i l).testBit j = true
  | [], i, j, h => by simp [refIdx] at h
  | .val _ :: l, i, j, h => by simp only [refIdx] at h; simp only [refMask]; exact refIdx_mask h
  | .ref _ _ :: l, i, j, h => by
    simp only [refIdx, List.mem_cons] at h
    simp only [refMask]
    rw [Nat.testBit_or, tb_bit]
    rcases h with rfl | h
    · simp
    · rw [refIdx_mask h]; simp

theorem refIdx_of : ∀ {l : List PM} {i k : Nat}, isRefAt l k → (i + k) ∈ refIdx i l
  | [], i, k, ⟨_, _, h⟩ => by simp at h
  | .val _ :: l, i, k, ⟨tin, tout, h⟩ => by
    cases k with
    | zero => simp at h
    | succ k =>
      simp only [refIdx]
      rw [show i + (k + 1) = i + 1 + k by omega]
      exact refIdx_of ⟨tin, tout, by simpa using h⟩
  | .ref _ _ :: l, i, k, ⟨tin, tout, h⟩ => by
    cases k with
    | zero => simp [refIdx]
    | succ k =>
      simp only [refIdx]
      rw [show i + (k + 1) = i + 1 + k by omega]
      exact List.mem_cons_of_mem _ (refIdx_of ⟨tin, tout, by simpa using h⟩)

theorem nodupN_get : ∀ {l : List Nat}, nodupN l = true → ∀ {i j x : Nat}, l[i]? = some x → l[j]? = some x → i = j
  | [], _, i, j, x, h, _ => by simp at h
  | a :: l, hn, i, j, x, hi, hj => by
    obtain ⟨h1, h2⟩ := nodupN_cons hn
    cases i with
    | zero =>
      cases j with
      | zero => rfl
      | succ j =>
        simp at hi hj; subst hi
        exact absurd (List.mem_of_getElem? hj) h1
    | succ i =>
      cases j with
      | zero =>
        simp at hi hj; subst hj
        exact absurd (List.mem_of_getElem? hi) h1
      | succ j =>
        have hi' : l[i]? = some x := by simpa using hi
        have hj' : l[j]? = some x := by simpa using hj
        exact congrArg (· + 1) (nodupN_get h2 hi' hj')

section
variable {P : Program} {n : Nat} {w : World} {O : OMap} {C : Env}

theorem start_inv {params : List PM} {xs : List PV} {args : List Value} (hp : Params w O params 0 xs args) (hO : ∀ b, w.heap.size ≤ b → O b = some .foreign) (hn : params.length ≤ n) :
    Inv (mk (params.map startAV ++ List.replicate (n - params.length) .dead)) (xs ++ List.replicate (n - xs.length) .undef) n w O
      { tmps := args.toArray ++ Array.replicate (n - args.toArray.size) undef, defers := [] } w O := by
  obtain ⟨l1, l2⟩ := params_len hp
  have hav : ∀ i, (mk (params.map startAV ++ List.replicate (n - params.length) .dead) i).av = match params[i]? with | some pm => startAV pm | none => .dead := fun i => by rw [mk_av, av_start]
  have hget : ∀ (i : Nat) (x : PV), xs[i]? = some x → get (xs ++ List.replicate (n - xs.length) .undef) i = x := fun i x hx => by
    unfold get
    rw [List.getElem?_append_left (List.getElem?_eq_some_iff.1 hx).1, hx]; rfl
  have hval : ∀ (i : Nat) (v : Value), args[i]? = some v → val { tmps := args.toArray ++ Array.replicate (n - args.toArray.size) undef, defers := [] } i = v := fun i v hv => by
    unfold val
    have := (List.getElem?_eq_some_iff.1 hv).1
    rw [Array.getD_eq_getD_getElem?, Array.getElem?_append_left (by simpa using this)]
    simp [hv]
  refine ⟨?_, ?_, rfl, ⟨rfl, rfl, rfl, Nat.le_refl _, fun b _ _ => ⟨rfl, rfl⟩, hO⟩, fun i => ?_, fun i hi => ?_, fun i ty hi => ?_, fun i hi => ?_, fun i _ h2 _ => by rw [mk_at] at h2; simp at h2⟩
  · simp; omega
  · simp; omega
  · unfold VersOK
    rw [hav]
    cases params[i]? with
    | none => trivial
    | some pm => cases pm <;> trivial
  · rw [hav, List.getElem?_eq_none (by omega)]
  · rw [hav] at hi
    cases hk : params[i]? with
    | none => rw [hk] at hi; cases hi
    | some pm =>
      rw [hk] at hi
      obtain ⟨x, v, e1, e2, e3⟩ := params_get hp i pm hk
      cases pm with
      | val t => cases hi
      | ref tin tout =>
        obtain ⟨b, o, cs, _, _, _, _, hu⟩ := e3
        rw [hget i x e1]; exact hu
  · cases hk : params[i]? with
    | none =>
      left
      unfold get
      have : xs.length ≤ i := by rw [l1]; exact List.getElem?_eq_none_iff.1 hk
      rw [List.getElem?_append_right this, List.getElem?_replicate]
      split <;> rfl
    | some pm =>
      right
      obtain ⟨x, v, e1, e2, e3⟩ := params_get hp i pm hk
      unfold CellOK
      rw [hav, hk, hget i x e1, hval i v e2]
      rw [Nat.zero_add] at e3
      cases pm with
      | val t => exact e3
      | ref tin tout =>
        obtain ⟨b, o, cs, h1, h2, h3, h4, _⟩ := e3
        exact ⟨b, o, cs, h1, h2, h3, h4⟩

theorem backs_len {l : List ResultVar} {gs : List Ty} (h : l.length = gs.length) : ∀ {i : Nat} {av : AV}, (i, av) ∈ backs l gs → True := fun _ => trivial

/-- **The contract of one function.** -/
theorem func_ok {sg : Sigs} {f : Nat} {g : Sig} {F : VFunc} {k : Nat} (hm : P.follows .mixedOrders = true) (hC : ∀ f g, sg f = some g → CallOK P C f g) (hcomp : compile P sg f = some F) (hg : sg f = some g) {xs rs : List PV} (hrun : F.run C k xs = some rs)
    {args : List Value} {w : World} {O : OMap} (hO : ∀ b, w.heap.size ≤ b → O b = some .foreign) (hp : Params w O g.params 0 xs args) :
    Calls P f args.toArray w fun e w' => ∃ O' rt vs, e = .returned (packed vs) ∧ Frame0 w O w' O' ∧ Results w' O' rt g.results 0 (rs.take g.results.length) vs ∧ RefsBack w' O' g.params 0 args (rs.drop g.results.length) ∧
      (∀ k k', k < g.results.length → k' < g.results.length → rt k = rt k' → k = k') ∧ ∀ k, k < g.results.length → ∀ i, isRefAt g.params i → rt k ≠ i := by
  unfold compile at hcomp
  simp only [Option.bind_eq_some_iff] at hcomp
  obtain ⟨fn, hfn, g', hg', c, hbody, hcomp⟩ := hcomp
  rw [hg] at hg'
  simp only [Option.some.injEq] at hg'
  subst hg'
  obtain ⟨hn, hcomp⟩ := if_some hcomp
  simp only [Option.bind_eq_some_iff] at hcomp
  obtain ⟨⟨v, o⟩, hc, hcomp⟩ := hcomp
  simp only [] at hcomp
  obtain ⟨hcond, hF⟩ := if_some hcomp
  simp only [Option.some.injEq] at hF
  subst hF
  simp only [Bool.and_eq_true] at hcond
  obtain ⟨⟨⟨⟨hex, hnd⟩, hrets⟩, hnorm⟩, hdst⟩ := hcond
  obtain ⟨l1, l2⟩ := params_len hp
  unfold VFunc.run at hrun
  simp only [Option.bind_eq_some_iff] at hrun
  obtain ⟨⟨e, s'⟩, hden, hrun⟩ := hrun
  let a0 : Act := { tmps := args.toArray ++ Array.replicate (fn.ntmps - args.toArray.size) undef, defers := [] }
  have hat : At (refMask 0 g.params) (val a0) fn.ntmps w O (g.params.map startAV ++ List.replicate (fn.ntmps - g.params.length) .dead) (xs ++ List.replicate (fn.ntmps - xs.length) .undef) a0 w :=
    ⟨by simp; omega, fun _ _ => rfl, O, start_inv hp hO hn⟩
  have hwp := comp_sound hm hC k c hc hdst hat hden
  refine calls_of_wp hfn hbody (wp_mono hwp fun e' a' w' hq => ?_)
  -- what is known at the return
  have fin : ∀ S1, okRet P fn g S1 = true → At (refMask 0 g.params) (val a0) fn.ntmps w O S1 s' a' w' → allDef ((fn.results.toList.map resTmp ++ refIdx 0 g.params).map (get s')) = some rs → a'.defers = [] ∧ ∃ v, (results fn a'.tmps).run P w' = .ok v w' ∧
      ∃ O' rt vs, Ending.returned v = .returned (packed vs) ∧ Frame0 w O w' O' ∧ Results w' O' rt g.results 0 (rs.take g.results.length) vs ∧ RefsBack w' O' g.params 0 args (rs.drop g.results.length) ∧
      (∀ k k', k < g.results.length → k' < g.results.length → rt k = rt k' → k = k') ∧ ∀ k, k < g.results.length → ∀ i, isRefAt g.params i → rt k ≠ i := by
    intro S1 hok hat1 hall
    obtain ⟨hl1, hpin, O1, inv1⟩ := hat1
    obtain ⟨rfl, hdef⟩ := allDef_some hall
    simp only [okRet, Bool.and_eq_true] at hok
    obtain ⟨hok1, hok2⟩ := hok
    split at hok1
    case h_2 => cases hok1
    rename_i ts hts
    split at hok2
    case h_2 => cases hok2
    rename_i rts hrts
    simp only [Bool.and_eq_true, beq_iff_eq] at hok1
    obtain ⟨hlen, hz⟩ := hok1
    let L := backs fn.results.toList g.results ++ refBacks 0 g.params
    obtain ⟨hb1, hb2⟩ := backs_le (S' := lastSg L fn.ntmps) hts hz hlen
    have hLfst : L.map (·.1) = fn.results.toList.map resTmp ++ refIdx 0 g.params := by
      simp only [L, List.map_append]; rw [backs_fst hb2, refBacks_fst]
    have hLnd : nodupN (L.map (·.1)) = true := by rw [hLfst]; exact hnd
    have hLle : ∀ i a, (i, a) ∈ L → leAV S1 (lastSg L fn.ntmps) (av S1 i) a = true ∧ av S1 i ≠ .dead := fun i a hia => by
      rcases List.mem_append.1 hia with h | h
      · exact hb1 i a h
      · exact refBacks_le hrts hok2 i a h
    have hlt : ∀ i, av S1 i ≠ .dead → i < fn.ntmps := fun i hi => by
      refine Nat.lt_of_not_le fun hle => hi ?_
      unfold av
      rw [List.getElem?_eq_none (by omega)]; rfl
    have hle : leSg S1 (lastSg L fn.ntmps) = true := leSg_of (by rw [hl1, len_last]) fun i hi => by
      rw [av_last (by omega)]
      rcases pickAV_mem (l := L) (i := i) with h | h
      · rw [h]; exact leAV_dead _ _ _
      · exact (hLle i _ h).1
    obtain ⟨O2, inv2⟩ := inv1.weaken hle
    have hL2 : ∀ i a, (i, a) ∈ L → (mk (lastSg L fn.ntmps) i).av = a ∧ i < fn.ntmps := fun i a hia => by
      have hi := hlt i (hLle i a hia).2
      exact ⟨by rw [mk_av, av_last hi, pickAV_of_mem hLnd hia], hi⟩
    let rt : Nat → Nat := fun j => ((fn.results.toList.map resTmp)[j]?).getD 0
    have hrt : ∀ (j : Nat) (r : ResultVar), fn.results.toList[j]? = some r → rt (0 + j) = resTmp r := fun j r hj => by
      simp only [rt]; rw [Nat.zero_add, List.getElem?_map, hj]; rfl
    have hund : ∀ i ∈ fn.results.toList.map resTmp ++ refIdx 0 g.params, get s' i ≠ .undef := fun i hi => hdef _ (List.mem_map_of_mem hi)
    obtain ⟨vs, r1, r2, r3⟩ := results_list inv2 (k := 0) (rt := rt) hts hz hlen (fun i a hia => hL2 i a (List.mem_append.2 (.inl hia))) (fun r hr => hund _ (List.mem_append.2 (.inl (List.mem_map_of_mem hr)))) hrt
    have hlenR : g.results.length = fn.results.toList.length := hb2.symm
    have htake : ((fn.results.toList.map resTmp ++ refIdx 0 g.params).map (get s')).take g.results.length = fn.results.toList.map fun r => get s' (resTmp r) := by
      rw [List.map_append, List.take_left' (by simp [hlenR]), List.map_map]; rfl
    have hdrop : ((fn.results.toList.map resTmp ++ refIdx 0 g.params).map (get s')).drop g.results.length = (refIdx 0 g.params).map (get s') := by
      rw [List.map_append, List.drop_left' (by simp [hlenR])]
    have hrtget : ∀ k, k < g.results.length → (fn.results.toList.map resTmp ++ refIdx 0 g.params)[k]? = some (rt k) := fun k hk => by
      have hk' : k < fn.results.toList.length := by omega
      rw [List.getElem?_append_left (by simpa using hk')]
      simp only [rt, List.getElem?_map]
      rw [List.getElem?_eq_getElem hk']; rfl
    refine ⟨inv2.defers, packed vs, results_run r1, O2, rt, vs, rfl, inv2.frame, by rw [htake]; exact r2, ?_, fun k k' hk hk' he => ?_, fun k hk i hi he => ?_⟩
    · rw [hdrop]
      refine refs_list (a0 := a0) inv2 hp (fun j v hj => ?_) (fun j hj => ⟨hpin j (refIdx_mask hj), hund j (List.mem_append.2 (.inr hj))⟩) (fun j a hj => hL2 j a (List.mem_append.2 (.inr hj)))
      rw [Nat.zero_add]
      unfold val
      have := (List.getElem?_eq_some_iff.1 hj).1
      rw [Array.getD_eq_getD_getElem?, Array.getElem?_append_left (by simpa using this)]
      simp [hj]
    · refine nodupN_get hnd (hrtget k hk) ?_
      rw [he]; exact hrtget k' hk'
    · have hmem := refIdx_of (i := 0) hi
      rw [Nat.zero_add] at hmem
      obtain ⟨j, hj⟩ := List.getElem?_of_mem hmem
      have h1 := hrtget k hk
      rw [he] at h1
      have h2 : (fn.results.toList.map resTmp ++ refIdx 0 g.params)[(fn.results.toList.map resTmp).length + j]? = some i := by
        rw [List.getElem?_append_right (by omega), Nat.add_sub_cancel_left]; exact hj
      have := nodupN_get hnd h1 h2
      simp only [List.length_map] at this
      omega
  cases e' with
  | normal =>
    obtain ⟨rfl, S1, hS1, hat1⟩ := hq
    rw [hS1] at hnorm
    exact fin S1 hnorm hat1 hrun
  | ret =>
    obtain ⟨rfl, S1, hS1, hat1⟩ := hq
    exact fin S1 (List.all_eq_true.1 hrets S1 hS1) hat1 hrun
  | exit id =>
    obtain ⟨_, S1, hS1, _⟩ := hq
    rw [List.isEmpty_iff] at hex
    rw [hex] at hS1
    simp at hS1
  | goto l => exact hq.elim
  | panic c => exact hq.elim
  | outgrown => exact hq.elim

/-- **The contract of every function of a table.** -/
theorem table_ok {sg : Sigs} {T : Nat → Option VFunc} (hm : P.follows .mixedOrders = true) (hT : ∀ f F, T f = some F → compile P sg f = some F) : ∀ k f g, sg f = some g → CallOK P (call T k) f g
  | 0, f, g, _ => fun xs rs h => by simp [call] at h
  | k + 1, f, g, hg => fun xs rs h args w O hO hp => by
    simp only [call, Option.bind_eq_some_iff] at h
    obtain ⟨F, hF, hrun⟩ := h
    exact func_ok hm (table_ok hm hT k) (hT f F hF) hg hrun hO hp

end
end Go.Vm

/-
  The arguments of a statement, opened: whatever reads as data is represented.
  Conditions: none.
-/
set_option linter.unusedVariables false
set_option linter.unusedSimpArgs false
namespace Go.Vm

/-- every block that there is is shared -/
def lowO (w : World) : OMap := fun b => if b < w.heap.size then none else some .foreign

def AllT (f : TypeId → PV → Prop) : List TypeId → List PV → Prop
  | [], xs => xs = []
  | t :: ts, xs => ∃ x ys, xs = x :: ys ∧ f t x ∧ AllT f ts ys

/-- a value of the type, as an input may be -/
def InT (P : Program) : Nat → TypeId → PV → Prop
  | 0, _, _ => False
  | k + 1, t, x => match P.underlying t with
    | some .bool => ∃ b, x = .bool b
    | some (.int kk) => ∃ n, x = .int kk n ∧ (Lit.int kk n).wf = true
    | some .string => ∃ s, x = .str s ∧ s.length ≤ reachBytes
    | some (.slice e) => ∃ nl xs, x = .slice nl xs ∧ (nl = true → xs = []) ∧ xs.length * P.bytesOf e ≤ reachBytes ∧ ∀ y ∈ xs, InT P k e y
    | some (.struct fs) => ∃ xs, x = .agg xs ∧ AllT (InT P k) (fs.toList.map (·.type)) xs
    | some (.array n e) => ∃ xs, x = .agg xs ∧ xs.length = n ∧ ∀ y ∈ xs, InT P k e y
    | _ => False

mutual
/-- the elements of slices have no slices -/
def Ty.flat1 : Ty → Bool
  | .sc => true
  | .agg l => Ty.flat1s l
  | .sl _ e => e.noSl
def Ty.flat1s : List Ty → Bool
  | [] => true
  | t :: ts => t.flat1 && Ty.flat1s ts
end

theorem mapM_get {α β : Type} {f : α → Option β} : ∀ {l : List α} {ys : List β}, l.mapM f = some ys → ys.length = l.length ∧ ∀ (i : Nat) (x : α), l[i]? = some x → ∃ y, f x = some y ∧ ys[i]? = some y
  | [], ys, h => by simp at h; subst h; exact ⟨rfl, fun i x hx => by simp at hx⟩
  | a :: l, ys, h => by
    rw [List.mapM_cons] at h
    simp only [bind, Option.bind_eq_some_iff, pure, Option.some.injEq] at h
    obtain ⟨y, hy, zs, hz, rfl⟩ := h
    obtain ⟨h1, h2⟩ := mapM_get hz
    refine ⟨by simp [h1], fun i x hx => ?_⟩
    cases i with
    | zero => simp at hx; subst hx; exact ⟨y, hy, rfl⟩
    | succ i => simpa using h2 i x (by simpa using hx)

theorem list_choose {α : Type} {p : Nat → α → Prop} : ∀ (n : Nat), (∀ i, i < n → ∃ y, p i y) → ∃ xs : List α, xs.length = n ∧ ∀ (i : Nat) (y : α), xs[i]? = some y → p i y
  | 0, _ => ⟨[], rfl, fun i y h => by simp at h⟩
  | n + 1, h => by
    obtain ⟨xs, h1, h2⟩ := list_choose n fun i hi => h i (by omega)
    obtain ⟨y, hy⟩ := h n (by omega)
    refine ⟨xs ++ [y], by simp [h1], fun i z hz => ?_⟩
    by_cases hi : i < n
    · rw [List.getElem?_append_left (by omega)] at hz; exact h2 i z hz
    · rw [List.getElem?_append_right (by omega)] at hz
      have : i - xs.length = 0 := by
        have := (List.getElem?_eq_some_iff.1 hz).1
        simp at this; omega
      have hin : i = n := by omega
      subst hin
      rw [this] at hz
      simp at hz; subst hz; exact hy

theorem cells?_spec {w : World} {a : Addr} {n : Nat} {cs : List Value} (h : w.cells? 0 a n = some cs) (hs : a.spot = none) (hn : 0 < n) :
    ∃ c el fr, w.heap[a.block]? = some (.cells c el fr) ∧ a.off + n ≤ c.size ∧ cs = cellsAt c a.off n := by
  unfold World.cells? at h
  rw [if_pos (Nat.zero_le _)] at h
  obtain ⟨h1, h2⟩ := mapM_get h
  have hcell : ∀ i, i < n → ∃ v, w.cell? (a.add i) = some v ∧ cs[i]? = some v := fun i hi => h2 i i (by simp [hi])
  obtain ⟨v0, hv0, _⟩ := hcell 0 hn
  rw [addr_add' a hs] at hv0
  unfold World.cell? at hv0
  simp only [] at hv0
  split at hv0
  case h_2 => cases hv0
  rename_i c el fr hb
  have hall : ∀ i, i < n → c[a.off + i]? = cs[i]? := fun i hi => by
    obtain ⟨v, hv, hv'⟩ := hcell i hi
    rw [addr_add' a hs] at hv
    unfold World.cell? at hv
    simp only [hb] at hv
    simp at hv
    rw [hv', hv]
  have hlen : cs.length = n := by rw [h1]; simp
  have hsz : a.off + n ≤ c.size := by
    have := hall (n - 1) (by omega)
    have h3 : (cs[n - 1]?).isSome := by simp; omega
    rw [← this] at h3
    simp at h3; omega
  refine ⟨c, el, fr, hb, hsz, ?_⟩
  unfold cellsAt
  apply List.ext_getElem?
  intro i
  by_cases hi : i < n
  · rw [List.getElem?_take_of_lt hi, List.getElem?_drop, ← hall i hi]; simp
  · rw [List.getElem?_eq_none (by omega), List.getElem?_eq_none (by simp; omega)]

theorem reps_build {W : World} {O : OMap} : ∀ {ts : List Ty} {p : Nat → PV → Prop} {cs : List Value}, cs.length = Ty.sizes ts →
    (∀ (i : Nat) (t : Ty), ts[i]? = some t → ∃ y, RepSh W O t y ((cs.drop (Ty.sizes (ts.take i))).take t.size) ∧ p i y) →
    ∃ xs, RepShs W O ts xs cs ∧ xs.length = ts.length ∧ ∀ (i : Nat) (y : PV), xs[i]? = some y → p i y
  | [], p, cs, hl, h => ⟨[], by simp only [Ty.sizes] at hl; simp only [RepShs]; exact ⟨trivial, List.length_eq_zero_iff.1 hl⟩, rfl, fun i y h => by simp at h⟩
  | t :: ts, p, cs, hl, h => by
    simp only [Ty.sizes] at hl
    obtain ⟨y, hy, hp⟩ := h 0 t rfl
    simp only [List.take_zero, Ty.sizes, List.drop_zero] at hy
    obtain ⟨xs, h1, h2, h3⟩ := reps_build (ts := ts) (p := fun i => p (i + 1)) (cs := cs.drop t.size) (by simp; omega) fun i u hu => by
      obtain ⟨y, hy, hp⟩ := h (i + 1) u (by simpa using hu)
      simp only [List.take_succ_cons, Ty.sizes] at hy
      rw [← List.drop_drop] at hy
      exact ⟨y, hy, hp⟩
    refine ⟨y :: xs, ?_, by simp [h2], fun i z hz => ?_⟩
    · simp only [RepShs]
      exact ⟨y, xs, cs.take t.size, cs.drop t.size, rfl, (List.take_append_drop _ _).symm, hy, h1⟩
    · cases i with
      | zero => simp at hz; subst hz; exact hp
      | succ i => exact h3 i z (by simpa using hz)

theorem cellsOf_tyz {P : Program} {k : Nat} {t : TypeId} {ty : Ty} {z : PV} (h : tyz P k t = some (ty, z)) : P.cellsOf t = ty.size := by
  cases k with
  | zero => simp [tyz] at h
  | succ k =>
    obtain ⟨i, v, hi, hs, _⟩ := tyz_succ h
    simp [Program.cellsOf, hi, hs]

theorem allT_of {f : TypeId → PV → Prop} : ∀ {ts : List TypeId} {xs : List PV}, xs.length = ts.length → (∀ (i : Nat) (t : TypeId) (x : PV), ts[i]? = some t → xs[i]? = some x → f t x) → AllT f ts xs
  | [], xs, hl, _ => List.length_eq_zero_iff.1 hl
  | t :: ts, [], hl, _ => by simp at hl
  | t :: ts, x :: xs, hl, h => ⟨x, xs, rfl, h 0 t x rfl rfl, allT_of (by simpa using hl) fun i u y hu hy => h (i + 1) u y (by simpa using hu) (by simpa using hy)⟩

theorem weightsAll_mem {H : Type} {P : Program} {e : TypeId} : ∀ {l : List (DataW H)} {d : DataW H} {n : Nat}, d ∈ l → n ∈ d.weights P e → n ∈ DataW.weightsAll P e l
  | [], d, n, h, _ => by simp at h
  | x :: l, d, n, h, hn => by
    simp only [DataW.weightsAll, List.mem_append]
    rcases List.mem_cons.1 h with rfl | h
    · exact .inl hn
    · exact .inr (weightsAll_mem h hn)

theorem noSls_get : ∀ {l : List Ty} {i : Nat} {t : Ty}, Ty.noSls l = true → l[i]? = some t → t.noSl = true
  | [], i, t, _, h => by simp at h
  | u :: l, i, t, h, hi => by
    simp only [Ty.noSls, Bool.and_eq_true] at h
    cases i with
    | zero => simp at hi; subst hi; exact h.1
    | succ i => exact noSls_get h.2 (by simpa using hi)
theorem flat1s_get : ∀ {l : List Ty} {i : Nat} {t : Ty}, Ty.flat1s l = true → l[i]? = some t → t.flat1 = true
  | [], i, t, _, h => by simp at h
  | u :: l, i, t, h, hi => by
    simp only [Ty.flat1s, Bool.and_eq_true] at h
    cases i with
    | zero => simp at hi; subst hi; exact h.1
    | succ i => exact flat1s_get h.2 (by simpa using hi)

theorem sizes_take_replicate (m : Nat) (t : Ty) : ∀ i, i ≤ m → Ty.sizes ((List.replicate m t).take i) = i * t.size := by
  intro i hi
  rw [List.take_replicate, Nat.min_eq_left hi]
  induction i with
  | zero => simp [Ty.sizes]
  | succ i ih => rw [List.replicate_succ, Ty.sizes, ih (by omega)]; rw [Nat.add_mul]; omega

section
variable {H : Type} {enc : TypeId × Value → H} {P : Program} {W : World} {sp : Nat → Bool}

/-- **Whatever reads as data is represented.** -/
theorem open_trod : ∀ (k : Nat) {fuel : Nat} {t : TypeId} {cs : List Value} {d : DataW H} {ps : List MemPlace} {ty : Ty} {z : PV}, tyz P k t = some (ty, z) → DataW.trod enc P W 0 sp true fuel t cs = some (d, ps) → (∀ n ∈ d.weights P t, n ≤ reachBytes) →
    (ty.noSl = true ∨ (ty.flat1 = true ∧ ∀ a l c, Value.slice (some a) l c ∈ cs → a.spot = none)) → ∃ x, RepSh W (lowO W) ty x cs ∧ InT P k t x
  | 0, fuel, t, cs, d, ps, ty, z, h, _, _, _ => by simp [tyz] at h
  | k + 1, 0, t, cs, d, ps, ty, z, h, ht, _, _ => by simp [DataW.trod] at ht
  | k + 1, fuel + 1, t, cs, d, ps, ty, z, h, ht, hw, hs => by
    obtain ⟨i, v, hi, hsz, hz, hm, h⟩ := tyz_succ h
    have hcells : P.cellsOf t = ty.size := by simp [Program.cellsOf, hi, hsz]
    unfold DataW.trod at ht
    cases h with
    | bool hu =>
      simp only [hu] at ht
      split at ht <;> (try (injections; done)) <;> (try (cases ht; done))
      rename_i b _
      exact ⟨.bool b, by simp only [RepSh, ScRep], by simp only [InT, hu]; exact ⟨b, rfl⟩⟩
    | int kk hu =>
      simp only [hu] at ht
      split at ht <;> (try (injections; done)) <;> (try (cases ht; done))
      rename_i k1 k2 n heq
      cases heq
      obtain ⟨⟨rfl, hwf⟩, h2⟩ := if_some ht
      exact ⟨.int k2 n, by simp only [RepSh, ScRep], by simp only [InT, hu]; exact ⟨n, rfl, hwf⟩⟩
    | str hu =>
      simp only [hu] at ht
      split at ht <;> (try (injections; done)) <;> (try (cases ht; done))
      rename_i s heq
      have h2 := (if_some ht).2
      cases h2
      exact ⟨.str s.data.toList, by simp only [RepSh, ScRep], by simp only [InT, hu]; exact ⟨_, rfl, hw _ (by simp [DataW.weights])⟩⟩
    | slice e te z' hu he hpos =>
      simp only [hu] at ht
      split at ht <;> (try (injections; done)) <;> (try (cases ht; done))
      · cases ht
        refine ⟨.slice true [], ?_, ?_⟩
        · unfold RepSh; exact ⟨true, [], rfl, .inl ⟨rfl, rfl, rfl⟩⟩
        · unfold InT; rw [hu]; exact ⟨true, [], rfl, fun _ => rfl, by simp [reachBytes], fun y hy => by simp at hy⟩
      · rename_i e' a len cap heq
        cases heq
        obtain ⟨⟨_, hcap, _⟩, h2⟩ := if_some ht
        simp only [Option.bind_eq_some_iff, Option.map_eq_some_iff] at h2
        obtain ⟨elems, hel, rest, hre, h3⟩ := h2
        simp only [Prod.mk.injEq] at h3
        obtain ⟨rfl, rfl⟩ := h3
        have hspot : a.spot = none := by
          rcases hs with hs | ⟨_, hs⟩
          · simp [Ty.noSl] at hs
          · exact hs a len cap (by simp)
        have hfl : te.noSl = true := by
          rcases hs with hs | ⟨hs, _⟩
          · simp [Ty.noSl] at hs
          · simpa [Ty.flat1] using hs
        have hte : P.cellsOf e = te.size := cellsOf_tyz he
        obtain ⟨hlen, hget⟩ := mapM_get hel
        simp only [List.length_range] at hlen
        have hone : ∀ i, i < len → ∃ y, (∃ c el fr, W.heap[a.block]? = some (.cells c el fr) ∧ a.off + (i * te.size + te.size) ≤ c.size ∧ RepSh W (lowO W) te y (cellsAt c (a.off + i * te.size) te.size)) ∧ InT P k e y := fun i hi => by
          obtain ⟨⟨di, pi⟩, h4, h5⟩ := hget i i (by simp [hi])
          simp only [Option.bind_eq_some_iff] at h4
          obtain ⟨ci, h6, h7⟩ := h4
          rw [hte, addr_add' a hspot] at h6
          obtain ⟨c, el, fr, c1, c2, rfl⟩ := cells?_spec h6 rfl hpos
          obtain ⟨y, y1, y2⟩ := open_trod k he h7 (fun n hn => hw n (by
            simp only [DataW.weights, hu, List.mem_cons, List.mem_append]
            exact .inr (.inl (weightsAll_mem (List.mem_map.2 ⟨(di, pi), List.mem_of_getElem? h5, rfl⟩) hn)))) (.inl hfl)
          exact ⟨y, ⟨c, el, fr, c1, by simp only [] at c2; omega, y1⟩, y2⟩
        obtain ⟨xs, hx1, hx2⟩ := list_choose len hone
        refine ⟨.slice false xs, ?_, ?_⟩
        · unfold RepSh
          refine ⟨false, xs, rfl, .inr ⟨rfl, a, cap, by rw [hx1], hspot, by omega, ?_⟩⟩
          by_cases h0 : len = 0
          · left; exact List.length_eq_zero_iff.1 (by omega)
          · right
            obtain ⟨y, ⟨c, el, fr, c1, c2, _⟩, _⟩ := hone (len - 1) (by omega)
            have hlt : a.block < W.heap.size := by
              refine Nat.lt_of_not_le fun hle => ?_
              rw [Array.getElem?_eq_none (by omega)] at c1; cases c1
            refine ⟨by unfold lowO; rw [if_pos hlt], c, el, fr, c1, ?_, fun i y hy => ?_⟩
            · rw [hx1]
              have : (len - 1) * te.size + te.size = len * te.size := by
                rw [← Nat.succ_mul]; congr 1; omega
              omega
            · obtain ⟨⟨c', el', fr', c1', _, y1⟩, _⟩ := hx2 i y hy
              rw [c1] at c1'
              cases c1'
              exact y1
        · unfold InT; rw [hu]
          refine ⟨false, xs, rfl, (fun h => by cases h), ?_, fun y hy => ?_⟩
          · have := hw _ (by simp only [DataW.weights, hu]; exact List.mem_cons_self)
            simp only [List.length_map] at this
            refine Nat.le_trans (Nat.mul_le_mul_right _ ?_) this
            omega
          · obtain ⟨i, hi⟩ := List.getElem?_of_mem hy
            exact (hx2 i y hi).2
    | array m e te z' hu he =>
      simp only [hu] at ht
      obtain ⟨hl, h2⟩ := if_some ht
      simp only [Option.map_eq_some_iff] at h2
      obtain ⟨xs, hx, h3⟩ := h2
      simp only [Prod.mk.injEq] at h3
      obtain ⟨rfl, rfl⟩ := h3
      have hte : P.cellsOf e = te.size := cellsOf_tyz he
      obtain ⟨hlen, hget⟩ := mapM_get hx
      simp only [List.length_range] at hlen
      rw [hcells] at hl
      simp only [Ty.size] at hl
      obtain ⟨ys, y1, y2, y3⟩ := reps_build (W := W) (O := lowO W) (ts := List.replicate m te) (p := fun _ y => InT P k e y) (cs := cs) hl fun i u hu' => by
        have hi : i < m := by have := (List.getElem?_eq_some_iff.1 hu').1; simpa using this
        have : u = te := by rw [List.getElem?_replicate, if_pos hi] at hu'; exact (Option.some.inj hu').symm
        subst this
        obtain ⟨⟨di, pi⟩, h4, h5⟩ := hget i i (by simp [hi])
        rw [hte] at h4
        rw [sizes_take_replicate m u i (by omega)]
        refine open_trod k he h4 (fun n hn => hw n ?_) ?_
        · simp only [DataW.weights, hu]
          exact weightsAll_mem (List.mem_map.2 ⟨(di, pi), List.mem_of_getElem? h5, rfl⟩) hn
        · rcases hs with hs | ⟨hs1, hs2⟩
          · left; simp only [Ty.noSl] at hs; exact noSls_get hs hu'
          · right; simp only [Ty.flat1] at hs1; exact ⟨flat1s_get hs1 hu', fun a l c hm => hs2 a l c (List.mem_of_mem_drop (List.mem_of_mem_take hm))⟩
      refine ⟨.agg ys, by unfold RepSh; exact ⟨ys, rfl, y1⟩, ?_⟩
      unfold InT; rw [hu]
      refine ⟨ys, rfl, by simpa using y2, fun y hy => ?_⟩
      obtain ⟨i, hi⟩ := List.getElem?_of_mem hy
      exact y3 i y hi
    | struct fs ts zs hu hf =>
      simp only [hu] at ht
      obtain ⟨hl, h2⟩ := if_some ht
      simp only [Option.map_eq_some_iff] at h2
      obtain ⟨xs, hx, h3⟩ := h2
      simp only [Prod.mk.injEq] at h3
      obtain ⟨rfl, rfl⟩ := h3
      obtain ⟨t2, z2, e1, _, e3, _, e5⟩ := fold_struct _ _ _ _ _ hf
      simp only [List.nil_append] at e1
      subst e1
      obtain ⟨hlen, hget⟩ := mapM_get hx
      rw [hcells] at hl
      simp only [Ty.size] at hl
      obtain ⟨ys, y1, y2, y3⟩ := reps_build (W := W) (O := lowO W) (ts := ts) (p := fun i y => ∀ f, fs.toList[i]? = some f → InT P k f.type y) (cs := cs) hl fun i u hu' => by
        have hi : i < fs.toList.length := by have := (List.getElem?_eq_some_iff.1 hu').1; omega
        obtain ⟨tf, z', g1, g2, _, g4⟩ := e5 i fs.toList[i] (List.getElem?_eq_getElem hi)
        rw [hu'] at g2
        cases g2
        obtain ⟨⟨di, pi⟩, h4, h5⟩ := hget i fs.toList[i] (List.getElem?_eq_getElem hi)
        have hte : P.cellsOf fs.toList[i].type = u.size := cellsOf_tyz g1
        rw [hte, g4] at h4
        simp only [Ty.sizes, Nat.zero_add] at h4
        obtain ⟨y, r1, r2⟩ := open_trod k g1 h4 (fun n hn => hw n (by
          simp only [DataW.weights, hu]
          refine DataW.weights_mem_each (j := i) (t := fs.toList[i].type) (d := di) ?_ ?_ n hn
          · rw [List.getElem?_map, List.getElem?_eq_getElem hi]; rfl
          · rw [List.getElem?_map, h5]; rfl)) (by
          rcases hs with hs | ⟨hs1, hs2⟩
          · left; simp only [Ty.noSl] at hs; exact noSls_get hs hu'
          · right; simp only [Ty.flat1] at hs1; exact ⟨flat1s_get hs1 hu', fun a l c hm => hs2 a l c (List.mem_of_mem_drop (List.mem_of_mem_take hm))⟩)
        refine ⟨y, r1, fun f hf' => ?_⟩
        rw [List.getElem?_eq_getElem hi] at hf'
        cases hf'
        exact r2
      refine ⟨.agg ys, by unfold RepSh; exact ⟨ys, rfl, y1⟩, ?_⟩
      unfold InT; rw [hu]
      refine ⟨ys, rfl, allT_of (by rw [List.length_map, y2, e3]) fun i t x ht' hx' => ?_⟩
      rw [List.getElem?_map] at ht'
      cases hfi : fs.toList[i]? with
      | none => rw [hfi] at ht'; cases ht'
      | some f =>
        rw [hfi] at ht'
        cases ht'
        exact y3 i x hx' f hfi

end
end Go.Vm

/-
  A statement that a law answers true, from what the value language computes.
  Conditions: none.
-/
set_option linter.unusedVariables false
set_option linter.unusedSimpArgs false
namespace Go.Vm
open Go.ChangeShapes Go.WideShapes Go.ChangeAt Go.RowKit

section
variable {H : Type} {enc : TypeId × Value → H} {P : Program} {W : World} {sp : Nat → Bool} {base : Nat}

theorem cell_spot {u : TypeId} {a : Addr} {l c : Nat} (h : Cell.okWide P W .any base u (.slice (some a) l c)) : a.spot = none := by
  unfold Cell.okWide at h
  split at h <;> (try (injections; done))
  unfold Cell.ok at h
  split at h <;> (try (injections; done)) <;> (try exact h.elim)
  rename_i heq
  cases heq
  exact h.2.2.2.1

theorem row_spot {t : TypeId} {cs : Array Value} (h : Row.okWide P W .any base t cs) {a : Addr} {l c : Nat} (hm : Value.slice (some a) l c ∈ cs.toList) : a.spot = none := by
  obtain ⟨ts, _, _, h⟩ := h
  obtain ⟨i, hi⟩ := List.getElem?_of_mem hm
  obtain ⟨u, _, hu⟩ := h i _ (by simpa using hi)
  exact cell_spot hu

theorem wrap_of {t : TypeId} {ty : Ty} {v : Value} (ht : tyOf P t = some ty) (hok : Value.okWide P W .any base t v) : Wrap ty v v.cells.toList ∧ ∀ a l c, Value.slice (some a) l c ∈ v.cells.toList → a.spot = none := by
  obtain ⟨i, w, z, hi, hsz, hz, hm, h⟩ := tyOf_at ht
  unfold Value.okWide at hok
  cases h with
  | bool hu =>
    simp only [hu] at hok
    simp only [Cell.okWide, Cell.ok, hu] at hok
    cases v <;> simp only [] at hok <;> first | exact hok.elim | skip
    exact ⟨rfl, fun a l c h => by simp [Value.cells] at h⟩
  | int kk hu =>
    simp only [hu] at hok
    simp only [Cell.okWide, Cell.ok, hu] at hok
    cases v <;> simp only [] at hok <;> first | exact hok.elim | skip
    exact ⟨rfl, fun a l c h => by simp [Value.cells] at h⟩
  | str hu =>
    simp only [hu] at hok
    simp only [Cell.okWide, Cell.ok, hu] at hok
    cases v <;> simp only [] at hok <;> first | exact hok.elim | skip
    exact ⟨rfl, fun a l c h => by simp [Value.cells] at h⟩
  | slice e te z' hu he hpos =>
    simp only [hu] at hok
    have hc : v.cells = #[v] := by
      cases v with
      | agg cs => simp [Cell.okWide, Cell.ok, hu] at hok
      | _ => rfl
    refine ⟨by rw [hc]; rfl, fun a l c h => ?_⟩
    rw [hc] at h
    simp at h
    subst h
    exact cell_spot hok
  | array m e te z' hu he =>
    simp only [hu] at hok
    obtain ⟨cs, rfl, _, hr⟩ := hok
    exact ⟨by simp [Wrap, Value.cells], fun a l c h => row_spot hr h⟩
  | struct fs ts zs hu hf =>
    simp only [hu] at hok
    obtain ⟨cs, rfl, _, hr⟩ := hok
    exact ⟨by simp [Wrap, Value.cells], fun a l c h => row_spot hr h⟩

theorem open_params : ∀ {ts : List TypeId} {tys : List Ty} (i : Nat) {vs : List Value} {ds : List (DataW H)} {p : List MemPlace}, ts.mapM (tyOf P) = some tys → Ty.flat1s tys = true → DataW.TrodAll enc P W 0 sp true ts vs ds p →
    (∀ (j : Nat) t v, ts[j]? = some t → vs[j]? = some v → Value.okWide P W .any base t v) → (∀ n ∈ DataW.weightsEach P ts ds, n ≤ reachBytes) → ∃ xs, Params W (lowO W) (tys.map PM.val) i xs vs ∧ AllT (InT P depth) ts xs
  | [], tys, i, vs, ds, p, h, _, ht, _, _ => by
    simp at h; subst h
    cases vs with
    | nil => exact ⟨[], by simp [Params], rfl⟩
    | cons => cases ds <;> exact ht.elim
  | t :: ts, tys, i, vs, ds, p, h, hf, ht, hv, hw => by
    rw [List.mapM_cons] at h
    simp only [bind, Option.bind_eq_some_iff, pure, Option.some.injEq] at h
    obtain ⟨ty, h1, tys', h2, rfl⟩ := h
    simp only [Ty.flat1s, Bool.and_eq_true] at hf
    cases vs with
    | nil => cases ds <;> exact ht.elim
    | cons v vs =>
      cases ds with
      | nil => exact ht.elim
      | cons d ds =>
        obtain ⟨p1, p2, ⟨fuel, ht1⟩, ht2, rfl⟩ := ht
        obtain ⟨xs, x1, x2⟩ := open_params (i + 1) h2 hf.2 ht2 (fun j t v ht hv' => hv (j + 1) t v (by simpa using ht) (by simpa using hv')) (fun n hn => hw n (by simp only [DataW.weightsEach, List.mem_append]; exact .inr hn))
        obtain ⟨w1, w2⟩ := wrap_of h1 (hv 0 t v rfl rfl)
        obtain ⟨z, hz⟩ := tyOf_some h1
        obtain ⟨x, r1, r2⟩ := open_trod depth hz ht1 (fun n hn => hw n (by simp only [DataW.weightsEach, List.mem_append]; exact .inl hn)) (.inr ⟨hf.1, w2⟩)
        refine ⟨x :: xs, ?_, x, xs, rfl, r2, x2⟩
        simp only [List.map_cons, Params]
        exact ⟨x, xs, v, vs, _, rfl, rfl, w1, (RepSh.rep (some i) 0 (tyz_isSh hz)).1 r1, x1⟩

theorem back_all (hl : laidOutB P = true) {W' : World} (hb : Below W.heap.size W W') : ∀ {ts : List TypeId} {vs : List Value} {ds : List (DataW H)} {p : List MemPlace}, ts.all (fun t => P.readableRec t && decide (t < P.types.size)) = true →
    DataW.TrodAll enc P W 0 (fun _ => true) true ts vs ds p → (∀ x ∈ p, x.block < W.heap.size) → DataW.TrodAll enc P W' 0 (fun b => decide (b < W.heap.size)) true ts vs ds p
  | [], [], [], p, _, h, _ => h
  | [], _ :: _, [], p, _, h, _ => h.elim
  | [], _, _ :: _, p, _, h, _ => by simp [DataW.TrodAll] at h
  | _ :: _, [], _, p, _, h, _ => by simp [DataW.TrodAll] at h
  | _ :: _, _ :: _, [], p, _, h, _ => by simp [DataW.TrodAll] at h
  | t :: ts, v :: vs, d :: ds, p, hr, h, hlt => by
    obtain ⟨p1, p2, h1, h2, rfl⟩ := h
    simp only [List.all_cons, Bool.and_eq_true, decide_eq_true_eq] at hr
    exact ⟨p1, p2, Below.trod hl hr.1.1 hr.1.2 h1 hb (fun x hx => hlt x (by simp [hx])), back_all hl hb hr.2 h2 (fun x hx => hlt x (by simp [hx])), rfl⟩

theorem trodAll_len : ∀ {ts : List TypeId} {vs : List Value} {ds : List (DataW H)} {p : List MemPlace}, DataW.TrodAll enc P W 0 sp true ts vs ds p → ds.length = ts.length
  | [], [], [], p, h => rfl
  | [], _ :: _, [], p, h => h.elim
  | [], _, _ :: _, p, h => by simp [DataW.TrodAll] at h
  | _ :: _, [], _, p, h => by simp [DataW.TrodAll] at h
  | _ :: _, _ :: _, [], p, h => by simp [DataW.TrodAll] at h
  | t :: ts, v :: vs, d :: ds, p, h => by
    obtain ⟨p1, p2, _, h2, _⟩ := h
    simp [trodAll_len h2]

/-- **A law**, from what the value language computes. -/
theorem law_post {sg : Sigs} {T : Nat → Option VFunc} (hm : P.follows .mixedOrders = true) (hT : ∀ f F, T f = some F → compile P sg f = some F) {f : Nat} {fn : Func} {tys : List Ty} {sh : Bool} (hsg : sg f = some ⟨tys.map PM.val, [.sc], sh⟩)
    (hty : fn.params.toList.mapM (tyOf P) = some tys) (hflat : Ty.flat1s tys = true) {tb : TypeId} (hres : fn.resultTypes = #[tb]) (hub : P.underlying tb = some .bool) (hl : laidOutB P = true)
    (hread : fn.params.toList.all (fun t => P.readableRec t && decide (t < P.types.size)) = true) (hpure : ∀ xs, AllT (InT P depth) fn.params.toList xs → ∃ k, call T k f xs = some [.bool true])
    {s : ChangeSpec} (hvars : s.vars = []) (hvt : s.plain.varTypes P = []) (hspec : ∀ (ds : List (DataW H)), ds.length = fn.params.toList.length → s.fn H ds = { results := [.lit (.bool true)], args := ds })
    {args : Array Value} {ds gs : List (DataW H)} {before : List MemPlace} (hval : ∀ (j : Nat) t v, fn.params[j]? = some t → args[j]? = some v → Value.okWide P W .any base t v) (hW : DataW.Whole enc P fn.params.toList s.vars false W args.toList ds gs before)
    (hsz : (DataW.weightsEach P (fn.params.toList ++ s.plain.varTypes P) (ds ++ gs)).all (· ≤ reachBytes) = true) :
    Calls P f args W fun e W' => ∃ v, e = .returned v ∧ s.post enc P fn false true false false W args v W' := by
  have hW' := hW
  have hlt := hW.lt
  obtain ⟨p, q, hA, hV, rfl, hfz, hnd⟩ := hW
  rw [hvars] at hV
  obtain ⟨rfl, rfl⟩ := trodVars_none hV
  rw [hvt] at hsz
  simp only [List.append_nil] at hsz hlt hW'
  have hw : ∀ n ∈ DataW.weightsEach P fn.params.toList ds, n ≤ reachBytes := fun n hn => by simpa using List.all_eq_true.1 hsz n hn
  obtain ⟨xs, hp, hin⟩ := open_params 0 hty hflat hA (fun j t v ht hv => hval j t v (by simpa using ht) (by simpa using hv)) hw
  obtain ⟨k, hk⟩ := hpure xs hin
  have hC := table_ok hm hT k f _ hsg xs _ hk args.toList W (lowO W) (fun b hb => by unfold lowO; rw [if_neg (by omega)]) hp
  refine Calls.mono (by simpa using hC) fun e W' h => ?_
  obtain ⟨O', rt, vs, rfl, hfr, hr, _, _⟩ := h
  simp only [List.length_cons, List.length_nil, List.take_succ_cons, List.take_zero, Results] at hr
  obtain ⟨x, ys, v, us, cs, e1, rfl, e3, e4, e5, rfl⟩ := hr
  cases e1
  simp only [Rep, ScRep] at e4
  subst e4
  simp only [Wrap] at e3
  cases e3
  have bel : Below W.heap.size W W' := ⟨hfr.os, hfr.tape, hfr.output, hfr.size, fun k hk => (hfr.heap k hk (.inl (by unfold lowO; rw [if_pos hk]))).1⟩
  refine ⟨_, rfl, ds, [], p, [], p, [], hW', ?_, ?_, ?_, bel.frame _, fun h => by cases h⟩
  · simp only [List.append_nil]
    rw [hspec ds (trodAll_len hA), hres]
    exact trodAll_mk1 (shut_bool hub _)
  · simp only [List.append_nil]
    rw [hspec ds (trodAll_len hA)]
    exact back_all hl bel hread hA hlt
  · simp only [List.append_nil]
    rw [hspec ds (trodAll_len hA), hvars]
    exact rfl

end
end Go.Vm

/-
  The value language without fuel, and its evaluation with continuations.
  Conditions: none.
-/
set_option linter.unusedVariables false
set_option linter.unusedSimpArgs false
namespace Go.Vm

/-! ### more fuel tells the same -/
def Env.le (C D : Env) : Prop := ∀ f xs rs, C f xs = some rs → D f xs = some rs

section
variable {C D : Env} {T : Nat → Option VFunc}

theorem rhs_more (h : Env.le C D) {s s' : St} {d : Option Nat} {rhs : VRhs} (hr : rhs.run C s d = some s') : rhs.run D s d = some s' := by
  cases rhs with
  | call f n xs refs =>
    simp only [VRhs.run, Option.bind_eq_some_iff] at hr ⊢
    obtain ⟨vs, h1, rs, h2, h3⟩ := hr
    exact ⟨vs, h1, rs, h f vs rs h2, h3⟩
  | _ => exact hr

theorem op_more (h : Env.le C D) {s s' : St} {o : VOp} (hr : o.run C s = some s') : o.run D s = some s' := by
  unfold VOp.run at hr ⊢
  split at hr
  · exact rhs_more h hr
  · split at hr
    · rename_i b hb
      try rw [hb]
      try simp only []
      split at hr
      · rename_i he; rw [if_pos he]; exact rhs_more h hr
      · rename_i he; rw [if_neg he]; exact hr
    · rename_i hb
      try rw [hb]
      exact hr
    · cases hr

theorem ops_more (h : Env.le C D) : ∀ {os : List VOp} {s s' : St}, runOps C os s = some s' → runOps D os s = some s'
  | [], s, s', hr => hr
  | o :: os, s, s', hr => by
    simp only [runOps, Option.bind_eq_some_iff] at hr ⊢
    obtain ⟨s1, h1, h2⟩ := hr
    exact ⟨s1, op_more h h1, ops_more h h2⟩

theorem iter_more {f g : St → Option (VExit × St)} (h : ∀ s r, f s = some r → g s = some r) : ∀ {n m : Nat} {s : St} {r : VExit × St}, n ≤ m → iter f n s = some r → iter g m s = some r
  | 0, m, s, r, _, hr => by simp [iter] at hr
  | n + 1, 0, s, r, hm, _ => by omega
  | n + 1, m + 1, s, r, hm, hr => by
    simp only [iter, Option.bind_eq_some_iff] at hr ⊢
    obtain ⟨⟨e, s1⟩, h1, h2⟩ := hr
    refine ⟨(e, s1), h _ _ h1, ?_⟩
    cases e with
    | normal => exact iter_more h (by omega) h2
    | exit id => exact h2
    | ret => exact h2

theorem den_more (h : Env.le C D) {n m : Nat} (hm : n ≤ m) : ∀ {v : VCode} {s : St} {r : VExit × St}, den C n v s = some r → den D m v s = some r := by
  intro v
  induction v with
  | skip => intro s r hr; exact hr
  | region ops kill =>
    intro s r hr
    simp only [den, Option.map_eq_some_iff] at hr ⊢
    obtain ⟨s1, h1, h2⟩ := hr
    exact ⟨s1, ops_more h h1, h2⟩
  | seq a b iha ihb =>
    intro s r hr
    simp only [den, Option.bind_eq_some_iff] at hr ⊢
    obtain ⟨⟨e, s1⟩, h1, h2⟩ := hr
    refine ⟨(e, s1), iha h1, ?_⟩
    cases e with
    | normal => exact ihb h2
    | exit id => exact h2
    | ret => exact h2
  | cond c a b iha ihb =>
    intro s r hr
    simp only [den] at hr ⊢
    split at hr
    · exact iha hr
    · exact ihb hr
    · cases hr
  | block id c ih =>
    intro s r hr
    simp only [den, Option.map_eq_some_iff] at hr ⊢
    obtain ⟨r1, h1, h2⟩ := hr
    exact ⟨r1, ih h1, h2⟩
  | loop kill c ih =>
    intro s r hr
    simp only [den] at hr ⊢
    exact iter_more (fun s r hr => ih hr) hm hr
  | exit id => intro s r hr; exact hr
  | ret => intro s r hr; exact hr

theorem run_more (h : Env.le C D) {n m : Nat} (hm : n ≤ m) {F : VFunc} {xs rs : List PV} (hr : F.run C n xs = some rs) : F.run D m xs = some rs := by
  simp only [VFunc.run, Option.bind_eq_some_iff] at hr ⊢
  obtain ⟨r, h1, h2⟩ := hr
  exact ⟨r, den_more h hm h1, h2⟩

theorem call_more : ∀ (k : Nat), Env.le (call T k) (call T (k + 1))
  | 0, f, xs, rs, h => by simp [call] at h
  | k + 1, f, xs, rs, h => by
    have ih := call_more k
    simp only [call, Option.bind_eq_some_iff] at h
    obtain ⟨F, h1, h2⟩ := h
    show (T f).bind (fun F => F.run (call T (k + 1)) (k + 1) xs) = some rs
    rw [h1, Option.bind_some]
    exact run_more ih (by omega) h2

theorem call_le : ∀ {k m : Nat}, k ≤ m → Env.le (call T k) (call T m) := by
  intro k m h
  induction h with
  | refl => exact fun f xs rs h => h
  | step _ ih => exact fun f xs rs h => call_more _ f xs rs (ih f xs rs h)

end

/-! ### the limit -/
open Classical in
noncomputable def Ans (T : Nat → Option VFunc) : Env := fun f xs => if h : ∃ rs k, call T k f xs = some rs then some (Classical.choose h) else none
open Classical in
noncomputable def Den (T : Nat → Option VFunc) (v : VCode) (s : St) : Option (VExit × St) := if h : ∃ r k, den (call T k) k v s = some r then some (Classical.choose h) else none

section
variable {T : Nat → Option VFunc}

theorem Ans_some {f : Nat} {xs rs : List PV} : Ans T f xs = some rs ↔ ∃ k, call T k f xs = some rs := by
  unfold Ans
  constructor
  · intro h
    split at h
    · rename_i hx
      obtain ⟨k, hk⟩ := Classical.choose_spec hx
      exact ⟨k, by rw [hk]; exact h⟩
    · cases h
  · rintro ⟨k, hk⟩
    rw [dif_pos ⟨rs, k, hk⟩]
    have hx : ∃ rs k, call T k f xs = some rs := ⟨rs, k, hk⟩
    obtain ⟨k', hk'⟩ := Classical.choose_spec hx
    have h1 := call_le (Nat.le_max_left k k') f xs rs hk
    have h2 := call_le (Nat.le_max_right k k') f xs _ hk'
    rw [h1] at h2
    exact h2.symm

theorem Den_some {v : VCode} {s : St} {r : VExit × St} : Den T v s = some r ↔ ∃ k, den (call T k) k v s = some r := by
  unfold Den
  constructor
  · intro h
    split at h
    · rename_i hx
      obtain ⟨k, hk⟩ := Classical.choose_spec hx
      exact ⟨k, by rw [hk]; exact h⟩
    · cases h
  · rintro ⟨k, hk⟩
    rw [dif_pos ⟨r, k, hk⟩]
    have hx : ∃ r k, den (call T k) k v s = some r := ⟨r, k, hk⟩
    obtain ⟨k', hk'⟩ := Classical.choose_spec hx
    have h1 := den_more (call_le (Nat.le_max_left k k')) (Nat.le_max_left k k') hk
    have h2 := den_more (call_le (Nat.le_max_right k k')) (Nat.le_max_right k k') hk'
    rw [h1] at h2
    exact h2.symm

theorem ops_limit : ∀ {os : List VOp} {s s' : St}, runOps (Ans T) os s = some s' → ∃ k, runOps (call T k) os s = some s'
  | [], s, s', h => ⟨0, h⟩
  | o :: os, s, s', h => by
    simp only [runOps, Option.bind_eq_some_iff] at h
    obtain ⟨s1, h1, h2⟩ := h
    obtain ⟨k1, k2⟩ := ops_limit h2
    obtain ⟨k3, k4⟩ := op_limit h1
    refine ⟨max k1 k3, ?_⟩
    simp only [runOps, Option.bind_eq_some_iff]
    exact ⟨s1, op_more (call_le (Nat.le_max_right k1 k3)) k4, ops_more (call_le (Nat.le_max_left k1 k3)) k2⟩
where
  rhs_limit {s s' : St} {d : Option Nat} : ∀ {rhs : VRhs}, rhs.run (Ans T) s d = some s' → ∃ k, rhs.run (call T k) s d = some s'
    | .call f n xs refs, h => by
      simp only [VRhs.run, Option.bind_eq_some_iff] at h
      obtain ⟨vs, h1, rs, h2, h3⟩ := h
      obtain ⟨k, hk⟩ := Ans_some.1 h2
      refine ⟨k, ?_⟩
      simp only [VRhs.run, Option.bind_eq_some_iff]
      exact ⟨vs, h1, rs, hk, h3⟩
    | .prim .., h => ⟨0, h⟩
    | .pick .., h => ⟨0, h⟩
    | .store .., h => ⟨0, h⟩
    | .copy .., h => ⟨0, h⟩
    | .storeM .., h => ⟨0, h⟩
  op_limit {s s' : St} {o : VOp} (h : o.run (Ans T) s = some s') : ∃ k, o.run (call T k) s = some s' := by
    unfold VOp.run at h
    split at h
    · rename_i hg
      obtain ⟨k, hk⟩ := rhs_limit h
      exact ⟨k, by unfold VOp.run; rw [hg]; exact hk⟩
    · rename_i g want hg
      split at h
      · rename_i b hb
        split at h
        · rename_i he
          obtain ⟨k, hk⟩ := rhs_limit h
          exact ⟨k, by unfold VOp.run; rw [hg]; simp only []; rw [hb]; simp only []; rw [if_pos he]; exact hk⟩
        · rename_i he
          exact ⟨0, by unfold VOp.run; rw [hg]; simp only []; rw [hb]; simp only []; rw [if_neg he]; exact h⟩
      · rename_i hb
        exact ⟨0, by unfold VOp.run; rw [hg]; simp only []; rw [hb]; simp only []; exact h⟩
      · cases h

theorem Den_region {ops : List VOp} {kill : List Nat} {s s' : St} (h : runOps (Ans T) ops s = some s') : Den T (.region ops kill) s = some (.normal, killAll s' kill) := by
  obtain ⟨k, hk⟩ := ops_limit h
  exact Den_some.2 ⟨k, by simp only [den]; rw [hk]; rfl⟩

theorem Den_seq {a b : VCode} {s s1 : St} {r : VExit × St} (h1 : Den T a s = some (.normal, s1)) (h2 : Den T b s1 = some r) : Den T (.seq a b) s = some r := by
  obtain ⟨k, hk⟩ := Den_some.1 h1
  obtain ⟨m, hm⟩ := Den_some.1 h2
  refine Den_some.2 ⟨max k m, ?_⟩
  simp only [den, Option.bind_eq_some_iff]
  exact ⟨(.normal, s1), den_more (call_le (Nat.le_max_left k m)) (Nat.le_max_left k m) hk, den_more (call_le (Nat.le_max_right k m)) (Nat.le_max_right k m) hm⟩

theorem Den_seq_exit {a b : VCode} {s s1 : St} {e : VExit} (he : e ≠ .normal) (h1 : Den T a s = some (e, s1)) : Den T (.seq a b) s = some (e, s1) := by
  obtain ⟨k, hk⟩ := Den_some.1 h1
  refine Den_some.2 ⟨k, ?_⟩
  simp only [den, Option.bind_eq_some_iff]
  refine ⟨(e, s1), hk, ?_⟩
  cases e <;> first | exact absurd rfl he | rfl

theorem Den_loop {kill : List Nat} {c : VCode} {s s1 : St} {r : VExit × St} (h1 : Den T c (killAll s kill) = some (.normal, s1)) (h2 : Den T (.loop kill c) s1 = some r) : Den T (.loop kill c) s = some r := by
  obtain ⟨k, hk⟩ := Den_some.1 h1
  obtain ⟨m, hm⟩ := Den_some.1 h2
  refine Den_some.2 ⟨max k m + 1, ?_⟩
  simp only [den, iter, Option.bind_eq_some_iff] at hm ⊢
  refine ⟨(.normal, s1), den_more (call_le (by omega)) (by omega) hk, ?_⟩
  simp only []
  exact iter_more (fun s r hr => den_more (call_le (by omega)) (by omega) hr) (Nat.le_max_right k m) hm

theorem Den_loop_exit {kill : List Nat} {c : VCode} {s s1 : St} {e : VExit} (he : e ≠ .normal) (h1 : Den T c (killAll s kill) = some (e, s1)) : Den T (.loop kill c) s = some (e, s1) := by
  obtain ⟨k, hk⟩ := Den_some.1 h1
  refine Den_some.2 ⟨k + 1, ?_⟩
  simp only [den, iter, Option.bind_eq_some_iff]
  refine ⟨(e, s1), den_more (call_le (by omega)) (by omega) hk, ?_⟩
  cases e <;> first | exact absurd rfl he | rfl

/-! ### evaluation with continuations -/
def chk {α : Type} (x : PV) (K : PV → Option α) : Option α := match x with
  | .undef => none
  | x => K x
def asPath {α : Type} (x : PV) (K : List Nat → Option α) : Option α := match x with
  | .ptr p => K p
  | _ => none
def isB {α : Type} (x : PV) (a b : Option α) : Option α := match x with
  | .bool true => a
  | .bool false => b
  | _ => none
/-- a guarded operation's value -/
def grd (x : PV) (want : Bool) (v : Option PV) : Option PV := match x with
  | .bool b => if b = want then v else some .undef
  | .undef => some .undef
  | _ => none
def pathK {α : Type} (s : St) (p : Option Nat) (K : List Nat → Option α) : Option α := match p with
  | none => K []
  | some t => asPath (get s t) K
def evK {α : Type} (s : St) (x : VX) (K : PV → Option α) : Option α := match x with
  | .tmp t => chk (get s t) K
  | .const v => K v
  | .deref r p => pathK s p fun q => chk (get s r) fun x => (getP q x).bind K
def evsK {α : Type} (s : St) : List VX → (List PV → Option α) → Option α
  | [], K => K []
  | x :: xs, K => evK s x fun v => evsK s xs fun vs => K (v :: vs)
def retV (n : Nat) (rs : List PV) : Option PV := if (rs.drop n).isEmpty then some (resultOf n rs) else none
def nilK {α : Type} (ys : List PV) (r : Option α) : Option α := match ys with
  | [] => r
  | _ => none
def consK {α : Type} (ys : List PV) (K : PV → List PV → Option α) : Option α := match ys with
  | y :: ys => K y ys
  | [] => none
def setRefsK {α : Type} (s : St) : List (Nat × Option Nat) → List PV → (St → Option α) → Option α
  | [], ys, K => nilK ys (K s)
  | (r, p) :: rs, ys, K => consK ys fun y ys => pathK s p fun q => chk (get s r) fun x => (setP q x y).bind fun z => setRefsK (s.set r z) rs ys K

def updMK {α : Type} (j v : PV) : List (Nat × List (Option (List Nat))) → St → (St → Option α) → Option α
  | [], s, K => K s
  | (r, ps) :: l, s, K => chk (get s r) fun y => (pickM ps j y v).bind fun z => updMK j v l (s.set r z) K

/-- the value of an operation that only defines its temporary -/
def valK (C : Env) (s : St) : VRhs → Option (Option PV)
  | .prim p xs => some (evsK s xs fun vs => p.run vs)
  | .pick c x y => some (evK s c fun b => isB b (evK s x some) (evK s y some))
  | .call f n xs [] => some (evsK s xs fun vs => (C f vs).bind fun rs => retV n rs)
  | _ => none
def rhsK {α : Type} (C : Env) (s : St) (d : Option Nat) (K : St → Option α) : VRhs → Option α
  | .store r p x => evK s x fun v => pathK s p fun q => chk (get s r) fun y => (setP q y v).bind fun z => K (s.set r z)
  | .call f n xs refs => evsK s xs fun vs => (C f vs).bind fun rs => setRefsK s refs (rs.drop n) fun s' => K (setOpt s' d (resultOf n rs))
  | .copy r x y => evK s x fun u => evK s y fun v => (Prim.copyTo.run [u, v]).bind fun z => (Prim.copyN.run [u, v]).bind fun n => K (setOpt (s.set r z) d n)
  | .storeM l p x => evK s x fun v => evK s p fun j => updMK j v l s K
  | _ => none
def opK {α : Type} (C : Env) (s : St) (o : VOp) (K : St → Option α) : Option α :=
  match valK C s o.rhs, o.guard with
  | some v, none => v.bind fun v => K (setOpt s o.dst v)
  | some v, some (g, want) => (grd (get s g) want v).bind fun v => K (setOpt s o.dst v)
  | none, none => rhsK C s o.dst K o.rhs
  | none, some _ => none
/-- a state, written out -/
noncomputable def forceL {β : Type} (l : St) : (St → β) → β := List.rec (motive := fun _ => (St → β) → β) (fun K => K []) (fun x _ ih K => ih fun xs => K (x :: xs)) l
noncomputable def opsK {α : Type} (C : Env) (os : List VOp) : St → (St → Option α) → Option α :=
  List.rec (motive := fun _ => St → (St → Option α) → Option α) (fun s K => K s) (fun o _ ih s K => opK C s o fun s => forceL s fun s => ih s K) os
theorem forceL_eq {β : Type} : ∀ (l : St) (K : St → β), forceL l K = K l
  | [], K => rfl
  | x :: l, K => forceL_eq l fun xs => K (x :: xs)
abbrev RK := VExit × St → Option (List PV)
def thenK (r : VExit × St) (N : St → Option (List PV)) (K : RK) : Option (List PV) := match r with
  | (.normal, s) => N s
  | r => K r
def unblock (id : Nat) (r : VExit × St) : VExit × St := match r with
  | (.exit id', s) => if id' = id then (.normal, s) else r
  | r => r
noncomputable def loopK (T : Nat → Option VFunc) (kill : List Nat) (c : VCode) (s : St) (K : RK) : Option (List PV) := (Den T (.loop kill c) s).bind K
def seqF (f : St → RK → Option (List PV)) (K : RK) : RK := fun r => thenK r (fun s => f s K) K
def blockK (id : Nat) (K : RK) : RK := fun r => K (unblock id r)
noncomputable def denK (T : Nat → Option VFunc) (v : VCode) : St → RK → Option (List PV) :=
  VCode.rec (motive := fun _ => St → RK → Option (List PV))
    (fun s K => K (.normal, s))
    (fun ops kill s K => opsK (Ans T) ops s fun s' => forceL (killAll s' kill) fun s' => K (.normal, s'))
    (fun _ _ iha ihb s K => iha s (seqF ihb K))
    (fun c _ _ iha ihb s K => evK s c fun v => isB v (iha s K) (ihb s K))
    (fun id _ ih s K => ih s (blockK id K))
    (fun kill c _ s K => loopK T kill c (killAll s kill) K)
    (fun id s K => K (.exit id, s))
    (fun s K => K (.ret, s)) v

/-- what comes behind code, inside a block, behind a round -/
noncomputable def seqK (T : Nat → Option VFunc) (b : VCode) (K : RK) : RK := seqF (denK T b) K
noncomputable def againK (T : Nat → Option VFunc) (kill : List Nat) (c : VCode) (K : RK) : RK := fun r => thenK r (fun s' => loopK T kill c (killAll s' kill) K) K

theorem chk_some {α : Type} {s : St} {t : Nat} {K : PV → Option α} {a : α} (h : chk (get s t) K = some a) : ∃ x, have? s t = some x ∧ K x = some a := by
  unfold chk at h
  unfold have?
  split at h
  · cases h
  · rename_i x hx
    refine ⟨get s t, ?_, h⟩
    split
    · rename_i hh; exact absurd hh hx
    · rfl

theorem pathK_some {α : Type} {s : St} {p : Option Nat} {K : List Nat → Option α} {a : α} (h : pathK s p K = some a) : ∃ q, pathAt s p = some q ∧ K q = some a := by
  cases p with
  | none => exact ⟨[], rfl, h⟩
  | some t =>
    simp only [pathK] at h
    unfold asPath at h
    split at h
    · rename_i q hq; exact ⟨q, by simp [pathAt, hq], h⟩
    · cases h

theorem evK_some {α : Type} {s : St} {x : VX} {K : PV → Option α} {a : α} (h : evK s x K = some a) : ∃ v, x.eval s = some v ∧ K v = some a := by
  cases x with
  | tmp t => exact chk_some h
  | const v => exact ⟨v, rfl, h⟩
  | deref r p =>
    simp only [evK] at h
    obtain ⟨q, h1, h2⟩ := pathK_some h
    obtain ⟨x, h3, h4⟩ := chk_some h2
    simp only [Option.bind_eq_some_iff] at h4
    obtain ⟨v, h5, h6⟩ := h4
    exact ⟨v, by simp [VX.eval, h1, h3, h5], h6⟩

theorem evsK_some {α : Type} {s : St} : ∀ {xs : List VX} {K : List PV → Option α} {a : α}, evsK s xs K = some a → ∃ vs, evals s xs = some vs ∧ K vs = some a
  | [], K, a, h => ⟨[], rfl, h⟩
  | x :: xs, K, a, h => by
    simp only [evsK] at h
    obtain ⟨v, h1, h2⟩ := evK_some h
    obtain ⟨vs, h3, h4⟩ := evsK_some h2
    exact ⟨v :: vs, by simp [evals, h1, h3], h4⟩

theorem setRefsK_some {α : Type} : ∀ {rs : List (Nat × Option Nat)} {s : St} {ys : List PV} {K : St → Option α} {a : α}, setRefsK s rs ys K = some a → ∃ s', setRefs s rs ys = some s' ∧ K s' = some a
  | [], s, ys, K, a, h => by
    simp only [setRefsK, nilK] at h
    split at h
    · exact ⟨s, rfl, h⟩
    · cases h
  | (r, p) :: rs, s, ys, K, a, h => by
    simp only [setRefsK, consK] at h
    split at h
    · obtain ⟨q, h1, h2⟩ := pathK_some h
      obtain ⟨x, h3, h4⟩ := chk_some h2
      simp only [Option.bind_eq_some_iff] at h4
      obtain ⟨z, h5, h6⟩ := h4
      obtain ⟨s', h7, h8⟩ := setRefsK_some h6
      exact ⟨s', by simp [setRefs, h1, h3, h5, h7], h8⟩
    · cases h

theorem valK_some {C : Env} {s : St} {d : Option Nat} {rhs : VRhs} {w : Option PV} {v : PV} (h : valK C s rhs = some w) (hv : w = some v) : rhs.run C s d = some (setOpt s d v) := by
  unfold valK at h
  split at h
  · rename_i p xs
    simp only [Option.some.injEq] at h
    subst h
    obtain ⟨vs, h1, h2⟩ := evsK_some hv
    simp [VRhs.run, h1, h2]
  · rename_i c x y
    simp only [Option.some.injEq] at h
    subst h
    obtain ⟨b, h1, h2⟩ := evK_some hv
    simp only [VRhs.run]
    rw [h1]
    unfold isB at h2
    split at h2
    · obtain ⟨u, h3, h4⟩ := evK_some h2
      cases h4
      simp [h3]
    · obtain ⟨u, h3, h4⟩ := evK_some h2
      cases h4
      simp [h3]
    · cases h2
  · rename_i f n xs
    simp only [Option.some.injEq] at h
    subst h
    obtain ⟨vs, h1, h2⟩ := evsK_some hv
    simp only [Option.bind_eq_some_iff] at h2
    obtain ⟨rs, h3, h4⟩ := h2
    unfold retV at h4
    split at h4
    · rename_i he
      cases h4
      have : rs.drop n = [] := List.isEmpty_iff.1 he
      simp [VRhs.run, h1, h3, this, setRefs]
    · cases h4
  · cases h

theorem updMK_some {α : Type} {j v : PV} : ∀ {l : List (Nat × List (Option (List Nat)))} {s : St} {K : St → Option α} {a : α}, updMK j v l s K = some a → ∃ s', updM j v l s = some s' ∧ K s' = some a
  | [], s, K, a, h => ⟨s, rfl, h⟩
  | (r, ps) :: l, s, K, a, h => by
    simp only [updMK] at h
    obtain ⟨y, h1, h⟩ := chk_some h
    simp only [Option.bind_eq_some_iff] at h
    obtain ⟨z, h2, h⟩ := h
    obtain ⟨s', h3, h4⟩ := updMK_some h
    exact ⟨s', by simp only [updM, h1, h2, h3, Option.bind_some], h4⟩

theorem opK_some {α : Type} {C : Env} {s : St} {o : VOp} {K : St → Option α} {a : α} (h : opK C s o K = some a) : ∃ s', o.run C s = some s' ∧ K s' = some a := by
  unfold opK at h
  split at h
  · rename_i v hv hg
    simp only [Option.bind_eq_some_iff] at h
    obtain ⟨w, h1, h2⟩ := h
    exact ⟨_, by unfold VOp.run; rw [hg]; exact valK_some hv h1, h2⟩
  · rename_i v g want hv hg
    simp only [Option.bind_eq_some_iff] at h
    obtain ⟨w, h1, h2⟩ := h
    refine ⟨_, ?_, h2⟩
    unfold VOp.run
    rw [hg]
    simp only []
    unfold grd at h1
    split at h1
    · rename_i b hb
      rw [hb]
      simp only []
      split at h1
      · rename_i he; rw [if_pos he]; exact valK_some hv h1
      · rename_i he; rw [if_neg he]; cases h1; rfl
    · rename_i hb
      rw [hb]
      simp only []
      cases h1; rfl
    · cases h1
  · rename_i hv hg
    have key : ∃ s', o.rhs.run C s o.dst = some s' ∧ K s' = some a := by
      generalize o.rhs = rhs at hv h
      cases rhs with
      | prim p xs => simp [valK] at hv
      | pick c x y => simp [valK] at hv
      | store r p x =>
        simp only [rhsK] at h
        obtain ⟨v, h1, h⟩ := evK_some h
        obtain ⟨q, h2, h⟩ := pathK_some h
        obtain ⟨y, h3, h⟩ := chk_some h
        simp only [Option.bind_eq_some_iff] at h
        obtain ⟨z, h4, h⟩ := h
        exact ⟨_, by simp only [VRhs.run, h1, h2, h3, h4, Option.bind_some, Option.map_some], h⟩
      | call f n xs refs =>
        simp only [rhsK] at h
        obtain ⟨vs, h1, h⟩ := evsK_some h
        simp only [Option.bind_eq_some_iff] at h
        obtain ⟨rs, h2, h⟩ := h
        obtain ⟨s', h3, h⟩ := setRefsK_some h
        exact ⟨_, by simp only [VRhs.run, h1, h2, h3, Option.bind_some, Option.map_some], h⟩
      | copy r x y =>
        simp only [rhsK] at h
        obtain ⟨u, h1, h⟩ := evK_some h
        obtain ⟨v, h2, h⟩ := evK_some h
        simp only [Option.bind_eq_some_iff] at h
        obtain ⟨z, h3, n, h4, h⟩ := h
        exact ⟨_, by simp only [VRhs.run, h1, h2, h3, h4, Option.bind_some, Option.map_some], h⟩
      | storeM l p x =>
        simp only [rhsK] at h
        obtain ⟨v, h1, h⟩ := evK_some h
        obtain ⟨j, h2, h⟩ := evK_some h
        obtain ⟨s', h3, h⟩ := updMK_some h
        exact ⟨s', by simp only [VRhs.run, h1, h2, h3, Option.bind_some], h⟩
    obtain ⟨s', h1, h2⟩ := key
    exact ⟨s', by unfold VOp.run; rw [hg]; exact h1, h2⟩
  · cases h

theorem opsK_some {α : Type} {C : Env} : ∀ {os : List VOp} {s : St} {K : St → Option α} {a : α}, opsK C os s K = some a → ∃ s', runOps C os s = some s' ∧ K s' = some a
  | [], s, K, a, h => ⟨s, rfl, h⟩
  | o :: os, s, K, a, h => by
    have h : opK C s o (fun s => forceL s fun s => opsK C os s K) = some a := h
    simp only [forceL_eq] at h
    obtain ⟨s1, h1, h2⟩ := opK_some h
    obtain ⟨s2, h3, h4⟩ := opsK_some h2
    exact ⟨s2, by simp [runOps, h1, h3], h4⟩

theorem killAll_idem : ∀ (ks : List Nat) (s : St), killAll (killAll s ks) ks = killAll s ks := by
  intro ks s
  have hlen : ∀ (ks : List Nat) (s : St), (killAll s ks).length = s.length := by
    intro ks
    induction ks with
    | nil => intro s; rfl
    | cons d ds ih => intro s; simp only [killAll]; rw [ih]; simp
  have hget : ∀ (ks : List Nat) (s : St) (i : Nat), (killAll s ks)[i]? = if i ∈ ks ∧ i < s.length then some .undef else s[i]? := by
    intro ks
    induction ks with
    | nil => intro s i; simp [killAll]
    | cons d ds ih =>
      intro s i
      simp only [killAll]
      rw [ih]
      simp only [List.length_set, List.mem_cons]
      by_cases hi : i ∈ ds ∧ i < s.length
      · rw [if_pos hi, if_pos ⟨.inr hi.1, hi.2⟩]
      · rw [if_neg hi, List.getElem?_set]
        by_cases hd : d = i
        · subst hd
          by_cases hl : d < s.length
          · simp [hl]
          · simp [hl]
        · rw [if_neg hd, if_neg]
          rintro ⟨h1 | h1, h2⟩
          · exact hd h1.symm
          · exact hi ⟨h1, h2⟩
  apply List.ext_getElem?
  intro i
  rw [hget, hlen]
  split
  · rename_i h; rw [hget, if_pos h]
  · rfl

theorem Den_loop_kill {kill : List Nat} {c : VCode} {s : St} {r : VExit × St} (h : Den T (.loop kill c) (killAll s kill) = some r) : Den T (.loop kill c) s = some r := by
  obtain ⟨k, hk⟩ := Den_some.1 h
  refine Den_some.2 ⟨k, ?_⟩
  simp only [den] at hk ⊢
  cases k with
  | zero => simp [iter] at hk
  | succ k =>
    simp only [iter] at hk ⊢
    rw [killAll_idem] at hk
    exact hk

/-- **What the continuations give, the value language computes.** -/
theorem denK_some : ∀ {v : VCode} {s : St} {K : RK} {a : List PV}, denK T v s K = some a → ∃ r, Den T v s = some r ∧ K r = some a := by
  intro v
  induction v with
  | skip => intro s K a h; exact ⟨_, Den_some.2 ⟨0, rfl⟩, h⟩
  | region ops kill =>
    intro s K a h
    have h : opsK (Ans T) ops s (fun s' => forceL (killAll s' kill) fun s' => K (.normal, s')) = some a := h
    simp only [forceL_eq] at h
    obtain ⟨s', h1, h2⟩ := opsK_some h
    exact ⟨_, Den_region h1, h2⟩
  | seq x y ihx ihy =>
    intro s K a h
    obtain ⟨⟨e, s1⟩, h1, h2⟩ := ihx h
    cases e with
    | normal =>
      obtain ⟨r, h3, h4⟩ := ihy (show denK T y s1 K = some a from h2)
      exact ⟨r, Den_seq h1 h3, h4⟩
    | exit id => exact ⟨_, Den_seq_exit (by simp) h1, h2⟩
    | ret => exact ⟨_, Den_seq_exit (by simp) h1, h2⟩
  | cond c x y ihx ihy =>
    intro s K a h
    obtain ⟨v, h1, h2⟩ := evK_some h
    unfold isB at h2
    split at h2
    · obtain ⟨r, h3, h4⟩ := ihx h2
      obtain ⟨k, hk⟩ := Den_some.1 h3
      exact ⟨r, Den_some.2 ⟨k, by simp only [den]; rw [h1]; exact hk⟩, h4⟩
    · obtain ⟨r, h3, h4⟩ := ihy h2
      obtain ⟨k, hk⟩ := Den_some.1 h3
      exact ⟨r, Den_some.2 ⟨k, by simp only [den]; rw [h1]; exact hk⟩, h4⟩
    · cases h2
  | block id c ih =>
    intro s K a h
    obtain ⟨r, h1, h2⟩ := ih h
    obtain ⟨k, hk⟩ := Den_some.1 h1
    refine ⟨_, Den_some.2 ⟨k, ?_⟩, h2⟩
    simp only [den]
    rw [hk]
    simp only [Option.map_some, Option.some.injEq]
    obtain ⟨e, s1⟩ := r
    cases e <;> rfl
  | loop kill c ih =>
    intro s K a h
    have h : loopK T kill c (killAll s kill) K = some a := h
    simp only [loopK, Option.bind_eq_some_iff] at h
    obtain ⟨r, h1, h2⟩ := h
    exact ⟨r, Den_loop_kill h1, h2⟩
  | exit id => intro s K a h; exact ⟨_, Den_some.2 ⟨0, rfl⟩, h⟩
  | ret => intro s K a h; exact ⟨_, Den_some.2 ⟨0, rfl⟩, h⟩

/-- one round of a loop -/
theorem loopK_of {kill : List Nat} {c : VCode} {s : St} {K : RK} {a : List PV} (h : denK T c (killAll s kill) (againK T kill c K) = some a) : loopK T kill c s K = some a := by
  obtain ⟨⟨e, s1⟩, h1, h2⟩ := denK_some h
  unfold loopK
  rw [Option.bind_eq_some_iff]
  cases e with
  | normal =>
    simp only [againK, thenK, loopK, Option.bind_eq_some_iff] at h2
    obtain ⟨r, h3, h4⟩ := h2
    exact ⟨r, Den_loop h1 (Den_loop_kill h3), h4⟩
  | exit id => exact ⟨_, Den_loop_exit (by simp) h1, h2⟩
  | ret => exact ⟨_, Den_loop_exit (by simp) h1, h2⟩

/-- at the end of a function -/
def endK (l : List Nat) : RK := fun r => match r with
  | (.exit _, _) => none
  | (_, s) => allDef (l.map (get s))

/-- **A function**, by its text. -/
theorem call_of {f : Nat} {F : VFunc} (hT : T f = some F) {xs rs : List PV} (h : (forceL (xs ++ List.replicate (F.n - xs.length) .undef) fun s => denK T F.body s (endK (F.results ++ F.refs))) = some rs) : Ans T f xs = some rs := by
  rw [forceL_eq] at h
  obtain ⟨⟨e, s⟩, h1, h2⟩ := denK_some h
  obtain ⟨k, hk⟩ := Den_some.1 h1
  refine Ans_some.2 ⟨k + 1, ?_⟩
  simp only [call]
  rw [hT, Option.bind_some]
  unfold VFunc.run
  rw [hk, Option.bind_some]
  cases e <;> exact h2

end
end Go.Vm

/-
  How the value language's text is worked out: rules for 'simp'.
  Conditions: none.
-/
set_option linter.unusedVariables false
set_option linter.unusedSimpArgs false
namespace Go.Vm

section
variable {α : Type}
@[simp] theorem chk_bool (b : Bool) (K : PV → Option α) : chk (.bool b) K = K (.bool b) := rfl
@[simp] theorem chk_int (k : IntKind) (n : Int) (K : PV → Option α) : chk (.int k n) K = K (.int k n) := rfl
@[simp] theorem chk_str (s : List UInt8) (K : PV → Option α) : chk (.str s) K = K (.str s) := rfl
@[simp] theorem chk_agg (xs : List PV) (K : PV → Option α) : chk (.agg xs) K = K (.agg xs) := rfl
@[simp] theorem chk_slice (nl : Bool) (xs : List PV) (K : PV → Option α) : chk (.slice nl xs) K = K (.slice nl xs) := rfl
@[simp] theorem chk_tup (xs : List PV) (K : PV → Option α) : chk (.tup xs) K = K (.tup xs) := rfl
@[simp] theorem chk_ptr (p : List Nat) (K : PV → Option α) : chk (.ptr p) K = K (.ptr p) := rfl
@[simp] theorem asPath_ptr (p : List Nat) (K : List Nat → Option α) : asPath (.ptr p) K = K p := rfl
@[simp] theorem isB_bool (b : Bool) (x y : Option α) : isB (.bool b) x y = if b = true then x else y := by cases b <;> rfl
@[simp] theorem grd_bool (b w : Bool) (v : Option PV) : grd (.bool b) w v = if b = w then v else some .undef := rfl
@[simp] theorem grd_undef (w : Bool) (v : Option PV) : grd .undef w v = some .undef := rfl
@[simp] theorem nilK_nil (r : Option α) : nilK [] r = r := rfl
@[simp] theorem consK_cons (y : PV) (ys : List PV) (K : PV → List PV → Option α) : consK (y :: ys) K = K y ys := rfl
@[simp] theorem thenK_normal (s : St) (N : St → Option (List PV)) (K : RK) : thenK (.normal, s) N K = N s := rfl
@[simp] theorem thenK_ret (s : St) (N : St → Option (List PV)) (K : RK) : thenK (.ret, s) N K = K (.ret, s) := rfl
@[simp] theorem thenK_exit (i : Nat) (s : St) (N : St → Option (List PV)) (K : RK) : thenK (.exit i, s) N K = K (.exit i, s) := rfl
@[simp] theorem unblock_normal (i : Nat) (s : St) : unblock i (.normal, s) = (.normal, s) := rfl
@[simp] theorem unblock_ret (i : Nat) (s : St) : unblock i (.ret, s) = (.ret, s) := rfl
@[simp] theorem unblock_exit (i j : Nat) (s : St) : unblock i (.exit j, s) = if j = i then (.normal, s) else (.exit j, s) := rfl
@[simp] theorem seqK_normal (T : Nat → Option VFunc) (b : VCode) (K : RK) (s : St) : seqK T b K (.normal, s) = denK T b s K := rfl
@[simp] theorem seqK_ret (T : Nat → Option VFunc) (b : VCode) (K : RK) (s : St) : seqK T b K (.ret, s) = K (.ret, s) := rfl
@[simp] theorem seqK_exit (T : Nat → Option VFunc) (b : VCode) (K : RK) (i : Nat) (s : St) : seqK T b K (.exit i, s) = K (.exit i, s) := rfl
@[simp] theorem blockK_normal (i : Nat) (K : RK) (s : St) : blockK i K (.normal, s) = K (.normal, s) := rfl
@[simp] theorem blockK_ret (i : Nat) (K : RK) (s : St) : blockK i K (.ret, s) = K (.ret, s) := rfl
@[simp] theorem blockK_exit (i j : Nat) (K : RK) (s : St) : blockK i K (.exit j, s) = if j = i then K (.normal, s) else K (.exit j, s) := by
  unfold blockK; rw [unblock_exit]; split <;> rfl
@[simp] theorem againK_ret (T : Nat → Option VFunc) (kill : List Nat) (c : VCode) (K : RK) (s : St) : againK T kill c K (.ret, s) = K (.ret, s) := rfl
@[simp] theorem againK_exit (T : Nat → Option VFunc) (kill : List Nat) (c : VCode) (K : RK) (i : Nat) (s : St) : againK T kill c K (.exit i, s) = K (.exit i, s) := rfl
@[simp] theorem endK_exit (l : List Nat) (i : Nat) (s : St) : endK l (.exit i, s) = none := rfl
@[simp] theorem endK_ret (l : List Nat) (s : St) : endK l (.ret, s) = allDef (l.map (Vm.get s)) := rfl
@[simp] theorem endK_normal (l : List Nat) (s : St) : endK l (.normal, s) = allDef (l.map (Vm.get s)) := rfl
@[simp] theorem ret1 (x : PV) : retV 1 [x] = some x := rfl
@[simp] theorem ret2 (x y : PV) : retV 2 [x, y] = some (.tup [x, y]) := rfl
@[simp] theorem ret3 (x y z : PV) : retV 3 [x, y, z] = some (.tup [x, y, z]) := rfl
@[simp] theorem ret4 (x y z u : PV) : retV 4 [x, y, z, u] = some (.tup [x, y, z, u]) := rfl
@[simp] theorem ret0 : retV 0 [] = some (.tup []) := rfl
@[simp] theorem allDef_nil : allDef [] = some [] := rfl
@[simp] theorem allDef_bool (b : Bool) (l : List PV) : allDef (.bool b :: l) = (allDef l).map (.bool b :: ·) := rfl
@[simp] theorem allDef_int (k : IntKind) (n : Int) (l : List PV) : allDef (.int k n :: l) = (allDef l).map (.int k n :: ·) := rfl
@[simp] theorem allDef_str (s : List UInt8) (l : List PV) : allDef (.str s :: l) = (allDef l).map (.str s :: ·) := rfl
@[simp] theorem allDef_agg (s : List PV) (l : List PV) : allDef (.agg s :: l) = (allDef l).map (.agg s :: ·) := rfl
@[simp] theorem allDef_slice (nl : Bool) (s : List PV) (l : List PV) : allDef (.slice nl s :: l) = (allDef l).map (.slice nl s :: ·) := rfl

@[simp] theorem getP_nil (x : PV) : getP [] x = some x := by cases x <;> rfl
@[simp] theorem getP_agg (i : Nat) (p : List Nat) (xs : List PV) : getP (i :: p) (.agg xs) = (xs[i]?).bind (getP p) := rfl
@[simp] theorem getP_slice (i : Nat) (p : List Nat) (nl : Bool) (xs : List PV) : getP (i :: p) (.slice nl xs) = (xs[i]?).bind (getP p) := rfl
@[simp] theorem setP_nil (x y : PV) : setP [] x y = some y := by cases x <;> rfl
@[simp] theorem setP_agg (i : Nat) (p : List Nat) (xs : List PV) (y : PV) : setP (i :: p) (.agg xs) y = (xs[i]?).bind fun x => (setP p x y).map fun z => .agg (xs.set i z) := rfl
@[simp] theorem setP_slice (i : Nat) (p : List Nat) (nl : Bool) (xs : List PV) (y : PV) : setP (i :: p) (.slice nl xs) y = (xs[i]?).bind fun x => (setP p x y).map fun z => .slice nl (xs.set i z) := rfl
@[simp] theorem resultOf1 (x : PV) (l : List PV) : resultOf 1 (x :: l) = x := rfl

@[simp] theorem run_mov (x : PV) : Prim.run .mov [x] = some x := rfl
@[simp] theorem run_fptr (f : Nat) (p : List Nat) : Prim.run (.fptr f) [.ptr p] = some (.ptr (p ++ [f])) := rfl
@[simp] theorem run_aptr (n : Nat) (p : List Nat) (k : IntKind) (i : Int) : Prim.run (.aptr n) [.ptr p, .int k i] = if 0 ≤ i ∧ i < n then some (.ptr (p ++ [i.toNat])) else none := rfl
@[simp] theorem run_iptr (b : List Nat) (nl : Bool) (xs : List PV) (k : IntKind) (i : Int) : Prim.run (.iptr b) [.slice nl xs, .int k i] = if 0 ≤ i ∧ i < xs.length then some (.ptr (b ++ [i.toNat])) else none := rfl
@[simp] theorem run_load (x : PV) (p : List Nat) : Prim.run .load [x, .ptr p] = getP p x := by cases x <;> rfl
@[simp] theorem run_len_str (s : List UInt8) : Prim.run .len [.str s] = some (.int .i64 s.length) := rfl
@[simp] theorem run_len_slice (nl : Bool) (s : List PV) : Prim.run .len [.slice nl s] = some (.int .i64 s.length) := rfl
@[simp] theorem run_len_agg (s : List PV) : Prim.run .len [.agg s] = some (.int .i64 s.length) := rfl
@[simp] theorem run_not (b : Bool) : Prim.run (.un .not) [.bool b] = some (.bool !b) := rfl
@[simp] theorem run_ext (i : Nat) (xs : List PV) : Prim.run (.ext i) [.tup xs] = xs[i]? := rfl
@[simp] theorem run_field (i : Nat) (xs : List PV) : Prim.run (.field i) [.agg xs] = xs[i]? := rfl
@[simp] theorem run_isNil (n nl : Bool) (xs : List PV) : Prim.run (.isNil n) [.slice nl xs] = some (.bool (nl != n)) := rfl
@[simp] theorem run_toInt (k k' : IntKind) (n : Int) : Prim.run (.toInt k) [.int k' n] = some (.int k (k.wrap n)) := rfl
@[simp] theorem run_toBytes (s : List UInt8) : Prim.run .toBytes [.str s] = some (.slice false (bytesPV s)) := rfl
@[simp] theorem run_toStr_str (s : List UInt8) : Prim.run .toStr [.str s] = some (.str s) := rfl
@[simp] theorem run_toStr_slice (nl : Bool) (xs : List PV) : Prim.run .toStr [.slice nl xs] = (unbytes xs).map .str := rfl
@[simp] theorem run_min (k k' : IntKind) (a b : Int) : Prim.run .minI [.int k a, .int k' b] = some (.int k (if b < a then b else a)) := rfl
@[simp] theorem run_max (k k' : IntKind) (a b : Int) : Prim.run .maxI [.int k a, .int k' b] = some (.int k (if a < b then b else a)) := rfl
@[simp] theorem run_index_agg (xs : List PV) (k : IntKind) (i : Int) : Prim.run .index [.agg xs, .int k i] = if 0 ≤ i then xs[i.toNat]? else none := rfl
@[simp] theorem run_index_str (s : List UInt8) (k : IntKind) (i : Int) : Prim.run .index [.str s, .int k i] = if 0 ≤ i then (s[i.toNat]?).map fun b => .int .u8 b.toNat else none := rfl
@[simp] theorem run_tup (xs : List PV) : Prim.run .tup xs = some (.tup xs) := rfl
@[simp] theorem run_app (e : Nat) (nl nl' : Bool) (xs ys : List PV) : Prim.run (.app e) [.slice nl xs, .slice nl' ys] = if (xs.length + ys.length) * e ≤ 140737488355328 then some (.slice (nl && ys.isEmpty) (xs ++ ys)) else none := rfl
@[simp] theorem run_app_str (e : Nat) (nl : Bool) (xs : List PV) (s : List UInt8) : Prim.run (.app e) [.slice nl xs, .str s] = if (xs.length + s.length) * e ≤ 140737488355328 then some (.slice (nl && s.isEmpty) (xs ++ bytesPV s)) else none := rfl
@[simp] theorem run_build (z : List PV) (is : List Nat) (xs : List PV) : Prim.run (.build z is) xs = if is.length = xs.length then (setAll z (is.zip xs)).map .agg else none := rfl
@[simp] theorem run_buildSl (z : PV) (n : Nat) (is : List Nat) (xs : List PV) : Prim.run (.buildSl z n is) xs = if is.length = xs.length then (setAll (List.replicate n z) (is.zip xs)).map (.slice false) else none := rfl
@[simp] theorem run_mkSl (z : PV) (e : Nat) (k k' : IntKind) (l c : Int) : Prim.run (.mkSl z e) [.int k l, .int k' c] = if 0 ≤ l ∧ l ≤ c ∧ c ≤ 9223372036854775807 ∧ c.toNat * e ≤ 140737488355328 then some (.slice false (List.replicate l.toNat z)) else none := rfl
@[simp] theorem run_copyTo (nl nl' : Bool) (xs ys : List PV) : Prim.run .copyTo [.slice nl xs, .slice nl' ys] = some (.slice nl (ys.take xs.length ++ xs.drop ys.length)) := rfl
@[simp] theorem run_copyN (nl nl' : Bool) (xs ys : List PV) : Prim.run .copyN [.slice nl xs, .slice nl' ys] = some (.int .i64 (min ys.length xs.length)) := by rfl
@[simp] theorem setAll_nil (xs : List PV) : setAll xs [] = some xs := rfl
@[simp] theorem setAll_cons (xs : List PV) (i : Nat) (y : PV) (r : List (Nat × PV)) : setAll xs ((i, y) :: r) = if i < xs.length then setAll (xs.set i y) r else none := rfl

/-! ints -/
@[simp] theorem run_add (k : IntKind) (a b : Int) : Prim.run (.bin .add) [.int k a, .int k b] = some (.int k (k.wrap (a + b))) := by simp [Prim.run, two, Vm.bin, isShift, binI]
@[simp] theorem run_sub (k : IntKind) (a b : Int) : Prim.run (.bin .sub) [.int k a, .int k b] = some (.int k (k.wrap (a - b))) := by simp [Prim.run, two, Vm.bin, isShift, binI]
@[simp] theorem run_mul (k : IntKind) (a b : Int) : Prim.run (.bin .mul) [.int k a, .int k b] = some (.int k (k.wrap (a * b))) := by simp [Prim.run, two, Vm.bin, isShift, binI]
@[simp] theorem run_quo (k : IntKind) (a b : Int) : Prim.run (.bin .quo) [.int k a, .int k b] = if b = 0 then none else some (.int k (k.wrap (a.tdiv b))) := by simp [Prim.run, two, Vm.bin, isShift, binI]
@[simp] theorem run_rem (k : IntKind) (a b : Int) : Prim.run (.bin .rem) [.int k a, .int k b] = if b = 0 then none else some (.int k (a.tmod b)) := by simp [Prim.run, two, Vm.bin, isShift, binI]
@[simp] theorem run_and (k : IntKind) (a b : Int) : Prim.run (.bin .and) [.int k a, .int k b] = some (.int k (bitsI (fun _ x y => x &&& y) k a b)) := by simp [Prim.run, two, Vm.bin, isShift, binI]
@[simp] theorem run_or (k : IntKind) (a b : Int) : Prim.run (.bin .or) [.int k a, .int k b] = some (.int k (bitsI (fun _ x y => x ||| y) k a b)) := by simp [Prim.run, two, Vm.bin, isShift, binI]
@[simp] theorem run_xor (k : IntKind) (a b : Int) : Prim.run (.bin .xor) [.int k a, .int k b] = some (.int k (bitsI (fun _ x y => x ^^^ y) k a b)) := by simp [Prim.run, two, Vm.bin, isShift, binI]
@[simp] theorem run_eql (k : IntKind) (a b : Int) : Prim.run (.bin .eql) [.int k a, .int k b] = some (.bool (decide (a = b))) := by simp [Prim.run, two, Vm.bin, isShift, binI, cmpI]
@[simp] theorem run_neq (k : IntKind) (a b : Int) : Prim.run (.bin .neq) [.int k a, .int k b] = some (.bool (!decide (a = b))) := by simp [Prim.run, two, Vm.bin, isShift, binI, cmpI]
@[simp] theorem run_lss (k : IntKind) (a b : Int) : Prim.run (.bin .lss) [.int k a, .int k b] = some (.bool (decide (a < b))) := by simp [Prim.run, two, Vm.bin, isShift, binI, cmpI]
@[simp] theorem run_leq (k : IntKind) (a b : Int) : Prim.run (.bin .leq) [.int k a, .int k b] = some (.bool (decide (a ≤ b))) := by simp [Prim.run, two, Vm.bin, isShift, binI, cmpI]
@[simp] theorem run_gtr (k : IntKind) (a b : Int) : Prim.run (.bin .gtr) [.int k a, .int k b] = some (.bool (decide (b < a))) := by simp [Prim.run, two, Vm.bin, isShift, binI, cmpI]
@[simp] theorem run_geq (k : IntKind) (a b : Int) : Prim.run (.bin .geq) [.int k a, .int k b] = some (.bool (decide (b ≤ a))) := by simp [Prim.run, two, Vm.bin, isShift, binI, cmpI]
@[simp] theorem run_shl (k k' : IntKind) (a b : Int) : Prim.run (.bin .shl) [.int k a, .int k' b] = if b < 0 then none else some (.int k (k.wrap (a * 2 ^ (min b.toNat k.bits)))) := by simp [Prim.run, two, Vm.bin, isShift, shiftI]
@[simp] theorem run_shr (k k' : IntKind) (a b : Int) : Prim.run (.bin .shr) [.int k a, .int k' b] = if b < 0 then none else some (.int k (a.fdiv (2 ^ (min b.toNat k.bits)))) := by simp [Prim.run, two, Vm.bin, isShift, shiftI]
@[simp] theorem run_neg (k : IntKind) (a : Int) : Prim.run (.un .neg) [.int k a] = some (.int k (k.wrap (0 - a))) := rfl
@[simp] theorem run_eqlS (x y : List UInt8) : Prim.run (.bin .eql) [.str x, .str y] = some (.bool (x == y)) := rfl
@[simp] theorem run_neqS (x y : List UInt8) : Prim.run (.bin .neq) [.str x, .str y] = some (.bool !(x == y)) := rfl
@[simp] theorem run_addS (x y : List UInt8) : Prim.run (.bin .add) [.str x, .str y] = if x.length + y.length ≤ 9223372036854775807 then some (.str (x ++ y)) else none := rfl
@[simp] theorem run_lssS (x y : List UInt8) : Prim.run (.bin .lss) [.str x, .str y] = some (.bool (Op.bytesLess x y)) := rfl

theorem bound_some (k : IntKind) (n : Int) (y : Nat) (d : Nat) : bound (some (.int k n)) d y = if 0 ≤ n ∧ n ≤ y then some n.toNat else none := rfl
@[simp] theorem run_sl3 (nl : Bool) (xs : List PV) (k k' : IntKind) (h m : Int) : Prim.run (.sl3 false) [.slice nl xs, .int k h, .int k' m] = if h = m then if 0 ≤ h ∧ h ≤ xs.length then some (.slice nl (xs.take h.toNat)) else none else none := by
  simp only [Prim.run, sl3V, intOf, List.getElem?_cons_zero, List.getElem?_cons_succ, Bool.false_eq_true, if_false, Option.bind_some, bound_some]
  split
  · split <;> simp [bound, sub]
  · rfl
@[simp] theorem run_sl_tt (nl : Bool) (xs : List PV) (k k' : IntKind) (l h : Int) : Prim.run (.sl true true) [.slice nl xs, .int k l, .int k' h] = if 0 ≤ h ∧ h ≤ xs.length then if 0 ≤ l ∧ l ≤ h then some (.slice nl ((xs.take h.toNat).drop l.toNat)) else none else none := by
  simp only [Prim.run, slV, List.getElem?_cons_zero, List.getElem?_cons_succ, if_true, bound_some]
  split
  · rename_i hh
    simp only [Option.bind_some]
    by_cases hl : 0 ≤ l ∧ l ≤ h
    · rw [if_pos ⟨hl.1, by omega⟩, if_pos hl]; rfl
    · rw [if_neg (by omega), if_neg hl]; rfl
  · rfl
@[simp] theorem run_sl_tf (nl : Bool) (xs : List PV) (k : IntKind) (l : Int) : Prim.run (.sl true false) [.slice nl xs, .int k l] = if 0 ≤ l ∧ l ≤ xs.length then some (.slice nl (xs.drop l.toNat)) else none := by
  simp only [Prim.run, slV, List.getElem?_cons_zero, if_true, bound_some, Bool.false_eq_true, if_false, bound, Nat.le_refl, Option.bind_some]
  split
  · simp [sub]
  · rfl
@[simp] theorem run_sl_ft (nl : Bool) (xs : List PV) (k : IntKind) (h : Int) : Prim.run (.sl false true) [.slice nl xs, .int k h] = if 0 ≤ h ∧ h ≤ xs.length then some (.slice nl (xs.take h.toNat)) else none := by
  simp only [Prim.run, slV, List.getElem?_cons_zero, if_true, bound_some, Bool.false_eq_true, if_false]
  split
  · simp [sub, bound]
  · rfl
@[simp] theorem run_slS_tt (xs : List UInt8) (k k' : IntKind) (l h : Int) : Prim.run (.sl true true) [.str xs, .int k l, .int k' h] = if 0 ≤ h ∧ h ≤ xs.length then if 0 ≤ l ∧ l ≤ h then some (.str ((xs.take h.toNat).drop l.toNat)) else none else none := by
  simp only [Prim.run, slV, List.getElem?_cons_zero, List.getElem?_cons_succ, if_true, bound_some]
  split
  · rename_i hh
    simp only [Option.bind_some]
    by_cases hl : 0 ≤ l ∧ l ≤ h
    · rw [if_pos ⟨hl.1, by omega⟩, if_pos hl]; rfl
    · rw [if_neg (by omega), if_neg hl]; rfl
  · rfl
@[simp] theorem run_slS_tf (xs : List UInt8) (k : IntKind) (l : Int) : Prim.run (.sl true false) [.str xs, .int k l] = if 0 ≤ l ∧ l ≤ xs.length then some (.str (xs.drop l.toNat)) else none := by
  simp only [Prim.run, slV, List.getElem?_cons_zero, if_true, bound_some, Bool.false_eq_true, if_false, bound, Nat.le_refl, Option.bind_some]
  split
  · simp [sub]
  · rfl
@[simp] theorem run_slS_ft (xs : List UInt8) (k : IntKind) (h : Int) : Prim.run (.sl false true) [.str xs, .int k h] = if 0 ≤ h ∧ h ≤ xs.length then some (.str (xs.take h.toNat)) else none := by
  simp only [Prim.run, slV, List.getElem?_cons_zero, if_true, bound_some, Bool.false_eq_true, if_false]
  split
  · simp [sub, bound]
  · rfl

theorem wrap_id {k : IntKind} {n : Int} (h1 : k.min ≤ n) (h2 : n ≤ k.max) : k.wrap n = n := by
  cases k <;> simp [IntKind.wrap, IntKind.min, IntKind.max, IntKind.signed, IntKind.bits] at h1 h2 ⊢ <;> (try split) <;> omega
theorem wrap_i64 {n : Int} (h1 : -9223372036854775808 ≤ n) (h2 : n ≤ 9223372036854775807) : IntKind.i64.wrap n = n := wrap_id h1 h2
end
@[simp] theorem get_cons0 (x : PV) (l : List PV) : get (x :: l) 0 = x := rfl
@[simp] theorem get_cons (x : PV) (l : List PV) (n : Nat) : get (x :: l) (n + 1) = get l n := by simp [get]
end Go.Vm

/-
  Bytes and ints, for the laws.
  Conditions: none.
-/
set_option linter.unusedVariables false
set_option linter.unusedSimpArgs false
namespace Go.Vm

@[simp] theorem bytesPV_len (s : List UInt8) : (bytesPV s).length = s.length := by simp [bytesPV]
theorem bytesPV_get (s : List UInt8) (i : Nat) : (bytesPV s)[i]? = (s[i]?).map fun b => .int .u8 b.toNat := by simp [bytesPV]
theorem bytesPV_set (s : List UInt8) (i : Nat) (v : UInt8) : (bytesPV s).set i (.int .u8 v.toNat) = bytesPV (s.set i v) := by simp [bytesPV, List.map_set]
theorem bytesPV_append (s t : List UInt8) : bytesPV (s ++ t) = bytesPV s ++ bytesPV t := by simp [bytesPV]
theorem bytesPV_cons (b : UInt8) (t : List UInt8) : bytesPV (b :: t) = .int .u8 b.toNat :: bytesPV t := by simp [bytesPV]
@[simp] theorem bytesPV_nil : bytesPV [] = [] := rfl
theorem bytesPV_take (s : List UInt8) (n : Nat) : (bytesPV s).take n = bytesPV (s.take n) := by simp [bytesPV, List.map_take]
theorem bytesPV_drop (s : List UInt8) (n : Nat) : (bytesPV s).drop n = bytesPV (s.drop n) := by simp [bytesPV, List.map_drop]
@[simp] theorem unbytes_bytesPV (s : List UInt8) : unbytes (bytesPV s) = some s := by
  induction s with
  | nil => rfl
  | cons b s ih =>
    rw [bytesPV_cons]
    simp [unbytes, ih]

theorem u8_wrap (b : UInt8) : IntKind.u8.wrap (b.toNat : Int) = (b.toNat : Int) := by
  have := b.toNat_lt
  exact wrap_id (by simp [IntKind.min, IntKind.signed]) (by simp [IntKind.max, IntKind.signed, IntKind.bits]; omega)

theorem xor8 (a b : UInt8) : bitsI (fun _ x y => x ^^^ y) .u8 (a.toNat : Int) (b.toNat : Int) = ((a ^^^ b).toNat : Int) := by
  have h : (BitVec.ofInt IntKind.u8.bits (a.toNat : Int) ^^^ BitVec.ofInt IntKind.u8.bits (b.toNat : Int)).toNat = (a ^^^ b).toNat := by
    have ha := a.toNat_lt
    have hb := b.toNat_lt
    simp [IntKind.bits, UInt8.toNat_xor, BitVec.ofInt_natCast]
    exact BitVec.toNat_xor _ _
  unfold bitsI
  rw [h]
  exact u8_wrap _

theorem xor_ne {a m : UInt8} (hm : m ≠ 0) : a ^^^ m ≠ a := fun h => by
  have : a ^^^ (a ^^^ m) = a ^^^ a := by rw [h]
  rw [← UInt8.xor_assoc, UInt8.xor_self, UInt8.zero_xor] at this
  exact hm this
theorem xor_xor (a m : UInt8) : (a ^^^ m) ^^^ m = a := by rw [UInt8.xor_assoc, UInt8.xor_self, UInt8.xor_zero]

def bitU (k : Nat) : UInt8 := UInt8.ofNat (2 ^ (k % 8))
theorem bitU_nat (k : Nat) : (bitU k).toNat = 2 ^ (k % 8) := by
  unfold bitU
  have h : k % 8 < 8 := Nat.mod_lt _ (by omega)
  have : 2 ^ (k % 8) < 256 := Nat.lt_of_lt_of_le (Nat.pow_lt_pow_right (by omega) h) (by decide)
  simp [Nat.mod_eq_of_lt this]
theorem bitU_ne (k : Nat) : bitU k ≠ 0 := fun h => by
  have := bitU_nat k
  rw [h] at this
  have h2 : 0 < 2 ^ (k % 8) := Nat.pow_pos (by omega)
  simp at this
  omega

/-- a string with one bit flipped -/
def flip (s : List UInt8) (k : Nat) : List UInt8 := s.set (k / 8) ((s[k / 8]?).getD 0 ^^^ bitU k)
@[simp] theorem flip_len (s : List UInt8) (k : Nat) : (flip s k).length = s.length := by simp [flip]
theorem flip_ne {s : List UInt8} {k : Nat} (h : k / 8 < s.length) : flip s k ≠ s := fun e => by
  have h1 : (flip s k)[k / 8]? = some ((s[k / 8]?).getD 0 ^^^ bitU k) := by simp [flip, h]
  rw [e, List.getElem?_eq_getElem h] at h1
  simp at h1
  exact xor_ne (bitU_ne k) h1.symm
theorem flip_flip (s : List UInt8) (k : Nat) : flip (flip s k) k = s := by
  by_cases h : k / 8 < s.length
  · have h1 : ((flip s k)[k / 8]?).getD 0 = (s[k / 8]?).getD 0 ^^^ bitU k := by simp [flip, h]
    have e : flip (flip s k) k = (flip s k).set (k / 8) (((flip s k)[k / 8]?).getD 0 ^^^ bitU k) := rfl
    rw [e, h1]
    simp only [flip, List.set_set]
    rw [xor_xor, List.getElem?_eq_getElem h]
    simp
  · simp [flip, List.set_eq_of_length_le (Nat.le_of_not_lt h)]

theorem run_eqv (n : Bool) (z x y : PV) : Prim.run (.eqv n z) [x, y] = if fits z x && fits z y then (eqP x y).map fun b => .bool (b != n) else none := rfl
@[simp] theorem run_eqv_bool (n z a b : Bool) : Prim.run (.eqv n (.bool z)) [.bool a, .bool b] = some (.bool ((a == b) != n)) := rfl
theorem wrap_u64 (n : Int) : IntKind.u64.wrap n = n % 18446744073709551616 := by simp [IntKind.wrap, IntKind.signed, IntKind.bits]
theorem wrap_u64_id {n : Int} (h1 : 0 ≤ n) (h2 : n < 18446744073709551616) : IntKind.u64.wrap n = n := by rw [wrap_u64]; omega
theorem wrap_u8_id {n : Int} (h1 : 0 ≤ n) (h2 : n < 256) : IntKind.u8.wrap n = n := wrap_id (by simpa [IntKind.min, IntKind.signed] using h1) (by simp [IntKind.max, IntKind.signed, IntKind.bits]; omega)
end Go.Vm

/-
  Unsigned numbers, variable-length numbers, hashes.
  Conditions: none.
-/
set_option linter.unusedVariables false
set_option linter.unusedSimpArgs false
namespace Go.Vm

theorem wrap_u32_id {n : Int} (h1 : 0 ≤ n) (h2 : n < 4294967296) : IntKind.u32.wrap n = n := wrap_id (by simpa [IntKind.min, IntKind.signed] using h1) (by simp [IntKind.max, IntKind.signed, IntKind.bits]; omega)
theorem bv_or {n a b : Nat} (ha : a < 2 ^ n) (hb : b < 2 ^ n) : (BitVec.ofInt n (a : Int) ||| BitVec.ofInt n (b : Int)).toNat = a ||| b := by
  rw [BitVec.toNat_or, BitVec.ofInt_natCast, BitVec.ofInt_natCast, BitVec.toNat_ofNat, BitVec.toNat_ofNat, Nat.mod_eq_of_lt ha, Nat.mod_eq_of_lt hb]
theorem bv_and {n a b : Nat} (ha : a < 2 ^ n) (hb : b < 2 ^ n) : (BitVec.ofInt n (a : Int) &&& BitVec.ofInt n (b : Int)).toNat = a &&& b := by
  rw [BitVec.toNat_and, BitVec.ofInt_natCast, BitVec.ofInt_natCast, BitVec.toNat_ofNat, BitVec.toNat_ofNat, Nat.mod_eq_of_lt ha, Nat.mod_eq_of_lt hb]
theorem bv_xor {n a b : Nat} (ha : a < 2 ^ n) (hb : b < 2 ^ n) : (BitVec.ofInt n (a : Int) ^^^ BitVec.ofInt n (b : Int)).toNat = a ^^^ b := by
  rw [BitVec.toNat_xor, BitVec.ofInt_natCast, BitVec.ofInt_natCast, BitVec.toNat_ofNat, BitVec.toNat_ofNat, Nat.mod_eq_of_lt ha, Nat.mod_eq_of_lt hb]
theorem or64 {a b : Nat} (ha : a < 18446744073709551616) (hb : b < 18446744073709551616) : bitsI (fun _ x y => x ||| y) .u64 (a : Int) (b : Int) = ((a ||| b : Nat) : Int) := by
  have h1 := bv_or (n := IntKind.u64.bits) (a := a) (b := b) ha hb
  have h2 : a ||| b < 2 ^ 64 := Nat.or_lt_two_pow ha hb
  unfold bitsI
  rw [h1]
  exact wrap_u64_id (Int.natCast_nonneg _) (Int.ofNat_lt.2 h2)
theorem xor64 {a b : Nat} (ha : a < 18446744073709551616) (hb : b < 18446744073709551616) : bitsI (fun _ x y => x ^^^ y) .u64 (a : Int) (b : Int) = ((a ^^^ b : Nat) : Int) := by
  have h1 := bv_xor (n := IntKind.u64.bits) (a := a) (b := b) ha hb
  have h2 : a ^^^ b < 2 ^ 64 := Nat.xor_lt_two_pow ha hb
  unfold bitsI
  rw [h1]
  exact wrap_u64_id (Int.natCast_nonneg _) (Int.ofNat_lt.2 h2)
theorem and64 {a b : Nat} (ha : a < 18446744073709551616) (hb : b < 18446744073709551616) : bitsI (fun _ x y => x &&& y) .u64 (a : Int) (b : Int) = ((a &&& b : Nat) : Int) := by
  have h1 := bv_and (n := IntKind.u64.bits) (a := a) (b := b) ha hb
  have h2 : a &&& b < 2 ^ 64 := Nat.and_lt_two_pow a hb
  unfold bitsI
  rw [h1]
  exact wrap_u64_id (Int.natCast_nonneg _) (Int.ofNat_lt.2 h2)
theorem or32 {a b : Nat} (ha : a < 4294967296) (hb : b < 4294967296) : bitsI (fun _ x y => x ||| y) .u32 (a : Int) (b : Int) = ((a ||| b : Nat) : Int) := by
  have h1 := bv_or (n := IntKind.u32.bits) (a := a) (b := b) ha hb
  have h2 : a ||| b < 2 ^ 32 := Nat.or_lt_two_pow ha hb
  unfold bitsI
  rw [h1]
  exact wrap_u32_id (Int.natCast_nonneg _) (Int.ofNat_lt.2 h2)
theorem xor32 {a b : Nat} (ha : a < 4294967296) (hb : b < 4294967296) : bitsI (fun _ x y => x ^^^ y) .u32 (a : Int) (b : Int) = ((a ^^^ b : Nat) : Int) := by
  have h1 := bv_xor (n := IntKind.u32.bits) (a := a) (b := b) ha hb
  have h2 : a ^^^ b < 2 ^ 32 := Nat.xor_lt_two_pow ha hb
  unfold bitsI
  rw [h1]
  exact wrap_u32_id (Int.natCast_nonneg _) (Int.ofNat_lt.2 h2)
theorem and32 {a b : Nat} (ha : a < 4294967296) (hb : b < 4294967296) : bitsI (fun _ x y => x &&& y) .u32 (a : Int) (b : Int) = ((a &&& b : Nat) : Int) := by
  have h1 := bv_and (n := IntKind.u32.bits) (a := a) (b := b) ha hb
  have h2 : a &&& b < 2 ^ 32 := Nat.and_lt_two_pow a hb
  unfold bitsI
  rw [h1]
  exact wrap_u32_id (Int.natCast_nonneg _) (Int.ofNat_lt.2 h2)
theorem or8n {a b : Nat} (ha : a < 256) (hb : b < 256) : bitsI (fun _ x y => x ||| y) .u8 (a : Int) (b : Int) = ((a ||| b : Nat) : Int) := by
  have h1 := bv_or (n := IntKind.u8.bits) (a := a) (b := b) ha hb
  have h2 : a ||| b < 2 ^ 8 := Nat.or_lt_two_pow ha hb
  unfold bitsI
  rw [h1]
  exact wrap_u8_id (Int.natCast_nonneg _) (Int.ofNat_lt.2 h2)
theorem xor8n {a b : Nat} (ha : a < 256) (hb : b < 256) : bitsI (fun _ x y => x ^^^ y) .u8 (a : Int) (b : Int) = ((a ^^^ b : Nat) : Int) := by
  have h1 := bv_xor (n := IntKind.u8.bits) (a := a) (b := b) ha hb
  have h2 : a ^^^ b < 2 ^ 8 := Nat.xor_lt_two_pow ha hb
  unfold bitsI
  rw [h1]
  exact wrap_u8_id (Int.natCast_nonneg _) (Int.ofNat_lt.2 h2)
theorem and8n {a b : Nat} (ha : a < 256) (hb : b < 256) : bitsI (fun _ x y => x &&& y) .u8 (a : Int) (b : Int) = ((a &&& b : Nat) : Int) := by
  have h1 := bv_and (n := IntKind.u8.bits) (a := a) (b := b) ha hb
  have h2 : a &&& b < 2 ^ 8 := Nat.and_lt_two_pow a hb
  unfold bitsI
  rw [h1]
  exact wrap_u8_id (Int.natCast_nonneg _) (Int.ofNat_lt.2 h2)
theorem low7 (b : UInt8) : bitsI (fun _ x y => x &&& y) .u8 (b.toNat : Int) 127 = ((b.toNat % 128 : Nat) : Int) := by
  have h := and8n (a := b.toNat) (b := 127) b.toNat_lt (by decide)
  rw [show ((127 : Nat) : Int) = 127 from rfl] at h
  rw [h]
  have := Nat.and_two_pow_sub_one_eq_mod b.toNat 7
  simp at this
  rw [this]
set_option maxRecDepth 100000 in
theorem top8 (x : Nat) : bitsI (fun _ x y => x ||| y) .u8 ((x % 256 : Nat) : Int) 128 = ((x % 128 + 128 : Nat) : Int) := by
  have hx : x % 256 < 256 := Nat.mod_lt _ (by decide)
  have h := or8n (a := x % 256) (b := 128) hx (by decide)
  rw [show ((128 : Nat) : Int) = 128 from rfl] at h
  rw [h]
  have key : ∀ n : Fin 256, n.val ||| 128 = n.val % 128 + 128 := by decide
  have := key ⟨x % 256, hx⟩
  simp only [] at this
  rw [this]
  congr 1
  omega
theorem wrap_u8 (x : Nat) : IntKind.u8.wrap (x : Int) = ((x % 256 : Nat) : Int) := by
  simp [IntKind.wrap, IntKind.signed, IntKind.bits]

/-- a number in sevens of bits -/
def uvar (x : Nat) : List UInt8 := if h : x < 128 then [UInt8.ofNat x] else UInt8.ofNat (x % 128 + 128) :: uvar (x / 128)
termination_by x
decreasing_by omega

theorem uvar_len : ∀ (n x : Nat), x < 128 ^ n → 0 < n → (uvar x).length ≤ n
  | 0, x, h, h0 => by omega
  | n + 1, x, h, _ => by
    unfold uvar
    split
    · simp
    · rename_i hx
      simp only [List.length_cons]
      have h2 : x / 128 < 128 ^ n := by
        rw [Nat.pow_succ] at h
        exact Nat.div_lt_of_lt_mul (by rw [Nat.mul_comm]; exact h)
      have hn : 0 < n := by
        rcases Nat.eq_zero_or_pos n with rfl | hn
        · simp at h; omega
        · exact hn
      have := uvar_len n (x / 128) h2 hn
      omega
theorem uvar_pos (x : Nat) : 0 < (uvar x).length := by unfold uvar; split <;> simp

/-- a number read from the front: the number, how many bytes, whether it is one -/
def unvar : Nat → Nat → List UInt8 → Nat × Nat × Bool
  | i, _, [] => (0, 0, false)
  | i, acc, b :: s =>
    if i < 10 then
      if i = 9 ∧ 1 < b.toNat then (0, 0, false)
      else if b.toNat < 128 then
        if b.toNat = 0 ∧ 0 < i then (0, 0, false) else (acc + b.toNat % 128 * 2 ^ (7 * i), i + 1, true)
      else unvar (i + 1) (acc + b.toNat % 128 * 2 ^ (7 * i)) s
    else (0, 0, false)

theorem unvar_uvar : ∀ (n x i acc : Nat) (rest : List UInt8), x < 2 ^ (64 - 7 * i) → i ≤ 9 → (0 < i → 0 < x) → 10 ≤ i + n → unvar i acc (uvar x ++ rest) = (acc + x * 2 ^ (7 * i), i + (uvar x).length, true)
  | n, x, i, acc, rest, hx, hi, h0, hn => by
    by_cases h : x < 128
    · have hu : uvar x = [UInt8.ofNat x] := by unfold uvar; rw [dif_pos h]
      have ht : (UInt8.ofNat x).toNat = x := by simp; omega
      rw [hu]
      simp only [List.cons_append, List.nil_append, unvar, ht, List.length_cons, List.length_nil]
      rw [if_pos (by omega), if_neg, if_pos h, if_neg, Nat.mod_eq_of_lt h]
      · rintro ⟨h1, h2⟩; have := h0 h2; omega
      · rintro ⟨rfl, h2⟩; simp at hx; omega
    · have hu : uvar x = UInt8.ofNat (x % 128 + 128) :: uvar (x / 128) := by conv => lhs; unfold uvar
                                                                             rw [dif_neg h]
      have ht : (UInt8.ofNat (x % 128 + 128)).toNat = x % 128 + 128 := by simp; omega
      have hi9 : i < 9 := by
        rcases Nat.lt_or_ge i 9 with h9 | h9
        · exact h9
        · have : i = 9 := by omega
          subst this; simp at hx; omega
      cases n with
      | zero => omega
      | succ n =>
        have hx2 : x / 128 < 2 ^ (64 - 7 * (i + 1)) := by
          have : 2 ^ (64 - 7 * i) = 128 * 2 ^ (64 - 7 * (i + 1)) := by
            rw [show 64 - 7 * i = 7 + (64 - 7 * (i + 1)) by omega, Nat.pow_add]
          rw [this] at hx
          exact Nat.div_lt_of_lt_mul hx
        have ih := unvar_uvar n (x / 128) (i + 1) (acc + x % 128 * 2 ^ (7 * i)) rest hx2 (by omega) (fun _ => by omega) (by omega)
        rw [hu]
        simp only [List.cons_append, unvar, ht, List.length_cons]
        rw [if_pos (by omega), if_neg (by omega), if_neg (by omega), show (x % 128 + 128) % 128 = x % 128 by omega, ih]
        have : x / 128 * 2 ^ (7 * (i + 1)) = x / 128 * 128 * 2 ^ (7 * i) := by
          rw [show 7 * (i + 1) = 7 + 7 * i by omega, Nat.pow_add, Nat.mul_assoc]
        rw [this, Nat.add_assoc, ← Nat.add_mul, show x % 128 + x / 128 * 128 = x by omega]
        congr 2; omega

theorem unvar_bounds : ∀ (s : List UInt8) (i acc : Nat), acc < 2 ^ (7 * i) → i ≤ 10 → (unvar i acc s).1 < 18446744073709551616 ∧ (unvar i acc s).2.1 ≤ i + s.length
  | [], i, acc, _, _ => by simp [unvar]
  | b :: s, i, acc, ha, hi => by
    unfold unvar
    split
    · rename_i h10
      split
      · simp
      · rename_i h9
        have hb : b.toNat % 128 < 128 := Nat.mod_lt _ (by decide)
        have hlt : acc + b.toNat % 128 * 2 ^ (7 * i) < 2 ^ (7 * (i + 1)) := by
          rw [show 7 * (i + 1) = 7 + 7 * i by omega, Nat.pow_add]
          have : b.toNat % 128 * 2 ^ (7 * i) ≤ 127 * 2 ^ (7 * i) := Nat.mul_le_mul_right _ (by omega)
          omega
        split
        · split
          · simp
          · refine ⟨?_, by simp only [List.length_cons]; omega⟩
            show acc + b.toNat % 128 * 2 ^ (7 * i) < _
            by_cases h : i = 9
            · subst h
              have : b.toNat % 128 ≤ 1 := by omega
              have h2 : b.toNat % 128 * 2 ^ (7 * 9) ≤ 1 * 2 ^ (7 * 9) := Nat.mul_le_mul_right _ this
              have : acc < 2 ^ (7 * 9) := ha
              omega
            · have : 2 ^ (7 * (i + 1)) ≤ 2 ^ 63 := Nat.pow_le_pow_right (by decide) (by omega)
              omega
        · obtain ⟨h1, h2⟩ := unvar_bounds s (i + 1) _ hlt (by omega)
          exact ⟨h1, by simp only [List.length_cons]; omega⟩
    · simp

/-- the hash of bytes -/
def fnv (h : Nat) (s : List UInt8) : Nat := s.foldl (fun h b => (h ^^^ b.toNat) * 1099511628211 % 18446744073709551616) h
theorem fnv_lt {h : Nat} (hh : h < 18446744073709551616) : ∀ (s : List UInt8), fnv h s < 18446744073709551616
  | [] => hh
  | b :: s => fnv_lt (Nat.mod_lt _ (by decide)) s
theorem fnv_cons (h : Nat) (b : UInt8) (s : List UInt8) : fnv h (b :: s) = fnv ((h ^^^ b.toNat) * 1099511628211 % 18446744073709551616) s := rfl
def hash0 : Nat := 14695981039346656037
def sum8 (s : List UInt8) : List UInt8 := (List.range 8).map fun i => UInt8.ofNat (fnv hash0 s / 2 ^ (56 - 8 * i) % 256)
@[simp] theorem sum8_len (s : List UInt8) : (sum8 s).length = 8 := by simp [sum8]
/-- a sealed string -/
def sealS (seq : Nat) (body : List UInt8) : List UInt8 := let s := uvar seq ++ (uvar body.length ++ body); s ++ sum8 s
end Go.Vm

/-
  Sealed strings: what is sealed is opened again; with one bit flipped it is not.
  Conditions: none.
-/
set_option linter.unusedVariables false
set_option linter.unusedSimpArgs false
namespace Go.Vm

/-- a sealed string, opened: number, body, error (0: none) -/
def openS (s : List UInt8) : Nat × List UInt8 × Nat :=
  let v1 := unvar 0 0 s
  let s1 := s.drop v1.2.1
  let v2 := unvar 0 0 s1
  let s2 := s1.drop v2.2.1
  if s2.length < v2.1 then (0, [], 1900)
  else if (v1.2.2 && v2.2.2) = true ∧ (s2.drop v2.1).length = 8 then
    (if s2.drop v2.1 = sum8 (s.take (s.length - 8)) then (v1.1, s2.take v2.1, 0) else (0, [], 1903))
  else (0, [], 1900)

theorem open_seal (x : Nat) (b : List UInt8) (hx : x < 18446744073709551616) (hb : b.length < 18446744073709551616) : openS (sealS x b) = (x, b, 0) := by
  have hs : sealS x b = uvar x ++ (uvar b.length ++ (b ++ sum8 (uvar x ++ (uvar b.length ++ b)))) := by simp [sealS]
  have h1 : unvar 0 0 (sealS x b) = (x, (uvar x).length, true) := by
    rw [hs, unvar_uvar 10 x 0 0 _ (by simpa using hx) (by omega) (fun h => by omega) (by omega)]; simp
  have h2 : (sealS x b).drop (uvar x).length = uvar b.length ++ (b ++ sum8 (uvar x ++ (uvar b.length ++ b))) := by rw [hs, List.drop_left]
  have h3 : unvar 0 0 (uvar b.length ++ (b ++ sum8 (uvar x ++ (uvar b.length ++ b)))) = (b.length, (uvar b.length).length, true) := by
    rw [unvar_uvar 10 b.length 0 0 _ (by simpa using hb) (by omega) (fun h => by omega) (by omega)]; simp
  have h4 : (sealS x b).take ((sealS x b).length - 8) = uvar x ++ (uvar b.length ++ b) := by
    have : sealS x b = (uvar x ++ (uvar b.length ++ b)) ++ sum8 (uvar x ++ (uvar b.length ++ b)) := rfl
    rw [this, List.length_append, sum8_len, Nat.add_sub_cancel, List.take_left]
  unfold openS
  simp only [h1, h2, h3, h4, List.drop_left, List.take_left]
  rw [if_neg (by simp), if_pos ⟨by simp, by simp⟩, if_pos trivial]

theorem step_inj {h1 h2 a b : Nat} (e1 : h1 < 18446744073709551616) (e2 : h2 < 18446744073709551616) (ha : a < 256) (hb : b < 256)
    (h : (h1 ^^^ a) * 1099511628211 % 18446744073709551616 = (h2 ^^^ b) * 1099511628211 % 18446744073709551616) : h1 ^^^ a = h2 ^^^ b := by
  have key : ∀ x, x < 18446744073709551616 → x * 1099511628211 % 18446744073709551616 * 14886173955864302971 % 18446744073709551616 = x := fun x hx => by
    rw [Nat.mod_mul_mod, Nat.mul_assoc, show 1099511628211 * 14886173955864302971 = 1 + 887285111055 * 18446744073709551616 from by decide]
    rw [Nat.mul_add, Nat.mul_one, ← Nat.mul_assoc, Nat.add_mul_mod_self_right, Nat.mod_eq_of_lt hx]
  have x1 : h1 ^^^ a < 2 ^ 64 := Nat.xor_lt_two_pow e1 (by omega)
  have x2 : h2 ^^^ b < 2 ^ 64 := Nat.xor_lt_two_pow e2 (by omega)
  rw [← key _ x1, ← key _ x2, h]
theorem xor_right_inj {h1 h2 a : Nat} (h : h1 ^^^ a = h2 ^^^ a) : h1 = h2 := by
  have : h1 ^^^ a ^^^ a = h2 ^^^ a ^^^ a := by rw [h]
  rwa [Nat.xor_assoc, Nat.xor_self, Nat.xor_zero, Nat.xor_assoc, Nat.xor_self, Nat.xor_zero] at this
theorem xor_left_inj {h a b : Nat} (e : h ^^^ a = h ^^^ b) : a = b := by
  rw [Nat.xor_comm h a, Nat.xor_comm h b] at e; exact xor_right_inj e

theorem fnv_inj : ∀ {s : List UInt8} {h1 h2 : Nat}, h1 < 18446744073709551616 → h2 < 18446744073709551616 → fnv h1 s = fnv h2 s → h1 = h2
  | [], h1, h2, _, _, h => h
  | b :: s, h1, h2, e1, e2, h => by
    rw [fnv_cons, fnv_cons] at h
    have := fnv_inj (Nat.mod_lt _ (by decide)) (Nat.mod_lt _ (by decide)) h
    exact xor_right_inj (step_inj e1 e2 b.toNat_lt b.toNat_lt this)
theorem fnv_set_ne : ∀ {s : List UInt8} {h i : Nat} {v : UInt8}, h < 18446744073709551616 → i < s.length → s[i]? ≠ some v → fnv h (s.set i v) ≠ fnv h s
  | [], h, i, v, _, hi, _ => by simp at hi
  | b :: s, h, 0, v, hh, hi, hv => fun e => by
    rw [List.set_cons_zero, fnv_cons, fnv_cons] at e
    have := fnv_inj (Nat.mod_lt _ (by decide)) (Nat.mod_lt _ (by decide)) e
    have := xor_left_inj (step_inj hh hh v.toNat_lt b.toNat_lt this)
    exact hv (by simp [UInt8.toNat_inj.1 this])
  | b :: s, h, i + 1, v, hh, hi, hv => by
    rw [List.set_cons_succ, fnv_cons, fnv_cons]
    exact fnv_set_ne (Nat.mod_lt _ (by decide)) (by simpa using hi) (by simpa using hv)

theorem bytes_inj {x y : Nat} (hx : x < 18446744073709551616) (hy : y < 18446744073709551616) (h : ∀ i, i < 8 → x / 2 ^ (56 - 8 * i) % 256 = y / 2 ^ (56 - 8 * i) % 256) : x = y := by
  have h0 := h 0 (by omega); have h1 := h 1 (by omega); have h2 := h 2 (by omega); have h3 := h 3 (by omega)
  have h4 := h 4 (by omega); have h5 := h 5 (by omega); have h6 := h 6 (by omega); have h7 := h 7 (by omega)
  simp at h0 h1 h2 h3 h4 h5 h6 h7
  omega
theorem sum8_inj {s t : List UInt8} (h : sum8 s = sum8 t) : fnv hash0 s = fnv hash0 t := by
  refine bytes_inj (fnv_lt (by decide) s) (fnv_lt (by decide) t) fun i hi => ?_
  have : (sum8 s)[i]? = (sum8 t)[i]? := by rw [h]
  simp only [sum8, List.getElem?_map] at this
  rw [List.getElem?_range hi] at this
  simp only [Option.map_some, Option.some.injEq] at this
  have := congrArg UInt8.toNat this
  simpa using this

/-- what an opened string is: its last eight bytes are the sum of the rest -/
theorem open_ok {s : List UInt8} (h : (openS s).2.2 = 0) : 8 ≤ s.length ∧ s.drop (s.length - 8) = sum8 (s.take (s.length - 8)) := by
  unfold openS at h
  simp only [] at h
  split at h
  · simp at h
  · split at h
    · rename_i hc
      split at h
      · rename_i he
        obtain ⟨_, h8⟩ := hc
        rw [List.drop_drop, List.drop_drop] at he h8
        have hl := h8
        rw [List.length_drop] at hl
        have h8' : 8 ≤ s.length := by omega
        refine ⟨h8', ?_⟩
        rw [← he]
        congr 1
        omega
      · simp at h
    · simp at h

/-- with one bit flipped, a sealed string is not opened -/
theorem open_flip (x : Nat) (b : List UInt8) (k : Nat) (hk : k / 8 < (sealS x b).length) : (openS (Vm.flip (sealS x b) k)).2.2 ≠ 0 := fun h => by
  obtain ⟨_, h⟩ := open_ok h
  generalize hP : uvar x ++ (uvar b.length ++ b) = P at *
  have hs : sealS x b = P ++ sum8 P := by subst hP; rfl
  rw [hs] at h hk
  have hlen : (Vm.flip (P ++ sum8 P) k).length - 8 = P.length := by rw [flip_len, List.length_append, sum8_len]; omega
  rw [hlen] at h
  unfold Vm.flip at h
  generalize hv : (((P ++ sum8 P)[k / 8]?).getD 0 ^^^ bitU k) = v at h
  by_cases hkP : k / 8 < P.length
  · have hg : (P ++ sum8 P)[k / 8]? = P[k / 8]? := List.getElem?_append_left hkP
    rw [List.set_append_left _ _ hkP] at h
    have hl2 : (P.set (k / 8) v).length = P.length := by simp
    rw [← hl2, List.drop_left, List.take_left] at h
    refine fnv_set_ne (v := v) (by decide) hkP ?_ (sum8_inj h).symm
    rw [hg, List.getElem?_eq_getElem hkP] at hv
    rw [List.getElem?_eq_getElem hkP]
    intro e
    simp only [Option.some.injEq] at e
    rw [← e] at hv
    exact xor_ne (bitU_ne k) (by simpa using hv)
  · rw [List.set_append_right _ _ (by omega), List.drop_left, List.take_left] at h
    have hg : (P ++ sum8 P)[k / 8]? = (sum8 P)[k / 8 - P.length]? := List.getElem?_append_right (by omega)
    have hlt : k / 8 - P.length < (sum8 P).length := by simp at hk ⊢; omega
    have h2 : ((sum8 P).set (k / 8 - P.length) v)[k / 8 - P.length]? = some v := by rw [List.getElem?_set, if_pos rfl, if_pos hlt]
    rw [h] at h2
    rw [hg, h2] at hv
    exact xor_ne (bitU_ne k) (by simpa using hv)
end Go.Vm

/-
  What is read as a number is the encoding of it; what is opened is a sealed string.
  Conditions: none.
-/
set_option linter.unusedVariables false
set_option linter.unusedSimpArgs false
namespace Go.Vm

theorem low7u (b : UInt8) : bitsI (fun _ x y => x &&& y) .u64 (b.toNat : Int) 127 = ((b.toNat % 128 : Nat) : Int) := by
  have h := and64 (a := b.toNat) (b := 127) (by have := b.toNat_lt; omega) (by decide)
  rw [show ((127 : Nat) : Int) = 127 from rfl] at h
  rw [h]
  have := Nat.and_two_pow_sub_one_eq_mod b.toNat 7
  simp at this
  rw [this]
theorem low7x {x : Nat} (hx : x < 18446744073709551616) : bitsI (fun _ x y => x &&& y) .u64 (x : Int) 127 = ((x % 128 : Nat) : Int) := by
  have h := and64 (a := x) (b := 127) hx (by decide)
  rw [show ((127 : Nat) : Int) = 127 from rfl] at h
  rw [h]
  have := Nat.and_two_pow_sub_one_eq_mod x 7
  simp at this
  rw [this]
theorem top8m (x : Nat) : bitsI (fun _ x y => x ||| y) .u8 ((x % 128 : Nat) : Int) 128 = ((x % 128 + 128 : Nat) : Int) := by
  have := top8 (x % 128)
  rw [Nat.mod_mod, Nat.mod_eq_of_lt (show x % 128 < 256 by omega)] at this
  exact this

theorem unvar_canon : ∀ (s : List UInt8) (i acc x n : Nat), unvar i acc s = (x, n, true) → ∃ y, x = acc + y * 2 ^ (7 * i) ∧ n = i + (uvar y).length ∧ s.take (n - i) = uvar y ∧ n ≤ i + s.length ∧ (0 < i → 0 < y)
  | [], i, acc, x, n, h => by simp [unvar] at h
  | b :: s, i, acc, x, n, h => by
    unfold unvar at h
    split at h
    · split at h
      · simp at h
      · split at h
        · rename_i hb
          split at h
          · simp at h
          · rename_i h0
            simp only [Prod.mk.injEq, and_true] at h
            obtain ⟨rfl, rfl⟩ := h
            have hu : uvar b.toNat = [b] := by unfold uvar; rw [dif_pos hb]; simp
            refine ⟨b.toNat, by rw [Nat.mod_eq_of_lt hb], by rw [hu]; rfl, ?_, by simp only [List.length_cons]; omega, fun hi => by omega⟩
            rw [hu, show i + 1 - i = 1 by omega]; rfl
        · rename_i hb
          obtain ⟨y, hx, hn, ht, hle, hy⟩ := unvar_canon s (i + 1) _ x n h
          have hy := hy (by omega)
          have hb2 := b.toNat_lt
          have e1 : (b.toNat - 128 + 128 * y) % 128 + 128 = b.toNat := by omega
          have e2 : (b.toNat - 128 + 128 * y) / 128 = y := by omega
          have hu : uvar (b.toNat - 128 + 128 * y) = b :: uvar y := by
            conv => lhs; unfold uvar
            rw [dif_neg (by omega), e1, e2]; simp
          refine ⟨b.toNat - 128 + 128 * y, ?_, ?_, ?_, by simp only [List.length_cons]; omega, fun _ => by omega⟩
          · rw [hx, show b.toNat % 128 = b.toNat - 128 by omega, Nat.add_mul, show 7 * (i + 1) = 7 + 7 * i by omega, Nat.pow_add, ← Nat.mul_assoc, Nat.mul_comm y, Nat.add_assoc]
          · rw [hn, hu, List.length_cons]; omega
          · rw [hu, show n - i = (n - (i + 1)) + 1 by omega, List.take_succ_cons, ht]
    · simp at h
/-- what is read from the front of a string is the encoding of it -/
theorem unvar_take {s : List UInt8} {x n : Nat} (h : unvar 0 0 s = (x, n, true)) : s.take n = uvar x ∧ n = (uvar x).length ∧ n ≤ s.length := by
  obtain ⟨y, hx, hn, ht, hle, _⟩ := unvar_canon s 0 0 x n h
  simp at hx hn ht hle
  subst hx
  exact ⟨ht, hn, hle⟩
theorem unvar_front {s : List UInt8} {x n : Nat} (h : unvar 0 0 s = (x, n, true)) : s = uvar x ++ s.drop n := by
  have := unvar_take h
  rw [← this.1, List.take_append_drop]
theorem unvar_len {s : List UInt8} {x n : Nat} (h : unvar 0 0 s = (x, n, true)) : n ≤ 10 := by
  have := (unvar_take h).2.1
  have h2 := (unvar_bounds s 0 0 (by simp) (by omega)).1
  rw [h] at h2
  have := uvar_len 10 x (by omega) (by omega)
  omega
theorem unvar_whole {s : List UInt8} {x n : Nat} (h : unvar 0 0 s = (x, n, true)) (hn : n = s.length) : s = uvar x := by
  have := (unvar_take h).1
  rw [hn, List.take_length] at this
  exact this

/-- what is opened is sealed -/
theorem open_canon {s : List UInt8} (h : (openS s).2.2 = 0) : s = sealS (openS s).1 (openS s).2.1 ∧ (openS s).1 < 18446744073709551616 ∧ (openS s).2.1.length + 8 ≤ s.length := by
  obtain ⟨hl8, hsum⟩ := open_ok h
  have hb := unvar_bounds s 0 0 (by simp) (by omega)
  unfold openS at h ⊢
  simp only [] at h ⊢
  split at h
  · simp at h
  · rename_i hlen
    split at h
    · rename_i hc
      split at h
      · rename_i he
        obtain ⟨hok, h8⟩ := hc
        rw [if_neg hlen, if_pos ⟨hok, h8⟩, if_pos he]
        simp only [Bool.and_eq_true] at hok
        obtain ⟨k1, k2⟩ := hok
        generalize hv1 : unvar 0 0 s = v1 at *
        obtain ⟨x1, n1, b1⟩ := v1
        simp only [] at k1 k2 he h8 hlen hb ⊢
        subst k1
        generalize hs1 : s.drop n1 = s1 at *
        generalize hv2 : unvar 0 0 s1 = v2 at *
        obtain ⟨x2, n2, b2⟩ := v2
        simp only [] at k2 he h8 hlen ⊢
        subst k2
        have f1 := unvar_front hv1
        rw [hs1] at f1
        have f2 := unvar_front hv2
        have hbody : ((s1.drop n2).take x2).length = x2 := by simp; simp at hlen; omega
        have f3 : s1.drop n2 = (s1.drop n2).take x2 ++ (s1.drop n2).drop x2 := (List.take_append_drop _ _).symm
        generalize (s1.drop n2).drop x2 = tail at *
        generalize (s1.drop n2).take x2 = body at *
        rw [f3] at f2
        rw [f2] at f1
        have hs : s = (uvar x1 ++ (uvar x2 ++ body)) ++ tail := by rw [f1]; simp
        refine ⟨?_, hb.1, ?_⟩
        · have ht : s.take (s.length - 8) = uvar x1 ++ (uvar x2 ++ body) := by
            have : s.length - 8 = (uvar x1 ++ (uvar x2 ++ body)).length := by rw [hs, List.length_append, h8]; omega
            rw [this, hs, List.take_left]
          rw [ht] at he
          unfold sealS
          rw [hbody]
          rw [hs, he]
        · rw [hs, List.length_append, h8]; simp; omega
      · simp at h
    · simp at h
/-- a string is opened exactly if it is sealed -/
theorem open_iff {s : List UInt8} {x : Nat} {b : List UInt8} (h : openS s = (x, b, 0)) : s = sealS x b := by
  have := open_canon (s := s) (by rw [h])
  rw [h] at this
  exact this.1

/-- a heartbeat packet, read -/
def parseS (p : List UInt8) : Nat × Nat × Bool :=
  let v := openS p
  if v.2.2 = 0 ∧ v.2.1.head? = some 72 then
    let w := unvar 0 0 (v.2.1.drop 1)
    if w.2.2 = true ∧ w.2.1 = v.2.1.length - 1 then (v.1, w.1, true) else (0, 0, false)
  else (0, 0, false)
theorem parse_canon {p : List UInt8} (h : (parseS p).2.2 = true) : p = sealS (parseS p).1 (72 :: uvar (parseS p).2.1) := by
  unfold parseS at h ⊢
  simp only [] at h ⊢
  split at h
  · rename_i h1
    rw [if_pos h1]
    split at h
    · rename_i h2
      rw [if_pos h2]
      obtain ⟨h1, h3⟩ := h1
      have hc := (open_canon h1).1
      generalize hv : openS p = v at *
      obtain ⟨x, b, e⟩ := v
      simp only [] at *
      cases b with
      | nil => simp at h3
      | cons c b =>
        simp only [List.head?_cons, Option.some.injEq] at h3
        subst h3
        rw [hc]
        congr 2
        simp only [List.drop_succ_cons, List.drop_zero, List.length_cons, Nat.add_sub_cancel] at h2 ⊢
        obtain ⟨h4, h5⟩ := h2
        generalize hw : unvar 0 0 b = w at *
        obtain ⟨m, n, k⟩ := w
        simp only [] at h4 h5 ⊢
        subst h4
        exact unvar_whole hw h5
    · simp at h
  · simp at h
end Go.Vm
