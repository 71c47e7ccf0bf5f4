/-
  A verified evaluator of the program's functions by value, part 2.
  Conditions: none.
-/
import Derived.Test.YtaldhebldjphbaaVmA

/-
  Scalar operations: what the value language computes is what the machine computes.
  Conditions: none.
-/
set_option linter.unusedVariables false
set_option linter.unusedSimpArgs false
namespace Go.Vm

/-- the operation yields `v` (or is done without a value, and `v` is the undefined one) -/
def Done (P : Program) (o : Oper) (a : Act) (w : World) (v : Value) (w' : World) : Prop :=
  (execOp a.eval o).run P w = .ok (.value v) w' ∨ ((execOp a.eval o).run P w = .ok .skip w' ∧ v = undef)

theorem Done.wp {P : Program} {o : Oper} {a : Act} {w w' : World} {v : Value} {K : Act → World → Prop} {Q : Exit → Act → World → Prop} (h : Done P o a w v w')
    (hK : K (a.put o.dst v) w') : o.wp P a w K Q := by
  unfold Oper.wp
  rcases h with h | ⟨h, rfl⟩
  · rw [h]; exact hK
  · rw [h]; exact hK

section
variable {P : Program} {w : World}

theorem run_eqGuard_int (op : BinOp) (t : TypeId) (x y : Operand) (k k' : IntKind) (a b : Int) : (eqGuard op t x y (.int k a) (.int k' b)).run P w = .ok () w := by
  unfold eqGuard
  split <;> simp [pure, Sem.run]
theorem run_eqGuard_bool (op : BinOp) (t : TypeId) (x y : Operand) (a b : Bool) : (eqGuard op t x y (.bool a) (.bool b)).run P w = .ok () w := by
  unfold eqGuard
  split <;> simp [pure, Sem.run]
theorem run_eqGuard_str (op : BinOp) (t : TypeId) (x y : Operand) (a b : ByteArray) : (eqGuard op t x y (.string a) (.string b)).run P w = .ok () w := by
  unfold eqGuard
  split <;> simp [pure, Sem.run]

theorem pos_bits (k : IntKind) : k.bits = 8 ∨ k.bits = 16 ∨ k.bits = 32 ∨ k.bits = 64 := by cases k <;> simp [IntKind.bits]

theorem run_bin_int {op : BinOp} {xT : TypeId} {k : IntKind} {a b : Int} {z : PV} (hs : isShift op = false) (h : binI op k a b = some z) :
    ∃ v, (binOp op xT (.int k a) (.int k b)).run P w = .ok v w ∧ ScRep z [v] := by
  cases op <;> simp [isShift] at hs
  all_goals simp [binI, cmpI] at h
  case quo => obtain ⟨h0, rfl⟩ := h; exact ⟨_, by simp [binOp, Op.intDiv, h0]; rfl, by simp [ScRep]⟩
  case rem => obtain ⟨h0, rfl⟩ := h; exact ⟨_, by simp [binOp, Op.intDiv, h0]; rfl, by simp [ScRep]⟩
  all_goals (subst h; refine ⟨_, by simp [binOp, Op.intArith, Op.intBits, Op.intCmp]; rfl, ?_⟩)
  all_goals first
    | (simp [ScRep, bitsI]; done)
    | (simp only [ScRep, List.cons.injEq, and_true, Value.bool.injEq]; rw [Bool.eq_iff_iff]; simp)

theorem run_shift_int {op : BinOp} {xT : TypeId} {k k' : IntKind} {a b : Int} {z : PV} (hs : isShift op = true) (h : shiftI op k a b = some z) :
    ∃ v, (binOp op xT (.int k a) (.int k' b)).run P w = .ok v w ∧ ScRep z [v] := by
  unfold shiftI at h
  split at h
  · cases h
  · rename_i hb
    cases op <;> simp [isShift] at hs <;> simp at h <;> subst h <;> refine ⟨_, by simp [binOp, Op.shift, hb]; rfl, ?_⟩ <;> simp [ScRep]

theorem toList_bytes (b : ByteArray) : b.toList = b.data.toList := by
  have h := ByteArray.toList_eq b
  exact h

theorem beq_bytes (x y : List UInt8) : ((⟨x.toArray⟩ : ByteArray).toList == (⟨y.toArray⟩ : ByteArray).toList) = (x == y) := by
  rw [toList_bytes, toList_bytes]

theorem run_bin_str {op : BinOp} {xT : TypeId} {a b : List UInt8} {z : PV} (h : binS op a b = some z) :
    ∃ v, (binOp op xT (.string ⟨a.toArray⟩) (.string ⟨b.toArray⟩)).run P w = .ok v w ∧ ScRep z [v] := by
  have e1 : (⟨a.toArray⟩ : ByteArray).toList = a := by rw [toList_bytes]
  have e2 : (⟨b.toArray⟩ : ByteArray).toList = b := by rw [toList_bytes]
  cases op <;> simp [binS] at h
  case add =>
    obtain ⟨h0, rfl⟩ := h
    have : ¬ ((((⟨a.toArray⟩ : ByteArray).size + (⟨b.toArray⟩ : ByteArray).size : Nat) : Int) > IntKind.i64.max) := by
      have e3 : (⟨a.toArray⟩ : ByteArray).size = a.length := by simp [ByteArray.size]
      have e4 : (⟨b.toArray⟩ : ByteArray).size = b.length := by simp [ByteArray.size]
      have e5 : IntKind.i64.max = 9223372036854775807 := by decide
      rw [e3, e4, e5]; omega
    refine ⟨_, by simp only [binOp, Op.stringOp, this, if_false]; rfl, ?_⟩
    simp only [ScRep, List.cons.injEq, and_true, Value.string.injEq]
    apply ByteArray.ext
    simp
  all_goals
    subst h
    refine ⟨_, by simp only [binOp, Op.stringOp, e1, e2]; rfl, ?_⟩
    simp [ScRep]

end

/-! ### the operations -/
/-- behind an operation that defines `d` and touches no other -/
def Defd (P : Program) (S : Vw) (s' : St) (n : Nat) (w0 : World) (O0 : OMap) (a : Act) (w : World) (o : Oper) (d : Nat) (av : AV) : Prop :=
  ∃ v w' O', Done P o a w v w' ∧ Inv (defV S d av) s' n w0 O0 (a.put (some d) v) w' O'

section
variable {P : Program} {S0 S : Vw} {s s' : St} {n : Nat} {w0 : World} {O0 : OMap} {a : Act} {w : World} {O : OMap} {C : Env} {o : Oper} {d : Nat}

theorem prim_run {p : Prim} {xs : List VX} (h : (VRhs.prim p xs).run C s (some d) = some s') : ∃ vs v, evals s xs = some vs ∧ p.run vs = some v ∧ s' = s.set d v := by
  simp only [VRhs.run, Option.bind_eq_some_iff, Option.map_eq_some_iff] at h
  obtain ⟨vs, h1, v, h2, h3⟩ := h
  exact ⟨vs, v, h1, h2, h3.symm⟩

theorem evals_one {x : VX} {vs : List PV} (h : evals s [x] = some vs) : ∃ v, x.eval s = some v ∧ vs = [v] := by
  simp only [evals, Option.bind_eq_some_iff, Option.map_eq_some_iff] at h
  obtain ⟨v, h1, l, h2, h3⟩ := h
  cases h2
  exact ⟨v, h1, h3.symm⟩

theorem evals_cons {x : VX} {xs : List VX} {vs : List PV} (h : evals s (x :: xs) = some vs) : ∃ v us, x.eval s = some v ∧ evals s xs = some us ∧ vs = v :: us := by
  simp only [evals, Option.bind_eq_some_iff, Option.map_eq_some_iff] at h
  obtain ⟨v, h1, l, h2, h3⟩ := h
  exact ⟨v, l, h1, h2, h3.symm⟩

theorem evals_two {x y : VX} {vs : List PV} (h : evals s [x, y] = some vs) : ∃ u v, x.eval s = some u ∧ y.eval s = some v ∧ vs = [u, v] := by
  obtain ⟨u, us, h1, h2, rfl⟩ := evals_cons h
  obtain ⟨v, h3, rfl⟩ := evals_one h2
  exact ⟨u, v, h1, h3, rfl⟩

/-- a scalar result -/
theorem defd_sc (inv : Inv S s n w0 O0 a w O) (hd : d < n) {z : PV} {v : Value} (hv : ScRep z [v]) (hx : (execOp a.eval o).run P w = .ok (.value v) w) :
    Defd P S (s.set d z) n w0 O0 a w o d (.val .sc) :=
  ⟨v, w, O, .inl hx, inv.scalar hd hv⟩

theorem bin_sound (hS : Sub S0 S) (inv : Inv S s n w0 O0 a w O) (hd : d < n) {op : BinOp} {t t' : TypeId} {x y : Operand} (ho : o.op = .binOp op t x y t')
    {vx vy : VX} {tx ty : Ty} {ox oy : Org} (h1 : rd P S0 t x = some (vx, tx, ox)) (h2 : rd P S0 t' y = some (vy, ty, oy))
    (hr : (VRhs.prim (.bin op) [vx, vy]).run C s (some d) = some s') : Defd P S s' n w0 O0 a w o d (.val .sc) := by
  obtain ⟨vs, z, he, hp, rfl⟩ := prim_run hr
  obtain ⟨u, v, e1, e2, rfl⟩ := evals_two he
  simp only [Prim.run, two] at hp
  cases u <;> cases v <;> simp [Vm.bin] at hp
  case int.int k m k' m' =>
    have g1 := rd_int hS inv h1 e1
    have g2 := rd_int hS inv h2 e2
    cases hs : isShift op with
    | true =>
      rw [if_pos hs] at hp
      obtain ⟨v, hv, hz⟩ := run_shift_int (P := P) (w := w) (xT := t) (k' := k') hs hp
      refine defd_sc inv hd hz ?_
      simp [execOp, ho, g1, g2, run_eqGuard_int, hv, Sem.run_bind]
    | false =>
      rw [hs] at hp
      simp at hp
      obtain ⟨rfl, hp⟩ := hp
      obtain ⟨v, hv, hz⟩ := run_bin_int (P := P) (w := w) (xT := t) hs hp
      refine defd_sc inv hd hz ?_
      simp [execOp, ho, g1, g2, run_eqGuard_int, hv, Sem.run_bind]
  case str.str m m' =>
    have g1 := rd_str hS inv h1 e1
    have g2 := rd_str hS inv h2 e2
    obtain ⟨v, hv, hz⟩ := run_bin_str (P := P) (w := w) (xT := t) hp
    refine defd_sc inv hd hz ?_
    simp [execOp, ho, g1, g2, run_eqGuard_str, hv, Sem.run_bind]

theorem un_sound (hS : Sub S0 S) (inv : Inv S s n w0 O0 a w O) (hd : d < n) {op : UnOp} {t : TypeId} {x : Operand} (ho : o.op = .unOp op t x)
    {vx : VX} {tx : Ty} {ox : Org} (h1 : rd P S0 t x = some (vx, tx, ox)) (hr : (VRhs.prim (.un op) [vx]).run C s (some d) = some s') :
    Defd P S s' n w0 O0 a w o d (.val .sc) := by
  obtain ⟨vs, z, he, hp, rfl⟩ := prim_run hr
  obtain ⟨u, e1, rfl⟩ := evals_one he
  simp only [Prim.run, one] at hp
  cases u <;> simp [Vm.un] at hp
  case bool b =>
    have g1 := rd_bool hS inv h1 e1
    cases op <;> simp at hp
    subst hp
    exact defd_sc inv hd (v := .bool !b) (by simp [ScRep]) (by simp [execOp, ho, g1, Op.unary])
  case int k m =>
    have g1 := rd_int hS inv h1 e1
    cases op <;> simp at hp <;> subst hp
    · exact defd_sc inv hd (v := .int k (k.wrap (0 - m))) (by simp [ScRep]) (by simp [execOp, ho, g1, Op.unary, Op.intArith])
    · exact defd_sc inv hd (v := .int k _) (by simp [ScRep, bitsI]; rfl) (by simp [execOp, ho, g1, Op.unary, Op.intBits])

theorem toInt_sound (hS : Sub S0 S) (inv : Inv S s n w0 O0 a w O) (hd : d < n) {t t' : TypeId} {x : Operand} (ho : o.op = .convert t t' x) {k : IntKind} (hk : isInt P t' = some k)
    (hk0 : (isInt P t).isSome = true) {vx : VX} {tx : Ty} {ox : Org} (h1 : rd P S0 t x = some (vx, tx, ox)) (hr : (VRhs.prim (.toInt k) [vx]).run C s (some d) = some s') :
    Defd P S s' n w0 O0 a w o d (.val .sc) := by
  obtain ⟨vs, z, he, hp, rfl⟩ := prim_run hr
  obtain ⟨u, e1, rfl⟩ := evals_one he
  simp only [Prim.run, one] at hp
  cases u <;> simp at hp
  case int k0 m =>
    subst hp
    have g1 := rd_int hS inv h1 e1
    have hu : P.underlying t' = some (.int k) := by
      unfold isInt at hk; split at hk <;> simp_all
    obtain ⟨k1, hu0⟩ : ∃ k1, P.underlying t = some (.int k1) := by
      unfold isInt at hk0; split at hk0 <;> simp_all
    refine defd_sc inv hd (v := .int k (k.wrap m)) (by simp [ScRep]) ?_
    simp [execOp, ho, g1, convert, run_underlying hu, run_underlying hu0, Conv.intToInt]

theorem sc_val (hS : Sub S0 S) (inv : Inv S s n w0 O0 a w O) {t : TypeId} {x : Operand} {vx : VX} {ox : Org} (h : rd P S0 t x = some (vx, .sc, ox)) {z : PV} (he : vx.eval s = some z) :
    ScRep z [a.eval x] := by
  obtain ⟨cs, h1, h2, h3⟩ := rd_sound hS inv h he
  obtain ⟨ρ, p, h2⟩ := h2.some'
  simp only [Wrap] at h1
  subst h1
  simpa only [Rep] using h2

theorem pick_sound (hS : Sub S0 S) (inv : Inv S s n w0 O0 a w O) (hd : d < n) {c x y : Operand} (ho : o.op = .pick c x y) {t : TypeId} {tc : Ty}
    {vc vx vy : VX} {oc ox oy : Org} (h0 : rd P S0 t c = some (vc, tc, oc)) (h1 : rd P S0 t x = some (vx, .sc, ox)) (h2 : rd P S0 t y = some (vy, .sc, oy))
    (hr : (VRhs.pick vc vx vy).run C s (some d) = some s') : Defd P S s' n w0 O0 a w o d (.val .sc) := by
  simp only [VRhs.run] at hr
  split at hr
  case h_2 => cases hr
  case h_1 b hb =>
    have g0 := rd_bool hS inv h0 hb
    simp only [Option.map_eq_some_iff] at hr
    obtain ⟨z, hz, rfl⟩ := hr
    cases b with
    | true => exact defd_sc inv hd (sc_val hS inv h1 hz) (by simp [execOp, ho, g0, asBool])
    | false => exact defd_sc inv hd (sc_val hS inv h2 hz) (by simp [execOp, ho, g0, asBool])

/-- a slice as it is read -/
def SlV (w : World) (O : OMap) (e : Ty) (nl : Bool) (xs : List PV) (v : Value) : Prop :=
  (nl = true ∧ xs = [] ∧ v = .slice none 0 0) ∨
  (nl = false ∧ ∃ a cap, v = .slice (some a) xs.length cap ∧ a.spot = none ∧ xs.length ≤ cap ∧
    (xs = [] ∨ ∃ c el fr, w.heap[a.block]? = some (.cells c el fr) ∧ a.off + xs.length * e.size ≤ c.size ∧ ∀ i y, xs[i]? = some y → RepSh w O e y (cellsAt c (a.off + i * e.size) e.size)))

theorem Rep.slv {w : World} {O : OMap} {ρ : Option Nat} {m : Md} {e : Ty} {p : Nat} {nl : Bool} {xs : List PV} {v : Value} (hm : m ≠ .dead) (h : Rep w O ρ (.sl m e) p (.slice nl xs) [v]) : SlV w O e nl xs v := by
  have key : RepSh w O (.sl .sh e) (.slice nl xs) [v] → SlV w O e nl xs v := by
    intro h
    simp only [RepSh] at h
    obtain ⟨nl', xs', hx, h⟩ := h
    cases hx
    rcases h with ⟨h1, h2, h3⟩ | ⟨h0, a, cap, h1, h2, h3, h4⟩
    · exact .inl ⟨h1, h2, (List.cons.inj h3).1⟩
    · refine .inr ⟨h0, a, cap, (List.cons.inj h1).1, h2, h3, ?_⟩
      rcases h4 with h4 | ⟨_, h4⟩
      · exact .inl h4
      · exact .inr h4
  simp only [Rep] at h
  cases m with
  | dead => exact absurd rfl hm
  | sh => exact key h
  | full => exact key h.1
  | own =>
    obtain ⟨nl', xs', hx, h⟩ := h
    cases hx
    rcases h with ⟨h1, h2, h3⟩ | ⟨h0, a, cap, h1, h2, h3, h4⟩
    · exact .inl ⟨h1, h2, (List.cons.inj h3).1⟩
    · refine .inr ⟨h0, a, cap, (List.cons.inj h1).1, h2, h3, ?_⟩
      rcases h4 with h4 | ⟨_, c, el, fr, g1, g2, g3, g4⟩
      · left; exact List.length_eq_zero_iff.1 (by omega)
      · refine .inr ⟨c, el, fr, g1, ?_, g4⟩
        have : xs.length * e.size ≤ cap * e.size := Nat.mul_le_mul_right _ h3
        omega

theorem Rep.isSlice {w : World} {O : OMap} {ρ : Option Nat} {ty : Ty} {p : Nat} {nl : Bool} {xs : List PV} {cs : List Value} (hd : ty.noDead = true)
    (h : Rep w O ρ ty p (.slice nl xs) cs) : ∃ m e, ty = .sl m e ∧ m ≠ .dead := by
  cases ty with
  | sc => simp [Rep, ScRep] at h
  | agg l => simp only [Rep] at h; obtain ⟨xs, h, _⟩ := h; cases h
  | sl md e =>
    simp only [Ty.noDead, Ty.all] at hd
    exact ⟨md, e, rfl, by intro h; simp [h] at hd⟩

theorem rd_slice (hS : Sub S0 S) (inv : Inv S s n w0 O0 a w O) {t : TypeId} {x : Operand} {vx : VX} {ty : Ty} {org : Org} (h : rd P S0 t x = some (vx, ty, org)) {nl : Bool} {xs : List PV}
    (he : vx.eval s = some (.slice nl xs)) : ∃ m e, ty = .sl m e ∧ m ≠ .dead ∧ SlV w O e nl xs (a.eval x) ∧ OrgRep w O org ty (.slice nl xs) [a.eval x] := by
  obtain ⟨cs, h1, h2, h3⟩ := rd_sound hS inv h he
  obtain ⟨ρ, p, h2'⟩ := h2.some'
  obtain ⟨m, e, rfl, hm⟩ := Rep.isSlice h3 h2'
  simp only [Wrap] at h1
  subst h1
  exact ⟨m, e, rfl, hm, Rep.slv hm h2', h2⟩

theorem rd_agg (hS : Sub S0 S) (inv : Inv S s n w0 O0 a w O) {t : TypeId} {x : Operand} {vx : VX} {ty : Ty} {org : Org} (h : rd P S0 t x = some (vx, ty, org)) {xs : List PV}
    (he : vx.eval s = some (.agg xs)) : ∃ l cs, ty = .agg l ∧ a.eval x = .agg cs.toArray ∧ OrgRep w O org ty (.agg xs) cs ∧ ty.noDead = true := by
  obtain ⟨cs, h1, h2, h3⟩ := rd_sound hS inv h he
  obtain ⟨ρ, p, h2'⟩ := h2.some'
  cases ty with
  | sc => simp [Rep, ScRep] at h2'
  | agg l => exact ⟨l, cs, rfl, h1, h2, h3⟩
  | sl m e =>
    simp only [Ty.noDead, Ty.all] at h3
    simp only [Rep] at h2'
    cases m <;> simp [SlRep, RepSh, OwnSl] at h2' h3

theorem len_sound (hS : Sub S0 S) (inv : Inv S s n w0 O0 a w O) (hd : d < n) {c : Call} {x : Operand} {t : TypeId} (ho : o.op = .call c) (hc : c.callee = .builtin .len) (hx : c.args.toList = [x])
    (ht : c.argTypes.toList = [t]) {vx : VX} {tx : Ty} {ox : Org} (h1 : rd P S0 t x = some (vx, tx, ox)) (hk : (isString P t || (isSlice P t).isSome || (isArray P t).isSome) = true) (hm : matchesTy P t tx = true)
    (hr : (VRhs.prim .len [vx]).run C s (some d) = some s') : Defd P S s' n w0 O0 a w o d (.val .sc) := by
  obtain ⟨vs, z, he, hp, rfl⟩ := prim_run hr
  obtain ⟨u, e1, rfl⟩ := evals_one he
  simp only [Prim.run, one] at hp
  have ha : c.args = #[x] := by rw [← Array.toArray_toList (xs := c.args), hx]
  have hat : c.argTypes = #[t] := by rw [← Array.toArray_toList (xs := c.argTypes), ht]
  have hm := matchesTy_some hm
  have hk' : (∃ m e, P.underlying t = some (.array m e)) ∨ (∃ e, P.underlying t = some (.slice e)) ∨ P.underlying t = some .string := by
    cases h2 : isString P t with
    | true => exact .inr (.inr (isString_true h2))
    | false =>
      cases h3 : isSlice P t with
      | some e => exact .inr (.inl ⟨e, isSlice_some h3⟩)
      | none =>
        rw [h2, h3] at hk; simp at hk
        obtain ⟨⟨m, e⟩, h4⟩ := Option.isSome_iff_exists.1 hk
        exact .inl ⟨m, e, isArray_some h4⟩
  cases u <;> simp [lenV] at hp
  case str m =>
    subst hp
    have g := rd_str hS inv h1 e1
    obtain ⟨cs, _, g2, g3⟩ := rd_sound hS inv h1 e1
    obtain ⟨ρ, p, g2⟩ := g2.some'
    obtain ⟨rfl, _⟩ := Rep.str g3 g2
    refine defd_sc inv hd (v := .int .i64 (m.length : Nat)) (by simp [ScRep]) ?_
    rcases hk' with ⟨m', e, hu⟩ | ⟨e, hu⟩ | hu
    · obtain ⟨te, z, h4, _⟩ := array_ty hm hu; simp [Ty.sh, Ty.modAt] at h4
    · obtain ⟨te, z, h4, _⟩ := slice_ty hm hu; simp [Ty.sh, Ty.modAt] at h4
    · have hsz : (⟨m.toArray⟩ : ByteArray).size = m.length := by simp [ByteArray.size]
      simp [execOp, ho, resolve, hc, invoke, builtin, ha, hat, g, Builtin.len_, run_underlying hu, goInt, hsz]
  case slice nl xs =>
    subst hp
    obtain ⟨m, e, rfl, g1, g2, _⟩ := rd_slice hS inv h1 e1
    refine defd_sc inv hd (v := .int .i64 (xs.length : Nat)) (by simp [ScRep]) ?_
    rcases hk' with ⟨m', e', hu⟩ | ⟨e', hu⟩ | hu
    · obtain ⟨te, z, h4, _⟩ := array_ty hm hu; simp [Ty.sh, Ty.modAt] at h4
    · rcases g2 with ⟨_, rfl, hv⟩ | ⟨_, ad, cap, hv, _⟩
      · simp [execOp, ho, resolve, hc, invoke, builtin, ha, hat, hv, Builtin.len_, run_underlying hu, goInt]
      · simp [execOp, ho, resolve, hc, invoke, builtin, ha, hat, hv, Builtin.len_, run_underlying hu, goInt]
    · have := scalar_ty hm hu rfl; simp [Ty.sh, Ty.modAt] at this
  case agg xs =>
    subst hp
    obtain ⟨l, cs, rfl, g1, g2, _⟩ := rd_agg hS inv h1 e1
    obtain ⟨ρ, p, g2⟩ := g2.some'
    simp only [Rep] at g2
    obtain ⟨xs', hx', g2⟩ := g2
    cases hx'
    rcases hk' with ⟨m', e', hu⟩ | ⟨e', hu⟩ | hu
    · obtain ⟨te, z, h4, _⟩ := array_ty hm hu
      have hl : l.length = m' := by
        simp only [Ty.sh, Ty.modAt] at h4
        injection h4 with h4
        have := congrArg List.length h4
        rw [List.length_replicate] at this
        rw [← this]; exact (modsAt_length _ l 0).symm
      have hl2 : xs.length = l.length := Reps.len g2
      refine defd_sc inv hd (v := .int .i64 (m' : Nat)) (by simp [ScRep, hl2, hl]) ?_
      simp [execOp, ho, resolve, hc, invoke, builtin, ha, hat, g1, Builtin.len_, run_underlying hu, goInt]
    · obtain ⟨te, z, h4, _⟩ := slice_ty hm hu; simp [Ty.sh, Ty.modAt] at h4
    · have := scalar_ty hm hu rfl; simp [Ty.sh, Ty.modAt] at this
where
  modsAt_length (f : Nat → Md → Md) : ∀ (l : List Ty) (p : Nat), (Ty.modsAt f p l).length = l.length
    | [], _ => rfl
    | t :: ts, p => by simp [Ty.modsAt, modsAt_length f ts]
  Reps.len {w : World} {O : OMap} {ρ : Option Nat} : ∀ {l : List Ty} {p : Nat} {xs : List PV} {cs : List Value}, Reps w O ρ l p xs cs → xs.length = l.length
    | [], p, xs, cs, h => by simp only [Reps] at h; simp [h.1]
    | t :: ts, p, xs, cs, h => by
      simp only [Reps] at h
      obtain ⟨y, ys, c1, c2, rfl, _, _, h2⟩ := h
      simp [Reps.len h2]

theorem minI_sound (hS : Sub S0 S) (inv : Inv S s n w0 O0 a w O) (hd : d < n) {c : Call} {x y : Operand} {t t' : TypeId} (ho : o.op = .call c) (hc : c.callee = .builtin .min) (hx : c.args.toList = [x, y])
    {vx vy : VX} {tx ty : Ty} {ox oy : Org} (h1 : rd P S0 t x = some (vx, tx, ox)) (h2 : rd P S0 t' y = some (vy, ty, oy))
    (hr : (VRhs.prim .minI [vx, vy]).run C s (some d) = some s') : Defd P S s' n w0 O0 a w o d (.val .sc) := by
  obtain ⟨vs, z, he, hp, rfl⟩ := prim_run hr
  obtain ⟨u, v, e1, e2, rfl⟩ := evals_two he
  simp only [Prim.run, two] at hp
  have ha : c.args = #[x, y] := by rw [← Array.toArray_toList (xs := c.args), hx]
  cases u <;> cases v <;> simp at hp
  case int.int k m k' m' =>
    subst hp
    have g1 := rd_int hS inv h1 e1
    have g2 := rd_int hS inv h2 e2
    refine defd_sc inv hd (v := .int k (if m' < m then m' else m)) (by simp [ScRep]) ?_
    simp [execOp, ho, resolve, hc, invoke, builtin, ha, g1, g2, Builtin.min_, Builtin.min2]

theorem maxI_sound (hS : Sub S0 S) (inv : Inv S s n w0 O0 a w O) (hd : d < n) {c : Call} {x y : Operand} {t t' : TypeId} (ho : o.op = .call c) (hc : c.callee = .builtin .max) (hx : c.args.toList = [x, y])
    {vx vy : VX} {tx ty : Ty} {ox oy : Org} (h1 : rd P S0 t x = some (vx, tx, ox)) (h2 : rd P S0 t' y = some (vy, ty, oy))
    (hr : (VRhs.prim .maxI [vx, vy]).run C s (some d) = some s') : Defd P S s' n w0 O0 a w o d (.val .sc) := by
  obtain ⟨vs, z, he, hp, rfl⟩ := prim_run hr
  obtain ⟨u, v, e1, e2, rfl⟩ := evals_two he
  simp only [Prim.run, two] at hp
  have ha : c.args = #[x, y] := by rw [← Array.toArray_toList (xs := c.args), hx]
  cases u <;> cases v <;> simp at hp
  case int.int k m k' m' =>
    subst hp
    have g1 := rd_int hS inv h1 e1
    have g2 := rd_int hS inv h2 e2
    refine defd_sc inv hd (v := .int k (if m < m' then m' else m)) (by simp [ScRep]) ?_
    simp [execOp, ho, resolve, hc, invoke, builtin, ha, g1, g2, Builtin.max_, Builtin.max2]

theorem run_equalIn_nil_left {t e : TypeId} (hu : P.underlying t = some (.slice e)) (m k : Nat) (b : Option Addr) (p q d : Nat) :
    (Op.equalIn (d + 1) t (.slice none m k) (.slice b p q)).run P w = .ok b.isNone w := by
  simp [Op.equalIn, run_underlying hu]
theorem run_equalIn_nil_right {t e : TypeId} (hu : P.underlying t = some (.slice e)) (m k : Nat) (b : Option Addr) (p q d : Nat) :
    (Op.equalIn (d + 1) t (.slice b p q) (.slice none m k)).run P w = .ok b.isNone w := by
  cases b <;> simp [Op.equalIn, run_underlying hu]
theorem run_equal_nil_left {t e : TypeId} (hu : P.underlying t = some (.slice e)) (m k : Nat) (b : Option Addr) (p q : Nat) :
    (Op.equal t (.slice none m k) (.slice b p q)).run P w = .ok b.isNone w := run_equalIn_nil_left hu m k b p q 9999
theorem run_equal_nil_right {t e : TypeId} (hu : P.underlying t = some (.slice e)) (m k : Nat) (b : Option Addr) (p q : Nat) :
    (Op.equal t (.slice b p q) (.slice none m k)).run P w = .ok b.isNone w := run_equalIn_nil_right hu m k b p q 9999

theorem isNil_sound (hS : Sub S0 S) (inv : Inv S s n w0 O0 a w O) (hd : d < n) {op : BinOp} (hop : op = .eql ∨ op = .neq) {t t' : TypeId} {x y : Operand} (ho : o.op = .binOp op t x y t')
    {e : TypeId} (hu : P.underlying t = some (.slice e)) {z : Operand} (hz : (z = x ∧ y = .const (.slice none 0 0)) ∨ (z = y ∧ x = .const (.slice none 0 0))) {tz : TypeId} {vz : VX} {tyz : Ty} {oz : Org}
    (h1 : rd P S0 tz z = some (vz, tyz, oz)) (hr : (VRhs.prim (.isNil (op == .neq)) [vz]).run C s (some d) = some s') : Defd P S s' n w0 O0 a w o d (.val .sc) := by
  obtain ⟨vs, r, he, hp, rfl⟩ := prim_run hr
  obtain ⟨u, e1, rfl⟩ := evals_one he
  simp only [Prim.run, one] at hp
  cases u <;> simp at hp
  case slice nl xs =>
    subst hp
    obtain ⟨m, te, rfl, g1, g2, _⟩ := rd_slice hS inv h1 e1
    have hev : (a.eval z = .slice none 0 0 ∧ nl = true) ∨ (∃ ad len cap, a.eval z = .slice (some ad) len cap ∧ nl = false) := by
      rcases g2 with ⟨h3, _, h4⟩ | ⟨h3, ad, cap, h4, _⟩
      · exact .inl ⟨h4, h3⟩
      · exact .inr ⟨ad, _, cap, h4, h3⟩
    have e0 : a.eval (.const (.slice none 0 0)) = .slice none 0 0 := rfl
    refine defd_sc inv hd (v := .bool (nl != (op == .neq))) (by simp [ScRep]) ?_
    rcases hz with ⟨rfl, rfl⟩ | ⟨rfl, rfl⟩ <;> rcases hop with rfl | rfl <;> rcases hev with ⟨h4, rfl⟩ | ⟨ad, len, cap, h4, rfl⟩ <;>
      simp [execOp, ho, h4, e0, eqGuard, Sem.run_bind, binOp, run_equal_nil_left hu, run_equal_nil_right hu]

end
end Go.Vm

/-
  Memory: loads and stores of a run of cells; pointers.
  Conditions: none.
-/
set_option linter.unusedVariables false
set_option linter.unusedSimpArgs false
namespace Go.Vm

theorem addr_add (b o j : Nat) : (⟨b, o, none⟩ : Addr).add j = ⟨b, o + j, none⟩ := by
  unfold Addr.add; split <;> simp_all

theorem cellsAt_length {c : Array Value} {o n : Nat} (h : o + n ≤ c.size) : (cellsAt c o n).length = n := by
  simp [cellsAt]; omega

theorem cellsAt_get {c : Array Value} {o n j : Nat} (hj : j < n) : (cellsAt c o n)[j]? = c[o + j]? := by
  simp [cellsAt, List.getElem?_take, hj]

theorem cell_block {w : World} {b o : Nat} {c : Array Value} {el : TypeId} {fr : Nat × Nat} (h : w.heap[b]? = some (.cells c el fr)) : w.cell? ⟨b, o, none⟩ = c[o]? := by
  simp [World.cell?, h]

theorem run_loadCells_at {P : Program} {w : World} {b o n : Nat} {c : Array Value} {el : TypeId} {fr : Nat × Nat} (h : w.heap[b]? = some (.cells c el fr)) (hn : o + n ≤ c.size) :
    (loadCells ⟨b, o, none⟩ n).run P w = .ok (cellsAt c o n).toArray w := by
  have := run_loadCells_list (P := P) w ⟨b, o, none⟩ (cellsAt c o n) (fun j v hv => by
    have hj : j < n := by
      have := (List.getElem?_eq_some_iff.1 hv).1
      rwa [cellsAt_length hn] at this
    rw [addr_add, cell_block h, ← cellsAt_get hj]; exact hv)
  rwa [cellsAt_length hn] at this

theorem run_load_one {P : Program} {w : World} {b o : Nat} {c : Array Value} {el : TypeId} {fr : Nat × Nat} {v : Value} (h : w.heap[b]? = some (.cells c el fr)) (hv : c[o]? = some v) :
    (Go.load ⟨b, o, none⟩).run P w = .ok v w := by
  unfold Go.load
  simp [Sem.run, cell_block h, hv]

/-- a variable of a type is loaded -/
theorem run_loadVar_ty {P : Program} {w : World} {t : TypeId} {ty : Ty} (ht : tyOf P t = some ty) {b o : Nat} {c : Array Value} {el : TypeId} {fr : Nat × Nat}
    (h : w.heap[b]? = some (.cells c el fr)) (hn : o + ty.size ≤ c.size) {ty' : Ty} (he : ty.er = ty'.er) :
    ∃ v, (loadVar t ⟨b, o, none⟩).run P w = .ok v w ∧ Wrap ty' v (cellsAt c o ty.size) := by
  have h1 := run_isAgg_ty (w := w) ht
  have h2 := run_sizeOf_ty (w := w) ht
  unfold loadVar
  rw [Sem.run_bind, h1]
  cases hagg : ty.isAgg with
  | true =>
    refine ⟨.agg (cellsAt c o ty.size).toArray, ?_, ?_⟩
    · simp [Sem.run_bind, h2, run_loadCells_at h hn]
    · have : ty'.isAgg = true := by rw [← isAgg_er he]; exact hagg
      cases ty' <;> simp [Ty.isAgg] at this
      rfl
  | false =>
    have hs : ty.size = 1 := by cases ty <;> simp [Ty.isAgg] at hagg <;> rfl
    rw [hs] at hn
    have hlt : o < c.size := by omega
    refine ⟨c[o], ?_, ?_⟩
    · simp only [Result.andThen_ok, Bool.false_eq_true, if_false]
      exact run_load_one h (by simp [hlt])
    · have h3 : ty'.isAgg = false := by rw [← isAgg_er he]; exact hagg
      have h4 : cellsAt c o ty.size = [c[o]] := by
        rw [hs]
        apply List.ext_getElem?
        intro j
        cases j with
        | zero => rw [cellsAt_get (by omega)]; simp [hlt]
        | succ j => rw [List.getElem?_eq_none (by rw [cellsAt_length hn]; omega)]; simp
      rw [h4]
      cases ty' <;> simp [Ty.isAgg] at h3 <;> rfl

/-! ### stores -/
def putBlk (w : World) (b : Nat) (o : Obj) : World := { w with heap := w.heap.setIfInBounds b o }

theorem putBlk_heap {w : World} {b : Nat} {o : Obj} (h : b < w.heap.size) : (putBlk w b o).heap[b]? = some o := by
  simp [putBlk, h]
theorem putBlk_other {w : World} {b k : Nat} {o : Obj} (h : k ≠ b) : (putBlk w b o).heap[k]? = w.heap[k]? := by
  simp only [putBlk]
  rw [Array.getElem?_setIfInBounds_ne (Ne.symm h)]
theorem putBlk_size {w : World} {b : Nat} {o : Obj} : (putBlk w b o).heap.size = w.heap.size := by simp [putBlk]

theorem putBlk_same {w : World} {b : Nat} {o : Obj} (h : w.heap[b]? = some o) : putBlk w b o = w := by
  unfold putBlk
  have : w.heap.setIfInBounds b o = w.heap := by
    apply Array.ext_getElem?
    intro i
    by_cases hi : b = i
    · subst hi
      obtain ⟨hlt, hv⟩ := Array.getElem?_eq_some_iff.1 h
      simp [hv, hlt]
    · rw [Array.getElem?_setIfInBounds_ne hi]
  rw [this]

def splice (c : Array Value) (o : Nat) (vs : List Value) : Array Value := (c.toList.take o ++ (vs ++ c.toList.drop (o + vs.length))).toArray

theorem splice_size {c : Array Value} {o : Nat} {vs : List Value} (h : o + vs.length ≤ c.size) : (splice c o vs).size = c.size := by
  simp [splice]; omega

theorem splice_nil {c : Array Value} {o : Nat} : splice c o [] = c := by
  simp [splice]

theorem splice_cons {c : Array Value} {o : Nat} {v : Value} {vs : List Value} (h : o < c.size) : splice (c.setIfInBounds o v) (o + 1) vs = splice c o (v :: vs) := by
  unfold splice
  congr 1
  have h0 : o < c.toList.length := by simpa using h
  have e1 : (c.setIfInBounds o v).toList = c.toList.set o v := by simp
  rw [e1]
  have e2 : (c.toList.set o v).take (o + 1) = c.toList.take o ++ [v] := by
    rw [List.take_succ_eq_append_getElem (by simpa using h0)]
    simp [List.take_set_of_le]
  have e3 : (c.toList.set o v).drop (o + 1 + vs.length) = c.toList.drop (o + (v :: vs).length) := by
    rw [List.drop_set_of_lt (by omega)]; congr 1; simp; omega
  rw [e2, e3]; simp

theorem cellsAt_splice {c : Array Value} {o : Nat} {vs : List Value} (h : o + vs.length ≤ c.size) : cellsAt (splice c o vs) o vs.length = vs := by
  unfold cellsAt splice
  have : (c.toList.take o).length = o := by simp; omega
  simp only []
  rw [List.drop_append_of_le_length (by omega), List.drop_of_length_le (by omega)]
  simp

theorem getElem_splice {c : Array Value} {o : Nat} {vs : List Value} (h : o + vs.length ≤ c.size) {i : Nat} (hi : i < o ∨ o + vs.length ≤ i) : (splice c o vs)[i]? = c[i]? := by
  unfold splice
  simp only [List.getElem?_toArray]
  rcases hi with hi | hi
  · rw [List.getElem?_append_left (by simp; omega)]
    simp [List.getElem?_take, hi]
  · rw [List.getElem?_append_right (by simp; omega), List.getElem?_append_right (by simp; omega)]
    simp only [List.length_take, Array.length_toList, List.getElem?_drop]
    have : o + vs.length + (i - min o c.size - vs.length) = i := by omega
    rw [this]; simp

theorem cellsAt_splice_other {c : Array Value} {o : Nat} {vs : List Value} (h : o + vs.length ≤ c.size) {o' n : Nat} (hn : o' + n ≤ o ∨ o + vs.length ≤ o') :
    cellsAt (splice c o vs) o' n = cellsAt c o' n := by
  apply List.ext_getElem?
  intro j
  by_cases hj : j < n
  · rw [cellsAt_get hj, cellsAt_get hj, getElem_splice h (by omega)]
  · rw [List.getElem?_eq_none (by simp [cellsAt]; omega), List.getElem?_eq_none (by simp [cellsAt]; omega)]

/-- a part inside a larger part -/
theorem cellsAt_cellsAt {c : Array Value} {o n o' n' : Nat} (h : o' + n' ≤ n) : ((cellsAt c o n).drop o').take n' = cellsAt c (o + o') n' := by
  unfold cellsAt
  rw [List.drop_take, List.take_take, List.drop_drop, Nat.min_eq_left (by omega)]

/-- the splice of a larger part -/
theorem cellsAt_splice_in {c : Array Value} {o n o' : Nat} {vs : List Value} (h : o + n ≤ c.size) (h' : o' + vs.length ≤ n) :
    cellsAt (splice c (o + o') vs) o n = (cellsAt c o n).take o' ++ (vs ++ (cellsAt c o n).drop (o' + vs.length)) := by
  apply List.ext_getElem?
  intro j
  by_cases hj : j < n
  · rw [cellsAt_get hj]
    by_cases h1 : j < o'
    · rw [getElem_splice (by omega) (by omega), List.getElem?_append_left (by simp [cellsAt]; omega)]
      rw [List.getElem?_take, if_pos h1, cellsAt_get hj]
    · rw [List.getElem?_append_right (by simp [cellsAt]; omega)]
      have hl : ((cellsAt c o n).take o').length = o' := by simp [cellsAt_length h]; omega
      rw [hl]
      by_cases h2 : j < o' + vs.length
      · rw [List.getElem?_append_left (by omega)]
        have e : (cellsAt (splice c (o + o') vs) (o + o') vs.length)[j - o']? = vs[j - o']? := by rw [cellsAt_splice (by omega)]
        rw [← e, cellsAt_get (by omega)]
        congr 1; omega
      · rw [getElem_splice (by omega) (by omega), List.getElem?_append_right (by omega), List.getElem?_drop]
        have : o' + vs.length + (j - o' - vs.length) = j := by omega
        rw [this, cellsAt_get hj]
  · rw [List.getElem?_eq_none (by simp [cellsAt]; omega), List.getElem?_eq_none]
    simp [cellsAt_length h]; omega

def oneCell (v : Value) : Prop := (∀ c, v ≠ .agg c) ∧ (∀ c, v ≠ .tuple c)

theorem setCell_putBlk {w : World} {b o : Nat} {c : Array Value} {el : TypeId} {fr : Nat × Nat} {v : Value} (h : w.heap[b]? = some (.cells c el fr)) :
    w.setCell ⟨b, o, none⟩ v = putBlk w b (.cells (c.setIfInBounds o v) el fr) := by
  obtain ⟨hlt, hv⟩ := Array.getElem?_eq_some_iff.1 h
  simp only [World.setCell, putBlk]
  congr 1
  apply Array.ext_getElem?
  intro i
  rw [Array.getElem?_modify]
  by_cases hi : b = i
  · subst hi
    simp [hv, hlt]
  · rw [Array.getElem?_setIfInBounds_ne hi]; simp [hi]

theorem run_store_one {P : Program} {w : World} {b o : Nat} {c : Array Value} {el : TypeId} {fr : Nat × Nat} {v : Value} (h : w.heap[b]? = some (.cells c el fr)) (ho : o < c.size) (hf : Free fr c.size)
    (hv : oneCell v) : (Go.store ⟨b, o, none⟩ v).run P w = .ok () (putBlk w b (.cells (c.setIfInBounds o v) el fr)) := by
  have hc : w.cell? ⟨b, o, none⟩ = some c[o] := by rw [cell_block h]; simp [ho]
  have hfz : w.frozen? ⟨b, o, none⟩ = false := by
    have := hf o ho
    simp only [World.frozen?, h]
    obtain ⟨lo, hi⟩ := fr
    simp only [Bool.and_eq_false_iff, decide_eq_false_iff_not]
    simp only [not_and] at this
    by_cases h1 : lo ≤ o
    · right; exact this h1
    · left; exact h1
  unfold Go.store
  rw [← setCell_putBlk h]
  cases v with
  | agg c => exact absurd rfl (hv.1 c)
  | tuple c => exact absurd rfl (hv.2 c)
  | _ => simp [Sem.run, hc, hfz]

theorem run_storeCells_sp {P : Program} : ∀ (vs : List Value) (w : World) (b o i : Nat) (c : Array Value) (el : TypeId) (fr : Nat × Nat), w.heap[b]? = some (.cells c el fr) →
    o + i + vs.length ≤ c.size → Free fr c.size → (∀ v ∈ vs, oneCell v) →
    (storeCells ⟨b, o, none⟩ vs i).run P w = .ok () (putBlk w b (.cells (splice c (o + i) vs) el fr))
  | [], w, b, o, i, c, el, fr, h, _, _, _ => by
    rw [splice_nil, putBlk_same h]; simp [storeCells]
  | v :: vs, w, b, o, i, c, el, fr, h, hn, hf, hv => by
    simp only [List.length_cons] at hn
    have hlt := (Array.getElem?_eq_some_iff.1 h).1
    have h1 := run_store_one (P := P) (o := o + i) h (by omega) hf (hv v (by simp))
    have hsz : (c.setIfInBounds (o + i) v).size = c.size := by simp
    have h2 := run_storeCells_sp (P := P) vs (putBlk w b (.cells (c.setIfInBounds (o + i) v) el fr)) b o (i + 1) (c.setIfInBounds (o + i) v) el fr (putBlk_heap hlt) (by rw [hsz]; omega)
      (by rw [hsz]; exact hf) (fun u hu => hv u (by simp [hu]))
    unfold storeCells
    rw [Sem.run_bind, addr_add, h1]
    simp only [Result.andThen_ok]
    rw [h2, ← Nat.add_assoc, splice_cons (by omega)]
    congr 1
    simp [putBlk]

theorem run_storeVar_ty {P : Program} {w : World} {t : TypeId} {ty ty' : Ty} (ht : tyOf P t = some ty) (he : ty.er = ty'.er) {b o : Nat} {c : Array Value} {el : TypeId} {fr : Nat × Nat}
    (h : w.heap[b]? = some (.cells c el fr)) {v : Value} {cs : List Value} (hw : Wrap ty' v cs) (hcs : cs.length = ty.size) (hn : o + ty.size ≤ c.size) (hf : Free fr c.size) (hv : ∀ v ∈ cs, oneCell v) :
    (storeVar t ⟨b, o, none⟩ v).run P w = .ok () (putBlk w b (.cells (splice c o cs) el fr)) := by
  have h2 := run_sizeOf_ty (w := w) ht
  have hvc : v.cells.toList = cs := by
    cases ty' with
    | agg l => simp only [Wrap] at hw; subst hw; simp [Value.cells]
    | sc =>
      simp only [Wrap] at hw; subst hw
      have := hv v (by simp)
      cases v <;> first | rfl | exact absurd rfl (this.1 _)
    | sl m e =>
      simp only [Wrap] at hw; subst hw
      have := hv v (by simp)
      cases v <;> first | rfl | exact absurd rfl (this.1 _)
  have hsz : v.cells.size = ty.size := by rw [← Array.length_toList, hvc, hcs]
  have := run_storeCells_sp (P := P) cs w b o 0 c el fr h (by omega) hf hv
  unfold storeVar
  simp only [Sem.run_bind, h2, Result.andThen_ok, hsz]
  rw [hvc]
  simpa using this

/-! ### cells of a value are single cells -/
theorem ScRep.one {x : PV} {cs : List Value} (h : ScRep x cs) : ∀ v ∈ cs, oneCell v := by
  cases x <;> simp only [ScRep] at h <;> first | exact h.elim | (subst h; intro v hv; simp at hv; subst hv; exact ⟨by simp, by simp⟩)

mutual
theorem Rep.one {w : World} {O : OMap} {ρ : Option Nat} : ∀ {t : Ty} {p : Nat} {x : PV} {cs : List Value}, t.noDead = true → Rep w O ρ t p x cs → ∀ v ∈ cs, oneCell v
  | .sc, p, x, cs, _, h => by simp only [Rep] at h; exact h.one
  | .agg l, p, x, cs, hd, h => by
    simp only [Rep] at h
    obtain ⟨xs, _, h⟩ := h
    exact Reps.one (by simpa only [Ty.noDead, Ty.all] using hd) h
  | .sl m e, p, x, cs, hd, h => by
    simp only [Ty.noDead, Ty.all] at hd
    simp only [Rep] at h
    have key : RepSh w O (.sl .sh e) x cs → ∀ v ∈ cs, oneCell v := by
      intro h
      simp only [RepSh] at h
      obtain ⟨nl, xs, _, h⟩ := h
      rcases h with ⟨_, _, rfl⟩ | ⟨_, a, cap, rfl, _⟩ <;> intro v hv <;> simp at hv <;> subst hv <;> exact ⟨by simp, by simp⟩
    cases m with
    | dead => simp at hd
    | sh => exact key h
    | full => exact key h.1
    | own =>
      obtain ⟨nl, xs, _, h⟩ := h
      rcases h with ⟨_, _, rfl⟩ | ⟨_, a, cap, rfl, _⟩ <;> intro v hv <;> simp at hv <;> subst hv <;> exact ⟨by simp, by simp⟩
theorem Reps.one {w : World} {O : OMap} {ρ : Option Nat} : ∀ {l : List Ty} {p : Nat} {xs : List PV} {cs : List Value}, Ty.alls (fun m => m != .dead) l = true → Reps w O ρ l p xs cs → ∀ v ∈ cs, oneCell v
  | [], p, xs, cs, _, h => by simp only [Reps] at h; simp [h.2]
  | t :: ts, p, xs, cs, hd, h => by
    simp only [Reps] at h
    simp only [Ty.alls, Bool.and_eq_true] at hd
    obtain ⟨y, ys, c1, c2, _, rfl, h1, h2⟩ := h
    intro v hv
    rcases List.mem_append.1 hv with hv | hv
    · exact Rep.one hd.1 h1 v hv
    · exact Reps.one hd.2 h2 v hv
end

/-! ### pointers -/
theorem atAny_at : ∀ {p : List (Option Nat)} {q : List Nat} {t u0 u : Ty} {off : Nat}, MatchP p q → Ty.atAny p t = some u0 → Ty.at q t = some (u, off) → u = u0 := by
  intro p q t u0 u off hm
  induction hm generalizing t u off with
  | nil => intro h1 h2; simp [Ty.atAny] at h1; simp [Ty.at] at h2; rw [← h1, h2.1]
  | some i p q hm ih =>
    intro h1 h2
    cases t with
    | sc => simp [Ty.at] at h2
    | sl m e => simp [Ty.at] at h2
    | agg l =>
      simp only [Ty.at, Option.bind_eq_some_iff, Option.map_eq_some_iff] at h2
      simp only [Ty.atAny, Option.bind_eq_some_iff] at h1
      obtain ⟨t, ht, ⟨u2, o2⟩, h3, h4⟩ := h2
      obtain ⟨t', ht', h1⟩ := h1
      rw [ht] at ht'; cases ht'
      cases h4
      exact ih h1 h3
  | none i p q hm ih =>
    intro h1 h2
    cases t with
    | sc => simp [Ty.at] at h2
    | sl m e => simp [Ty.at] at h2
    | agg l =>
      simp only [Ty.at, Option.bind_eq_some_iff, Option.map_eq_some_iff] at h2
      obtain ⟨t, ht, ⟨u2, o2⟩, h3, h4⟩ := h2
      cases h4
      cases l with
      | nil => simp at ht
      | cons t0 ts =>
        simp only [Ty.atAny] at h1
        split at h1
        case isFalse => cases h1
        case isTrue hall =>
          have : t = t0 := by
            cases i with
            | zero => simpa using ht.symm
            | succ i =>
              simp only [List.getElem?_cons_succ] at ht
              have hmem := List.mem_of_getElem? ht
              exact (Ty.beq_eq (List.all_eq_true.1 hall t hmem)).symm
          subst this
          exact ih h1 h3

section
variable {P : Program} {S0 S : Vw} {s s' : St} {n : Nat} {w0 : World} {O0 : OMap} {a : Act} {w : World} {O : OMap}

theorem have_some {i : Nat} {x : PV} (h : have? s i = some x) : get s i ≠ .undef ∧ get s i = x := undef_ne (s := s) (i := i) (x := x) h

theorem pathAt_some {t : Nat} {q : List Nat} (h : pathAt s (some t) = some q) : get s t = .ptr q := by
  simp only [pathAt] at h
  split at h
  · rename_i p hp; cases h; exact hp
  · cases h

/-- a pointer into a box -/
theorem rdP_b (hS : Sub S0 S) (inv : Inv S s n w0 O0 a w O) {x : Operand} {r : Nat} {p : List (Option Nat)} {i : Option Nat} (h : rdP S0 x = some (r, .b p, i)) {q : List Nat} (hq : pathAt s i = some q)
    (hu : get s r ≠ .undef) : ∃ ty b o u off, S0 r = S r ∧ (S r).av = .box ty ∧ a.eval x = .pointer (some ⟨b, o + off, none⟩) ∧ val a r = .pointer (some ⟨b, o, none⟩) ∧ MatchP p q ∧ Ty.at q ty = some (u, off) := by
  cases x with
  | tmp t =>
    simp only [rdP] at h
    have hal : (S0 t).av ≠ .dead := by intro hd; simp [hd] at h
    have hSt := hS.alive hal
    rw [hSt] at h
    have hlt := lt_of_alive inv (by rw [← hSt]; exact hal)
    cases hav : (S t).av <;> rw [hav] at h <;> simp at h
    case box ty =>
      obtain ⟨rfl, rfl, rfl⟩ := h
      simp only [pathAt, Option.some.injEq] at hq; subst hq
      have := (inv.cell t hlt).resolve_left hu
      simp only [CellOK, hav] at this
      obtain ⟨b, o, cs, h1, h2, h3, h4⟩ := this
      exact ⟨ty, b, o, ty, 0, hSt, hav, h1, h1, .nil, rfl⟩
    case bptr r' p' d k =>
      obtain ⟨⟨hk, h1, h2⟩, rfl, rfl, rfl⟩ := h
      subst hk
      have hr := hS.alive (alive_ne h2)
      have hg := pathAt_some hq
      have := (inv.cell t hlt).resolve_left (by rw [hg]; simp)
      simp only [CellOK, hav] at this
      obtain ⟨q', b, o, ty, u, off, g1, g2, g3, g4, g5, g6, g7⟩ := this (by rw [← hr]; exact h1)
      rw [hg] at g1; cases g1
      exact ⟨ty, b, o, u, off, hr, g3, g7, g5, g2, g6⟩
  | _ => simp [rdP] at h

/-- a pointer into an element of a slice -/
theorem rdP_e (hS : Sub S0 S) (inv : Inv S s n w0 O0 a w O) {x : Operand} {r : Nat} {hp : List Nat} {path : List (Option Nat)} {i : Option Nat} (h : rdP S0 x = some (r, .e hp path, i)) {q : List Nat} (hq : pathAt s i = some q) :
    ∃ j ip tyr csr m e pos ad len cap u off, S0 r = S r ∧ q = hp ++ j :: ip ∧ MatchP path ip ∧ get s r ≠ .undef ∧
      rootTy S r = some tyr ∧ CellsOf a w S r csr ∧ Ty.at hp tyr = some (.sl m e, pos) ∧ csr[pos]? = some (.slice (some ad) len cap) ∧ ad.spot = none ∧ j < len ∧
      Ty.at ip e = some (u, off) ∧ a.eval x = .pointer (some ⟨ad.block, ad.off + (j * e.size + off), none⟩) := by
  cases x with
  | tmp t =>
    simp only [rdP] at h
    have hal : (S0 t).av ≠ .dead := by intro hd; simp [hd] at h
    have hSt := hS.alive hal
    rw [hSt] at h
    have hlt := lt_of_alive inv (by rw [← hSt]; exact hal)
    cases hav : (S t).av <;> rw [hav] at h <;> simp at h
    case eptr r' hp' p' d =>
      obtain ⟨⟨h1, h2⟩, rfl, ⟨rfl, rfl⟩, rfl⟩ := h
      have hr := hS.alive (alive_ne h2)
      have hg := pathAt_some hq
      have := (inv.cell t hlt).resolve_left (by rw [hg]; simp)
      simp only [CellOK, hav] at this
      obtain ⟨j, ip, tyr, csr, m, e, pos, ad, len, cap, u, off, g1, g2⟩ := this (by rw [← hr]; exact h1)
      rw [hg] at g1; cases g1
      exact ⟨j, ip, tyr, csr, m, e, pos, ad, len, cap, u, off, hr, rfl, g2⟩
  | _ => simp [rdP] at h

end
end Go.Vm

/-
  Operations that make pointers, and loads.
  Conditions: none.
-/
set_option linter.unusedVariables false
set_option linter.unusedSimpArgs false
namespace Go.Vm

section
variable {P : Program} {S0 S : Vw} {s s' : St} {n : Nat} {w0 : World} {O0 : OMap} {a : Act} {w : World} {O : OMap} {C : Env} {o : Oper} {d : Nat}

theorem defV_ne (S : Vw) {d r : Nat} (av : AV) (h : r ≠ d) : defV S d av r = S r := by simp [defV, h]
theorem defV_eq (S : Vw) (d : Nat) (av : AV) : defV S d av d = ⟨av, (S d).c + 1, (S d).h + 1, (S d).d + 1⟩ := by simp [defV]

theorem define_bptr (inv : Inv S s n w0 O0 a w O) (hd : d < n) {r : Nat} {path : List (Option Nat)} {q : List Nat} {b o' : Nat} {ty u : Ty} {off : Nat} {k : Option (Nat × Bool)} (h1 : MatchP path q)
    (h2 : (S r).av = .box ty) (h3 : get s r ≠ .undef) (h4 : val a r = .pointer (some ⟨b, o', none⟩)) (h5 : Ty.at q ty = some (u, off)) :
    Inv (defV S d (.bptr r path (S r).d k)) (s.set d (.ptr q)) n w0 O0 (a.put (some d) (wrapC k (.pointer (some ⟨b, o' + off, none⟩)))) w O := by
  refine inv.define hd (Grown.refl d inv.frame.alloc) _ _ _ ?_ (fun _ => rfl) (.inr ?_)
  · simp only [VersOK, defV_eq]
    by_cases hr : r = d
    · subst hr; simp [defV_eq]
    · rw [defV_ne _ _ hr]; exact Nat.le_refl _
  · simp only [CellOK, defV_eq]
    intro hv
    by_cases hr : r = d
    · subst hr; rw [defV_eq] at hv; simp at hv
    · refine ⟨q, b, o', ty, u, off, ?_, h1, ?_, ?_, ?_, h5, ?_⟩
      · rw [get_set _ _ _ _ (by rw [inv.slen]; exact hd), if_pos rfl]
      · rw [defV_ne _ _ hr]; exact h2
      · rw [get_set _ _ _ _ (by rw [inv.slen]; exact hd), if_neg hr]; exact h3
      · rw [val_put _ _ _ _ (by rw [inv.size]; exact hd), if_neg hr]; exact h4
      · rw [val_put _ _ _ _ (by rw [inv.size]; exact hd), if_pos rfl]

theorem cellsOf_def (inv : Inv S s n w0 O0 a w O) (hd : d < n) {r : Nat} (hr : r ≠ d) {av : AV} {v : Value} {csr : List Value} (h : CellsOf a w S r csr) : CellsOf (a.put (some d) v) w (defV S d av) r csr := by
  unfold CellsOf at *
  rw [defV_ne _ _ hr, val_put _ _ _ _ (by rw [inv.size]; exact hd), if_neg hr]
  exact h

theorem rootTy_def {r : Nat} (hr : r ≠ d) {av : AV} : rootTy (defV S d av) r = rootTy S r := rootTy_eq (defV_ne _ _ hr)

theorem define_eptr (inv : Inv S s n w0 O0 a w O) (hd : d < n) {r : Nat} {hp : List Nat} {path : List (Option Nat)} {j : Nat} {ip : List Nat} {tyr e u : Ty} {csr : List Value} {m : Md} {pos off len cap : Nat} {ad : Addr}
    (h1 : MatchP path ip) (h2 : get s r ≠ .undef) (h3 : rootTy S r = some tyr) (h4 : CellsOf a w S r csr) (h5 : Ty.at hp tyr = some (.sl m e, pos)) (h6 : csr[pos]? = some (.slice (some ad) len cap))
    (h7 : ad.spot = none) (h8 : j < len) (h9 : Ty.at ip e = some (u, off)) :
    Inv (defV S d (.eptr r hp path (S r).h)) (s.set d (.ptr (hp ++ j :: ip))) n w0 O0 (a.put (some d) (.pointer (some ⟨ad.block, ad.off + (j * e.size + off), none⟩))) w O := by
  refine inv.define hd (Grown.refl d inv.frame.alloc) _ _ _ ?_ (fun _ => rfl) (.inr ?_)
  · simp only [VersOK, defV_eq]
    by_cases hr : r = d
    · subst hr; simp [defV_eq]
    · rw [defV_ne _ _ hr]; exact Nat.le_refl _
  · simp only [CellOK, defV_eq]
    intro hv
    by_cases hr : r = d
    · subst hr; rw [defV_eq] at hv; simp at hv
    · refine ⟨j, ip, tyr, csr, m, e, pos, ad, len, cap, u, off, ?_, h1, ?_, ?_, ?_, h5, h6, h7, h8, h9, ?_⟩
      · rw [get_set _ _ _ _ (by rw [inv.slen]; exact hd), if_pos rfl]
      · rw [get_set _ _ _ _ (by rw [inv.slen]; exact hd), if_neg hr]; exact h2
      · rw [rootTy_def hr]; exact h3
      · exact cellsOf_def inv hd hr h4
      · rw [val_put _ _ _ _ (by rw [inv.size]; exact hd), if_pos rfl]

theorem Tgt.def (inv : Inv S s n w0 O0 a w O) (hd : d < n) {t : Nat × List Nat × Nat} (hv : t.2.2 ≤ (S t.1).d) {av : AV} {x : PV} {v u : Value} (h : Tgt S s a t u) : Tgt (defV S d av) (s.set d x) (a.put (some d) v) t u := by
  intro hd'
  by_cases hr : t.1 = d
  · rw [hr, defV_eq] at hd'
    simp only [] at hd'
    rw [hr] at hv
    omega
  · rw [defV_ne _ _ hr] at hd'
    obtain ⟨b, o, ty, u1, off, g1, g2, g3, g4, g5⟩ := h hd'
    exact ⟨b, o, ty, u1, off, by rw [defV_ne _ _ hr]; exact g1, by rw [get_set _ _ _ _ (by rw [inv.slen]; exact hd), if_neg hr]; exact g2, by rw [val_put _ _ _ _ (by rw [inv.size]; exact hd), if_neg hr]; exact g3, g4, g5⟩

theorem define_mp (inv : Inv S s n w0 O0 a w O) (hd : d < n) {k : MK} {ts : List (Nat × List Nat × Nat)} {x : PV} {v : Value} {w' : World} {O' : OMap} (g : Grown w w' O O' d) (hv : ∀ t ∈ ts, t.2.2 ≤ (S t.1).d) (h : MpOK O' w' (Tgt S s a) k ts x v) :
    Inv (defV S d (.mp k ts)) (s.set d x) n w0 O0 (a.put (some d) v) w' O' := by
  refine inv.define hd g _ _ _ ?_ (fun _ => rfl) (.inr ?_)
  · simp only [VersOK, defV_eq]
    intro t ht
    by_cases hr : t.1 = d
    · have := hv t ht; rw [hr] at this ⊢; rw [defV_eq]; simp only []; omega
    · rw [defV_ne _ _ hr]; exact hv t ht
  · simp only [CellOK, defV_eq]
    rw [get_set _ _ _ _ (by rw [inv.slen]; exact hd), if_pos rfl, val_put _ _ _ _ (by rw [inv.size]; exact hd), if_pos rfl]
    exact MpOK.mono (O := O') (w := w') (fun b hb => ⟨hb, rfl⟩) (fun t ht v hx => Tgt.def inv hd (hv t ht) hx) h

/-- the path that an operand gives -/
theorem ptrX_eval {i : Option Nat} {q : List Nat} (h : (ptrX i).eval s = some (.ptr q)) : pathAt s i = some q := by
  cases i with
  | none => simp only [ptrX, VX.eval, Option.some.injEq] at h; cases h; rfl
  | some t =>
    simp only [ptrX] at h
    have := (undef_ne h).2
    simp [pathAt, this]

/-- a pointer is handed on: move, assign, nilCheck -/
theorem chkPtr_sound (hS : Sub S0 S) (inv : Inv S s n w0 O0 a w O) (hd : d < n) {i : Nat} (ho : o.op = .move (.tmp i) ∨ o.op = .assign (.tmp i) ∨ o.op = .nilCheck (.tmp i)) {rhs : VRhs} {av : AV} {us : List Up}
    (h : chkPtr S0 i = some (rhs, av, us)) (hr : rhs.run C s (some d) = some s') : us = [] ∧ Defd P S s' n w0 O0 a w o d av := by
  unfold chkPtr at h
  have hal : (S0 i).av ≠ .dead := by intro hd; simp [hd] at h
  have hSi := hS.alive hal
  rw [hSi] at h
  have hlt := lt_of_alive inv (by rw [← hSi]; exact hal)
  have hrun : ∀ (b o' : Nat), val a i = .pointer (some ⟨b, o', none⟩) → (execOp a.eval o).run P w = .ok (.value (val a i)) w := by
    intro b o' hv
    have he : a.eval (.tmp i) = .pointer (some ⟨b, o', none⟩) := hv
    rcases ho with ho | ho | ho <;> simp [execOp, ho, he, hv]
  cases hav : (S i).av <;> rw [hav] at h <;> simp [prim1] at h
  case box ty =>
    obtain ⟨rfl, rfl, rfl⟩ := h
    obtain ⟨vs, v, he, hp, rfl⟩ := prim_run hr
    obtain ⟨z, e1, rfl⟩ := evals_one he
    simp only [VX.eval, Option.some.injEq] at e1; subst e1
    simp only [Prim.run, one, Option.some.injEq] at hp; subst hp
    have hne := inv.boxes i ty hav
    have := (inv.cell i hlt).resolve_left hne
    simp only [CellOK, hav] at this
    obtain ⟨b, o', cs, h1, h2, h3, h4⟩ := this
    refine ⟨rfl, _, w, O, .inl (hrun b o' h1), ?_⟩
    rw [h1]
    exact define_bptr (k := none) inv hd .nil hav hne h1 rfl
  case bptr r p dd k =>
    obtain ⟨⟨hk, h1, h2⟩, rfl, rfl, rfl⟩ := h
    subst hk
    have hr' := hS.alive (alive_ne h2)
    obtain ⟨vs, v, he, hp, rfl⟩ := prim_run hr
    obtain ⟨z, e1, rfl⟩ := evals_one he
    simp only [Prim.run, one, Option.some.injEq] at hp; subst hp
    obtain ⟨hne, hz⟩ := undef_ne e1
    have := (inv.cell i hlt).resolve_left hne
    simp only [CellOK, hav] at this
    have hdd : (S r).d = dd := by rw [← hr']; exact h1
    obtain ⟨q, b, o', ty, u, off, g1, g2, g3, g4, g5, g6, g7⟩ := this hdd
    refine ⟨rfl, _, w, O, .inl (hrun _ _ g7), ?_⟩
    rw [g7, ← hz, g1, ← hdd]
    exact define_bptr (k := none) inv hd g2 g3 g4 g5 g6
  case eptr r hp p dd =>
    obtain ⟨⟨h1, h2⟩, rfl, rfl, rfl⟩ := h
    have hr' := hS.alive (alive_ne h2)
    obtain ⟨vs, v, he, hp, rfl⟩ := prim_run hr
    obtain ⟨z, e1, rfl⟩ := evals_one he
    simp only [Prim.run, one, Option.some.injEq] at hp; subst hp
    obtain ⟨hne, hz⟩ := undef_ne e1
    have := (inv.cell i hlt).resolve_left hne
    simp only [CellOK, hav] at this
    have hdd : (S r).h = dd := by rw [← hr']; exact h1
    obtain ⟨j, ip, tyr, csr, m, e, pos, ad, len, cap, u, off, g1, g2, g3, g4, g5, g6, g7, g8, g9, g10, g11⟩ := this hdd
    refine ⟨rfl, _, w, O, .inl (hrun _ _ g11), ?_⟩
    rw [g11, ← hz, g1, ← hdd]
    exact define_eptr inv hd g2 g3 g4 g5 g6 g7 g8 g9 g10

/-- a function value is handed on -/
theorem chkClo_sound (hS : Sub S0 S) (inv : Inv S s n w0 O0 a w O) (hd : d < n) {i : Nat} (ho : o.op = .move (.tmp i) ∨ o.op = .assign (.tmp i)) {rhs : VRhs} {av : AV} {us : List Up}
    (h : chkClo S0 i = some (rhs, av, us)) (hr : rhs.run C s (some d) = some s') : us = [] ∧ Defd P S s' n w0 O0 a w o d av := by
  unfold chkClo at h
  have hal : (S0 i).av ≠ .dead := by intro hd; simp [hd] at h
  have hSi := hS.alive hal
  rw [hSi] at h
  have hlt := lt_of_alive inv (by rw [← hSi]; exact hal)
  have hrun : (execOp a.eval o).run P w = .ok (.value (val a i)) w := by
    have he : a.eval (.tmp i) = val a i := rfl
    rcases ho with ho | ho <;> simp [execOp, ho, he]
  cases hav : (S i).av <;> rw [hav] at h <;> simp [prim1] at h
  case bptr r p dd k =>
    obtain ⟨⟨h1, h2⟩, rfl, rfl, rfl⟩ := h
    have hr' := hS.alive (alive_ne h2)
    obtain ⟨vs, v, he, hp, rfl⟩ := prim_run hr
    obtain ⟨z, e1, rfl⟩ := evals_one he
    simp only [Prim.run, one, Option.some.injEq] at hp; subst hp
    obtain ⟨hne, hz⟩ := undef_ne e1
    have := (inv.cell i hlt).resolve_left hne
    simp only [CellOK, hav] at this
    have hdd : (S r).d = dd := by rw [← hr']; exact h1
    obtain ⟨q, b, o', ty, u, off, g1, g2, g3, g4, g5, g6, g7⟩ := this hdd
    refine ⟨rfl, _, w, O, .inl hrun, ?_⟩
    rw [g7, ← hz, g1, ← hdd]
    exact define_bptr inv hd g2 g3 g4 g5 g6
  case mp k ts =>
    obtain ⟨rfl, rfl, rfl⟩ := h
    obtain ⟨vs, v, he, hp, rfl⟩ := prim_run hr
    obtain ⟨z, e1, rfl⟩ := evals_one he
    simp only [Prim.run, one, Option.some.injEq] at hp; subst hp
    obtain ⟨hne, hz⟩ := undef_ne e1
    have hc := (inv.cell i hlt).resolve_left hne
    have hv := inv.vers i
    simp only [CellOK, hav] at hc
    simp only [VersOK, hav] at hv
    refine ⟨rfl, _, w, O, .inl hrun, ?_⟩
    rw [hz] at hc
    exact define_mp inv hd (Grown.refl d inv.frame.alloc) hv hc

/-- the box whose pointer an operand is -/
theorem boxRoot_sound (hS : Sub S0 S) (inv : Inv S s n w0 O0 a w O) {x : Operand} {r : Nat} {i : Option Nat} (h : boxRoot S0 x = some (r, i)) {z : PV} (hz : (ptrX i).eval s = some z) :
    z = .ptr [] ∧ S0 r = S r ∧ ∃ b o ty, (S r).av = .box ty ∧ get s r ≠ .undef ∧ val a r = .pointer (some ⟨b, o, none⟩) ∧ a.eval x = .pointer (some ⟨b, o, none⟩) := by
  unfold boxRoot at h
  cases x with
  | tmp t =>
    simp only [] at h
    have hal : (S0 t).av ≠ .dead := by intro hd; simp [hd] at h
    have hSt := hS.alive hal
    rw [hSt] at h
    have hlt := lt_of_alive inv (by rw [← hSt]; exact hal)
    cases hav : (S t).av <;> rw [hav] at h <;> simp at h
    case box ty =>
      obtain ⟨rfl, rfl⟩ := h
      simp only [ptrX, VX.eval, Option.some.injEq] at hz
      have hne := inv.boxes t ty hav
      have := (inv.cell t hlt).resolve_left hne
      simp only [CellOK, hav] at this
      obtain ⟨b, o', cs, h1, _⟩ := this
      exact ⟨hz.symm, hSt, b, o', ty, hav, hne, h1, h1⟩
    case bptr r' p d k =>
      obtain ⟨⟨⟨hk, hp⟩, h1, h2⟩, rfl, rfl⟩ := h
      subst hk
      subst hp
      have hr := hS.alive (alive_ne h2)
      simp only [ptrX] at hz
      obtain ⟨hne, hz⟩ := undef_ne hz
      have := (inv.cell t hlt).resolve_left hne
      simp only [CellOK, hav] at this
      obtain ⟨q, b, o', ty, u, off, g1, g2, g3, g4, g5, g6, g7⟩ := this (by rw [← hr]; exact h1)
      cases g2
      simp only [Ty.at, Option.some.injEq, Prod.mk.injEq] at g6
      obtain ⟨_, rfl⟩ := g6
      exact ⟨hz.symm.trans g1, hr, b, o', ty, g3, g4, g5, g7⟩
  | _ => simp at h

theorem makeFunc_sound (hS : Sub S0 S) (inv : Inv S s n w0 O0 a w O) (hd : d < n) {fn : Fn} {first caps : Array Operand} (ho : o.op = .makeFunc fn first caps) {rhs : VRhs} {av : AV} {us : List Up}
    (h : chkMakeFunc S0 fn first.toList caps.toList = some (rhs, av, us)) (hr : rhs.run C s (some d) = some s') : us = [] ∧ Defd P S s' n w0 O0 a w o d av := by
  unfold chkMakeFunc at h
  split at h
  · rename_i f x h1 h2
    simp only [Option.map_eq_some_iff] at h
    obtain ⟨⟨r, i⟩, hb, h⟩ := h
    simp only [prim1, Prod.mk.injEq] at h
    obtain ⟨rfl, rfl, rfl⟩ := h
    obtain ⟨vs, v, he, hp, rfl⟩ := prim_run hr
    obtain ⟨z, e1, rfl⟩ := evals_one he
    simp only [Prim.run, one, Option.some.injEq] at hp; subst hp
    obtain ⟨rfl, hSr, b, o', ty, g1, g2, g3, g4⟩ := boxRoot_sound hS inv hb e1
    refine ⟨rfl, wrapC (some (f, true)) (.pointer (some ⟨b, o' + 0, none⟩)), w, O, .inl ?_, ?_⟩
    · have h3 : first.map a.eval = #[.pointer (some ⟨b, o', none⟩)] := by
        have : first = #[x] := by rw [← Array.toList_inj]; simpa using h1
        rw [this]; simp [g4]
      have h4 : caps.map a.eval = #[] := by
        have : caps = #[] := by rw [← Array.toList_inj]; simpa using h2
        rw [this]; simp
      simp [execOp, ho, Instr.makeFunc, h3, h4, wrapC]
    · rw [hSr]
      exact define_bptr inv hd .nil g1 g2 g3 rfl
  · rename_i f x h1 h2
    simp only [Option.map_eq_some_iff] at h
    obtain ⟨⟨r, i⟩, hb, h⟩ := h
    simp only [prim1, Prod.mk.injEq] at h
    obtain ⟨rfl, rfl, rfl⟩ := h
    obtain ⟨vs, v, he, hp, rfl⟩ := prim_run hr
    obtain ⟨z, e1, rfl⟩ := evals_one he
    simp only [Prim.run, one, Option.some.injEq] at hp; subst hp
    obtain ⟨rfl, hSr, b, o', ty, g1, g2, g3, g4⟩ := boxRoot_sound hS inv hb e1
    refine ⟨rfl, wrapC (some (f, false)) (.pointer (some ⟨b, o' + 0, none⟩)), w, O, .inl ?_, ?_⟩
    · have h3 : caps.map a.eval = #[.pointer (some ⟨b, o', none⟩)] := by
        have : caps = #[x] := by rw [← Array.toList_inj]; simpa using h2
        rw [this]; simp [g4]
      have h4 : first.map a.eval = #[] := by
        have : first = #[] := by rw [← Array.toList_inj]; simpa using h1
        rw [this]; simp
      simp [execOp, ho, Instr.makeFunc, h3, h4, wrapC]
    · rw [hSr]
      exact define_bptr inv hd .nil g1 g2 g3 rfl
  · cases h

theorem MatchP.snoc {p : List (Option Nat)} {q : List Nat} (h : MatchP p q) {x : Option Nat} {i : Nat} (hx : x = Option.some i ∨ x = Option.none) : MatchP (p ++ [x]) (q ++ [i]) := by
  induction h with
  | nil => rcases hx with rfl | rfl
           · exact .some _ _ _ .nil
           · exact .none _ _ _ .nil
  | some i p q h ih => exact .some _ _ _ ih
  | none i p q h ih => exact .none _ _ _ ih

theorem Ty.at_snoc : ∀ {q : List Nat} {t : Ty} {l : List Ty} {o : Nat} {f : Nat} {tf : Ty}, Ty.at q t = some (.agg l, o) → l[f]? = some tf → Ty.at (q ++ [f]) t = some (tf, o + Ty.sizes (l.take f))
  | [], t, l, o, f, tf, h, hf => by
    simp [Ty.at] at h; obtain ⟨rfl, rfl⟩ := h
    simp [Ty.at, hf]
  | i :: q, .agg k, l, o, f, tf, h, hf => by
    simp only [Ty.at, Option.bind_eq_some_iff, Option.map_eq_some_iff] at h
    obtain ⟨t, ht, ⟨u, o'⟩, h1, h2⟩ := h
    cases h2
    have := Ty.at_snoc h1 hf
    simp [Ty.at, ht, this, Nat.add_assoc]
  | _ :: _, .sc, _, _, _, _, h, _ => by simp [Ty.at] at h
  | _ :: _, .sl _ _, _, _, _, _, h, _ => by simp [Ty.at] at h

theorem ptrTy_e {S : Vw} {r : Nat} {h : List Nat} {p : List (Option Nat)} {u : Ty} (hh : ptrTy S r (.e h p) = some u) : fresh S r = true ∧ ((rootTy S r).bind fun ty => (Ty.at h ty).bind fun (t, _) => match t with
    | .sl m e => if m == .dead then none else Ty.atAny p e
    | _ => none) = some u := by
  simp only [ptrTy] at hh
  exact if_some hh

theorem run_fieldPlace {f : Field} {tf : Ty} {z : PV} {k : Nat} (h : tyz P k f.type = some (tf, z)) (hs : 0 < tf.size) (b o' : Nat) :
    (fieldPlace ⟨b, o', none⟩ f).run P w = .ok ⟨b, o' + f.offset, none⟩ w := by
  unfold fieldPlace
  have : tf.size ≠ 0 := by omega
  simp [Sem.run_bind, tyz_size (w := w) h, this, addr_add]

theorem run_fieldAt {t : TypeId} {fs : Array Field} {f : Nat} {fl : Field} {tf : Ty} {z : PV} {k : Nat} (hu : P.underlying t = some (.struct fs)) (hf : fs[f]? = some fl) (h : tyz P k fl.type = some (tf, z)) (hs : 0 < tf.size) (b o' : Nat) :
    (Instr.fieldAt t (.pointer (some ⟨b, o', none⟩)) f).run P w = .ok (.pointer (some ⟨b, o' + fl.offset, none⟩)) w := by
  unfold Instr.fieldAt
  simp [Sem.run_bind, run_underlying hu, hf, Instr.sureAddr, run_fieldPlace h hs]

theorem ers_get {l l' : List Ty} (h : ers l = ers l') {i : Nat} {t : Ty} (ht : l[i]? = some t) : ∃ t', l'[i]? = some t' ∧ t.er = t'.er := by
  have h1 : (ers l)[i]? = some t.er := by simp [ers, ht]
  rw [h] at h1
  simp only [ers, List.getElem?_map, Option.map_eq_some_iff] at h1
  obtain ⟨t', h2, h3⟩ := h1
  exact ⟨t', h2, h3.symm⟩

theorem ers_take {l l' : List Ty} (h : ers l = ers l') (i : Nat) : Ty.sizes (l.take i) = Ty.sizes (l'.take i) := by
  have e1 : ers (l.take i) = (ers l).take i := by simp [ers]
  have e2 : ers (l'.take i) = (ers l').take i := by simp [ers]
  have e3 := sizes_ers (l.take i)
  have e4 := sizes_ers (l'.take i)
  rw [e1, h, ← e2, e4] at e3
  exact e3.symm

theorem isSh_er {t : Ty} (h : t.isSh = true) : t.er = t :=
  Ty.modAt_of_all (g := fun m => m == .sh) (fun p m hm => by cases m <;> simp at hm; rfl) 0 h

mutual
theorem tyz_isSh {P : Program} : ∀ {k : Nat} {t : TypeId} {ty : Ty} {z : PV}, tyz P k t = some (ty, z) → ty.isSh = true
  | 0, _, _, _, h => by simp [tyz] at h
  | k + 1, t, ty, z, h => by
    obtain ⟨i, v, hi, hs, hz, hm, h⟩ := tyz_succ h
    cases h with
    | bool => rfl
    | int => rfl
    | str => rfl
    | slice => rfl
    | array m e te z hu h1 =>
      have := tyz_isSh h1
      simp only [Ty.isSh, Ty.all]
      exact alls_replicate m this
    | struct fs ts zs hu h1 =>
      obtain ⟨t2, z2, rfl, rfl, h2, h3, h4⟩ := fold_struct _ _ _ _ _ h1
      simp only [Ty.isSh, Ty.all, List.nil_append]
      refine alls_of fun i t ht => ?_
      have hlt : i < fs.toList.length := by rw [← h2]; exact (List.getElem?_eq_some_iff.1 ht).1
      obtain ⟨tf, z, g1, g2, _⟩ := h4 i fs.toList[i] (by simp)
      rw [ht] at g2; cases g2
      exact tyz_isSh g1
theorem alls_replicate {t : Ty} (m : Nat) (h : t.isSh = true) : Ty.alls (fun m => m == .sh) (List.replicate m t) = true := by
  induction m with
  | zero => rfl
  | succ m ih => simp only [List.replicate_succ, Ty.alls, Bool.and_eq_true]; exact ⟨h, ih⟩
theorem alls_of {f : Md → Bool} : ∀ {l : List Ty}, (∀ (i : Nat) (t : Ty), l[i]? = some t → t.all f = true) → Ty.alls f l = true
  | [], _ => rfl
  | t :: ts, h => by
    simp only [Ty.alls, Bool.and_eq_true]
    exact ⟨h 0 t rfl, alls_of fun i u hu => h (i + 1) u (by simpa using hu)⟩
end

theorem tyOf_isSh {t : TypeId} {ty : Ty} (h : tyOf P t = some ty) : ty.isSh = true := by
  obtain ⟨z, h⟩ := tyOf_some h
  exact tyz_isSh h

theorem fieldAddr_sound (hS : Sub S0 S) (inv : Inv S s n w0 O0 a w O) (hd : d < n) {t : TypeId} {x : Operand} {f : Nat} (ho : o.op = .fieldAddr t x f) {rhs : VRhs} {av : AV} {us : List Up}
    (h : chkFieldAddr P S0 t x f = some (rhs, av, us)) (hr : rhs.run C s (some d) = some s') : us = [] ∧ Defd P S s' n w0 O0 a w o d av := by
  unfold chkFieldAddr at h
  simp only [Option.bind_eq_some_iff] at h
  obtain ⟨⟨r, k, i⟩, h1, ty, h2, h⟩ := h
  simp only [] at h h2
  split at h
  case h_2 => cases h
  case h_1 l l0 ht =>
  obtain ⟨hc, h⟩ := if_some h
  simp only [Bool.and_eq_true] at hc
  obtain ⟨⟨hc1, hc2⟩, hc3⟩ := hc
  obtain ⟨fs, hu⟩ := isStruct_true hc1
  obtain ⟨l1, e1, hlen, hfs⟩ := struct_ty ht hu
  cases e1
  have hers : ers l = ers l0 := by
    have h5 := Ty.beqs_eq hc3
    rw [modsAt_ers] at h5
    have h6 := tyOf_isSh ht
    have h7 := isSh_er h6
    rw [Ty.er_agg] at h7
    injection h7 with h7
    rw [h7]; exact h5
  cases hlf : l[f]? with
  | none => rw [hlf] at hc2; simp at hc2
  | some tf =>
  rw [hlf] at hc2; simp at hc2
  obtain ⟨tf1, hl1f, hef⟩ := ers_get hers hlf
  have hflt : f < fs.size := by rw [← hlen]; exact (List.getElem?_eq_some_iff.1 hl1f).1
  obtain ⟨tf2, z, g1, g2, g3⟩ := hfs f fs[f] (by simp [hflt])
  rw [hl1f] at g2; cases g2
  have hsz : tf.size = tf1.size := Ty.size_of_er hef
  have hoff : fs[f].offset = Ty.sizes (l.take f) := by rw [g3, ers_take hers]
  have hf : fs[f]? = some fs[f] := by simp [hflt]
  cases k with
  | b p =>
    simp [prim1] at h
    obtain ⟨rfl, rfl, rfl⟩ := h
    obtain ⟨vs, v, he, hp, rfl⟩ := prim_run hr
    obtain ⟨zz, e1, rfl⟩ := evals_one he
    simp only [Prim.run, one] at hp
    split at hp
    case h_2 => cases hp
    case h_1 q =>
    cases hp
    have hq := ptrX_eval e1
    have hne : get s r ≠ .undef := by
      simp only [ptrTy] at h2
      split at h2
      case h_2 => cases h2
      case h_1 ty0 hb =>
        have : (S0 r).av ≠ .dead := by rw [hb]; simp
        exact inv.boxes r ty0 (by rw [← hS.alive this]; exact hb)
    obtain ⟨tyr, b, o', u, off, k0, k1, k2, k3, k4, k5⟩ := rdP_b hS inv h1 hq hne
    simp only [ptrTy, k0, k1] at h2
    have := atAny_at k4 h2 k5
    subst this
    refine ⟨rfl, .pointer (some ⟨b, o' + (off + Ty.sizes (l.take f)), none⟩), w, O, .inl ?_, ?_⟩
    · have := run_fieldAt (P := P) (w := w) hu hf g1 (by omega) b (o' + off)
      simp [execOp, ho, k2, this, hoff, Nat.add_assoc]
    · rw [k0]
      exact define_bptr (k := none) inv hd (k4.snoc (.inl rfl)) k1 hne k3 (Ty.at_snoc k5 hlf)
  | e hp0 p =>
    simp [prim1] at h
    obtain ⟨rfl, rfl, rfl⟩ := h
    obtain ⟨vs, v, he, hp, rfl⟩ := prim_run hr
    obtain ⟨zz, e1, rfl⟩ := evals_one he
    simp only [Prim.run, one] at hp
    split at hp
    case h_2 => cases hp
    case h_1 q =>
    cases hp
    have hq := ptrX_eval e1
    obtain ⟨j, ip, tyr, csr, m, e, pos, ad, len, cap, u, off, k0, rfl, k2, k3, k4, k5, k6, k7, k8, k9, k10, k11⟩ := rdP_e hS inv h1 hq
    obtain ⟨_, h2⟩ := ptrTy_e h2
    simp only [rootTy_eq k0, k4, Option.bind_some, k6] at h2
    split at h2
    case isTrue => cases h2
    case isFalse =>
    have := atAny_at k2 h2 k10
    subst this
    refine ⟨rfl, .pointer (some ⟨ad.block, ad.off + (j * e.size + (off + Ty.sizes (l.take f))), none⟩), w, O, .inl ?_, ?_⟩
    · have := run_fieldAt (P := P) (w := w) hu hf g1 (by omega) ad.block (ad.off + (j * e.size + off))
      simp [execOp, ho, k11, this, hoff, Nat.add_assoc]
    · rw [k0]
      have := define_eptr inv hd (k2.snoc (.inl rfl)) k3 k4 k5 k6 k7 k8 k9 (Ty.at_snoc k10 hlf)
      simpa using this

end
end Go.Vm

/-
  Indexed addresses and loads.
  Conditions: none.
-/
set_option linter.unusedVariables false
set_option linter.unusedSimpArgs false
namespace Go.Vm

mutual
theorem LeTy.noOwn {T : Nat → Md → Prop} : ∀ {t : Ty} (p : Nat), t.noOwn = true → LeTy T p t t
  | .sc, p, _ => .sc p
  | .agg l, p, h => LeTy.noOwns p (by simpa only [Ty.noOwn, Ty.all] using h)
  | .sl m e, p, h => .sl p m m e (leMd_refl m) fun hm => by subst hm; simp [Ty.noOwn, Ty.all] at h
theorem LeTy.noOwns {T : Nat → Md → Prop} : ∀ {l : List Ty} (p : Nat), Ty.alls (fun m => m == .sh || m == .full) l = true → LeTy T p (.agg l) (.agg l)
  | [], p, _ => .nil p
  | t :: ts, p, h => by
    simp only [Ty.alls, Bool.and_eq_true] at h
    exact .cons p t t ts ts (LeTy.noOwn p h.1) (LeTy.noOwns _ h.2) rfl
end

/-- what owns nothing can be held by anybody -/
theorem Rep.noOwn {w w' : World} {O O' : OMap} {ρ ρ' : Option Nat} {t : Ty} {p p' : Nat} {x : PV} {cs : List Value} (hn : t.noOwn = true) (k : Keeps w O w' O') (h : Rep w O ρ t p x cs) :
    Rep w' O' ρ' t p' x cs :=
  Rep.shift (o := 0) (p := p) (p' := p') k (LeTy.noOwn 0 hn) h

theorem Keeps.refl (w : World) (O : OMap) : Keeps w O w O := fun _ h => ⟨h, rfl⟩

mutual
theorem RepSh.er {w : World} {O : OMap} : ∀ {t : Ty} {x : PV} {cs : List Value} (q : Nat), RepSh w O t x cs ↔ RepSh w O (t.modAt (fun _ _ => .sh) q) x cs
  | .sc, x, cs, _ => Iff.rfl
  | .agg l, x, cs, q => by
    simp only [Ty.modAt]; unfold RepSh
    constructor
    · rintro ⟨xs, hx, h⟩; exact ⟨xs, hx, (RepShs.er q).1 h⟩
    · rintro ⟨xs, hx, h⟩; exact ⟨xs, hx, (RepShs.er q).2 h⟩
  | .sl m e, x, cs, _ => by simp only [Ty.modAt]; exact ⟨RepSh.mode, RepSh.mode⟩
theorem RepShs.er {w : World} {O : OMap} : ∀ {l : List Ty} {xs : List PV} {cs : List Value} (q : Nat), RepShs w O l xs cs ↔ RepShs w O (Ty.modsAt (fun _ _ => .sh) q l) xs cs
  | [], xs, cs, _ => Iff.rfl
  | t :: ts, xs, cs, q => by
    simp only [Ty.modsAt]; unfold RepShs
    constructor
    · rintro ⟨y, ys, c1, c2, h1, h2, h3, h4⟩; exact ⟨y, ys, c1, c2, h1, h2, (RepSh.er q).1 h3, (RepShs.er _).1 h4⟩
    · rintro ⟨y, ys, c1, c2, h1, h2, h3, h4⟩; exact ⟨y, ys, c1, c2, h1, h2, (RepSh.er q).2 h3, (RepShs.er _).2 h4⟩
end

theorem Ty.er_isSh (t : Ty) : t.er.isSh = true := Ty.modAt_all (g := fun m => m == .sh) (fun _ _ => rfl) t 0

theorem RepSh.part {w : World} {O : OMap} {q : List Nat} {t u : Ty} {o : Nat} {x : PV} {cs : List Value} (ha : Ty.at q t = some (u, o)) (h : RepSh w O t x cs) :
    ∃ y, getP q x = some y ∧ RepSh w O u y ((cs.drop o).take u.size) ∧ o + u.size ≤ t.size := by
  have h1 : RepSh w O t.er x cs := (RepSh.er 0).1 h
  have h2 := (RepSh.rep (w := w) (O := O) none 0 (Ty.er_isSh t)).1 h1
  obtain ⟨u', ha', he⟩ := Ty.at_er (t' := t.er) q (by rw [isSh_er (Ty.er_isSh t)]) ha
  obtain ⟨y, hy, hr, hs⟩ := Rep.part q ha' h2
  have hsz := Ty.size_of_er he
  have hu' : u'.isSh = true := at_isSh q (Ty.er_isSh t) ha'
  refine ⟨y, hy, ?_, by rw [hsz]; rw [Ty.er_size] at hs; exact hs⟩
  have h3 := (RepSh.rep (w := w) (O := O) none _ hu').2 hr
  have h4 : RepSh w O u.er y ((cs.drop o).take u'.size) := by rw [he]; exact (RepSh.er 0).1 h3
  rw [hsz]
  exact (RepSh.er 0).2 h4
where
  at_isSh : ∀ (q : List Nat) {t u : Ty} {o : Nat}, t.isSh = true → Ty.at q t = some (u, o) → u.isSh = true
    | [], t, u, o, h, ha => by simp [Ty.at] at ha; rw [← ha.1]; exact h
    | i :: q, .agg l, u, o, h, ha => by
      simp only [Ty.at, Option.bind_eq_some_iff, Option.map_eq_some_iff] at ha
      obtain ⟨t, ht, ⟨u2, o2⟩, h1, h2⟩ := ha
      cases h2
      simp only [Ty.isSh, Ty.all] at h
      exact at_isSh q (alls_get h ht) h1
    | _ :: _, .sc, _, _, _, ha => by simp [Ty.at] at ha
    | _ :: _, .sl _ _, _, _, _, ha => by simp [Ty.at] at ha
  alls_get : ∀ {l : List Ty} {i : Nat} {t : Ty}, Ty.alls (fun m => m == .sh) l = true → l[i]? = some t → t.isSh = true
    | [], _, _, _, h => by simp at h
    | u :: us, 0, t, h, ht => by simp at ht; subst ht; simp only [Ty.alls, Bool.and_eq_true] at h; exact h.1
    | u :: us, i + 1, t, h, ht => by simp only [Ty.alls, Bool.and_eq_true] at h; exact alls_get h.2 (by simpa using ht)

section
variable {P : Program} {S0 S : Vw} {s s' : St} {n : Nat} {w0 : World} {O0 : OMap} {a : Act} {w : World} {O : OMap} {C : Env} {o : Oper} {d : Nat}

theorem replicate_shape {l : List Ty} {m : Nat} {te : Ty} (h : (Ty.agg l).sh = .agg (List.replicate m te)) : l.length = m ∧ (∀ i, i < m → ∃ t, l[i]? = some t ∧ t.size = te.size) ∧ ∀ i, i ≤ m → Ty.sizes (l.take i) = i * te.size := by
  have h1 : ers l = List.replicate m te.er := by
    have h2 : (Ty.agg l).er = (Ty.agg (List.replicate m te)).er := by rw [← h, sh_er]
    rw [Ty.er_agg, Ty.er_agg] at h2
    injection h2 with h2
    rw [h2]; simp [ers]
  have hlen : l.length = m := by
    have := congrArg List.length h1
    simpa [ers] using this
  refine ⟨hlen, fun i hi => ?_, fun i hi => ?_⟩
  · have hlt : i < l.length := by omega
    refine ⟨l[i], by simp [hlt], ?_⟩
    have h3 : (ers l)[i]? = some l[i].er := by simp [ers, hlt]
    rw [h1, List.getElem?_replicate, if_pos hi] at h3
    injection h3 with h3
    exact (Ty.size_of_er h3).symm
  · have e1 : ers (l.take i) = List.replicate i te.er := by
      have : ers (l.take i) = (ers l).take i := by simp [ers]
      rw [this, h1, List.take_replicate, Nat.min_eq_left hi]
    rw [← sizes_ers, e1]
    clear e1 hi
    induction i with
    | zero => simp [Ty.sizes]
    | succ i ih => simp only [List.replicate_succ, Ty.sizes, ih, Ty.er_size, Nat.succ_mul]; omega

theorem run_indexAt_array {t e : TypeId} {m k : Nat} {te : Ty} {z : PV} (hu : P.underlying t = some (.array m e)) (he : tyz P k e = some (te, z)) {ik : IntKind} {i : Int} (h0 : 0 ≤ i) (h1 : i < m) (b o' : Nat) :
    (Instr.indexAt t (.pointer (some ⟨b, o', none⟩)) (.int ik i)).run P w = .ok (.pointer (some ⟨b, o' + i.toNat * te.size, none⟩)) w := by
  unfold Instr.indexAt
  simp [Sem.run_bind, run_underlying hu, asIntOf, Instr.sureAddr, h0, h1, tyz_size (w := w) he, addr_add]

theorem addr_add' (a : Addr) (h : a.spot = none) (j : Nat) : a.add j = ⟨a.block, a.off + j, none⟩ := by
  cases a; simp at h; subst h; exact addr_add _ _ _

theorem run_indexAt_slice {t e : TypeId} {k len cap : Nat} {te : Ty} {z : PV} (hu : P.underlying t = some (.slice e)) (he : tyz P k e = some (te, z)) {ik : IntKind} {i : Int} (h0 : 0 ≤ i) (h1 : i < len) {ad : Addr} (hs : ad.spot = none) :
    (Instr.indexAt t (.slice (some ad) len cap) (.int ik i)).run P w = .ok (.pointer (some ⟨ad.block, ad.off + i.toNat * te.size, none⟩)) w := by
  unfold Instr.indexAt
  simp [Sem.run_bind, run_underlying hu, asIntOf, Instr.sureAddr, h0, h1, tyz_size (w := w) he, addr_add' ad hs]

/-- the content of a root that is a temporary of its own or an alias -/
theorem cellsOf_tmp {i : Nat} {ty : Ty} (h : (S i).av = .val ty ∨ ∃ r p q c, (S i).av = .alias ty r p q c) {cs : List Value} (hw : Wrap ty (val a i) cs) : CellsOf a w S i cs ∧ rootTy S i = some ty := by
  rcases h with h | ⟨r, p, q, c, h⟩ <;> simp [CellsOf, rootTy, h, hw]

theorem rd_tmp_av {t : TypeId} {i : Nat} {vx : VX} {ty : Ty} {org : Org} (hS : Sub S0 S) (h : rd P S0 t (.tmp i) = some (vx, ty, org)) :
    S0 i = S i ∧ vx = .tmp i ∧ ((S i).av = .val ty ∧ org = some (i, 0, some []) ∨ ∃ r p q c, (S i).av = .alias ty r p q c ∧ org = some (r, p, q) ∧ (S r).c = c ∧ S0 r = S r) := by
  simp only [rd] at h
  have hal : (S0 i).av ≠ .dead := by intro hd; simp [hd] at h
  have hSi := hS.alive hal
  rw [hSi] at h
  refine ⟨hSi, ?_⟩
  cases hav : (S i).av <;> rw [hav] at h <;> simp at h
  case val ty0 =>
    obtain ⟨h0, rfl, rfl, rfl⟩ := h
    exact ⟨rfl, .inl ⟨rfl, rfl⟩⟩
  case alias ty0 r pos p c =>
    obtain ⟨⟨⟨h0, h00⟩, h01⟩, rfl, rfl, rfl⟩ := h
    have hr := hS.alive (alive_ne h01)
    exact ⟨rfl, .inr ⟨r, pos, p, c, rfl, rfl, by rw [← hr]; exact h00, hr⟩⟩

/-- An element of a slice: the root is the one that the operand is an exact alias of, or the operand itself. -/
theorem slice_root (hS : Sub S0 S) (inv : Inv S s n w0 O0 a w O) {t : TypeId} {i : Nat} {vx : VX} {ty : Ty} {org : Org} (h : rd P S0 t (.tmp i) = some (vx, ty, org)) {nl : Bool} {xs : List PV}
    (he : vx.eval s = some (.slice nl xs)) :
    ∃ m e, ty = .sl m e ∧ SlV w O e nl xs (val a i) ∧
      (∃ tyr csr, get s i ≠ .undef ∧ rootTy S i = some tyr ∧ CellsOf a w S i csr ∧ Ty.at [] tyr = some (.sl m e, 0) ∧ csr[0]? = some (val a i)) ∧
      (∀ r pos q, org = some (r, pos, some q) → S0 r = S r ∧ ∃ m' tyr csr, get s r ≠ .undef ∧ rootTy S r = some tyr ∧ CellsOf a w S r csr ∧ Ty.at q tyr = some (.sl m' e, pos) ∧ csr[pos]? = some (val a i)) := by
  obtain ⟨m, e, rfl, hm, h1, h2⟩ := rd_slice hS inv h he
  obtain ⟨hSi, rfl, hcase⟩ := rd_tmp_av hS h
  obtain ⟨hne, hg⟩ := undef_ne he
  have hlt : i < n := lt_of_alive inv (by rcases hcase with ⟨hav, _⟩ | ⟨r, p, q, c, hav, _⟩ <;> rw [hav] <;> simp)
  have hok := (inv.cell i hlt).resolve_left hne
  have hw : Wrap (.sl m e) (val a i) [val a i] := rfl
  have hav' : (S i).av = .val (.sl m e) ∨ ∃ r p q c, (S i).av = .alias (.sl m e) r p q c := by
    rcases hcase with ⟨hav, _⟩ | ⟨r, p, q, c, hav, _⟩
    · exact .inl hav
    · exact .inr ⟨r, p, q, c, hav⟩
  obtain ⟨hc1, hc2⟩ := cellsOf_tmp (w := w) hav' hw
  refine ⟨m, e, rfl, h1, ⟨_, _, hne, hc2, hc1, rfl, rfl⟩, fun r pos q horg => ?_⟩
  rcases hcase with ⟨hav, ho⟩ | ⟨r', p, q', c, hav, ho, hc, hr⟩
  · rw [ho] at horg
    injection horg with horg; injection horg with e1 e2; injection e2 with e2 e3; injection e3 with e3
    subst e1; subst e2; subst e3
    exact ⟨hSi, m, _, _, hne, hc2, hc1, rfl, rfl⟩
  · rw [ho] at horg
    injection horg with horg; injection horg with e1 e2; injection e2 with e2 e3
    subst e1; subst e2; subst e3
    simp only [CellOK, hav] at hok
    obtain ⟨cs, g1, g2, g3⟩ := hok hc
    have := Wrap.unique g1 hw
    subst this
    obtain ⟨k1, tyr, csr, ty0, k2, k3, k4, k5, k6, k7⟩ := g3 q rfl
    obtain ⟨m', rfl⟩ := Ty.er_sl (m' := m) k6.symm
    refine ⟨hr, m', tyr, csr, k1, k2, k3, k5, ?_⟩
    have : ((csr.drop p).take 1)[0]? = some (val a i) := by
      have := congrArg (fun l => l[0]?) k7
      simpa [Ty.size] using this
    simpa [List.getElem?_take, List.getElem?_drop] using this

theorem indexAddr_sound (hS : Sub S0 S) (inv : Inv S s n w0 O0 a w O) (hd : d < n) {t : TypeId} {x ix : Operand} (ho : o.op = .indexAddr t x ix) {rhs : VRhs} {av : AV} {us : List Up}
    (h : chkIndexAddr P S0 t x ix = some (rhs, av, us)) (hr : rhs.run C s (some d) = some s') : us = [] ∧ Defd P S s' n w0 O0 a w o d av := by
  unfold chkIndexAddr at h
  simp only [Option.bind_eq_some_iff] at h
  obtain ⟨⟨u, ti, oi⟩, h1, h⟩ := h
  simp only [] at h
  split at h
  case h_2 => cases h
  case h_1 =>
  split at h
  case h_1 m e hk =>
    have hu := isArray_some hk
    simp only [Option.bind_eq_some_iff] at h
    obtain ⟨⟨r, k, i⟩, h2, ty, h3, h⟩ := h
    simp only [] at h h3
    by_cases hm0 : matchesTy P t ty = true
    case neg => simp [hm0] at h
    simp only [hm0, if_true] at h
    have hm := matchesTy_some hm0
    clear hm0
    obtain ⟨te, z, hty, hte⟩ := array_ty hm hu
    obtain ⟨l, rfl⟩ := sh_agg hty
    obtain ⟨hlen, hget, htake⟩ := replicate_shape hty
    cases k with
    | b p =>
      simp [prim1] at h
      obtain ⟨rfl, rfl, rfl⟩ := h
      obtain ⟨vs, v, he, hp, rfl⟩ := prim_run hr
      obtain ⟨zz, yy, e1, e2, rfl⟩ := evals_two he
      simp only [Prim.run, two] at hp
      cases zz <;> cases yy <;> simp [aptrV] at hp
      case ptr.int q ik iv =>
      obtain ⟨⟨hp1, hp2⟩, rfl⟩ := hp
      have hq := ptrX_eval e1
      have hne : get s r ≠ .undef := by
        simp only [ptrTy] at h3
        split at h3
        case h_2 => cases h3
        case h_1 ty0 hb =>
          have : (S0 r).av ≠ .dead := by rw [hb]; simp
          exact inv.boxes r ty0 (by rw [← hS.alive this]; exact hb)
      obtain ⟨tyr, b, o', u', off, k0, k1, k2, k3, k4, k5⟩ := rdP_b hS inv h2 hq hne
      simp only [ptrTy, k0, k1] at h3
      have := atAny_at k4 h3 k5
      subst this
      obtain ⟨t', ht', hsz⟩ := hget iv.toNat (by omega)
      have hix := rd_int hS inv h1 e2
      refine ⟨rfl, .pointer (some ⟨b, o' + (off + Ty.sizes (l.take iv.toNat)), none⟩), w, O, .inl ?_, ?_⟩
      · have := run_indexAt_array (P := P) (w := w) (ik := ik) hu hte hp1 hp2 b (o' + off)
        rw [htake iv.toNat (by omega)]
        simp [execOp, ho, k2, hix, this, Nat.add_assoc]
      · rw [k0]
        exact define_bptr (k := none) inv hd (k4.snoc (.inr rfl)) k1 hne k3 (Ty.at_snoc k5 ht')
    | e hp0 p =>
      simp [prim1] at h
      obtain ⟨rfl, rfl, rfl⟩ := h
      obtain ⟨vs, v, he, hp, rfl⟩ := prim_run hr
      obtain ⟨zz, yy, e1, e2, rfl⟩ := evals_two he
      simp only [Prim.run, two] at hp
      cases zz <;> cases yy <;> simp [aptrV] at hp
      case ptr.int q ik iv =>
      obtain ⟨⟨hp1, hp2⟩, rfl⟩ := hp
      have hq := ptrX_eval e1
      obtain ⟨j, ip, tyr, csr, m', e', pos, ad, len, cap, u', off, k0, rfl, k2, k3, k4, k5, k6, k7, k8, k9, k10, k11⟩ := rdP_e hS inv h2 hq
      obtain ⟨_, h3⟩ := ptrTy_e h3
      simp only [rootTy_eq k0, k4, Option.bind_some, k6] at h3
      split at h3
      case isTrue => cases h3
      case isFalse =>
      have := atAny_at k2 h3 k10
      subst this
      obtain ⟨t', ht', hsz⟩ := hget iv.toNat (by omega)
      have hix := rd_int hS inv h1 e2
      refine ⟨rfl, .pointer (some ⟨ad.block, ad.off + (j * e'.size + (off + Ty.sizes (l.take iv.toNat))), none⟩), w, O, .inl ?_, ?_⟩
      · have := run_indexAt_array (P := P) (w := w) (ik := ik) hu hte hp1 hp2 ad.block (ad.off + (j * e'.size + off))
        rw [htake iv.toNat (by omega)]
        simp [execOp, ho, k11, hix, this, Nat.add_assoc]
      · rw [k0]
        have := define_eptr inv hd (k2.snoc (.inr rfl)) k3 k4 k5 k6 k7 k8 k9 (Ty.at_snoc k10 ht')
        simpa using this
  case h_2 hna =>
    split at h
    case h_2 => cases h
    case h_1 i =>
    simp only [Option.bind_eq_some_iff] at h
    obtain ⟨⟨v, ty, org⟩, h2, h⟩ := h
    simp only [] at h
    obtain ⟨hm, h⟩ := if_some h
    simp only [Bool.and_eq_true] at hm
    obtain ⟨hm1, hm2⟩ := hm
    obtain ⟨e, hm1⟩ := Option.isSome_iff_exists.1 hm1
    have hu := isSlice_some hm1
    obtain ⟨te, z, hty, hte, hpos⟩ := slice_ty (matchesTy_some hm2) hu
    have main : ∀ (base : List Nat) (av' : AV), rhs = .prim (.iptr base) [v, u] → (∀ (j : Nat) m' ad len cap, val a i = .slice (some ad) len cap → ad.spot = none → j < len → ty = .sl m' te →
        Inv (defV S d av') (s.set d (.ptr (base ++ j :: []))) n w0 O0 (a.put (some d) (.pointer (some ⟨ad.block, ad.off + (j * te.size + 0), none⟩))) w O) → Defd P S s' n w0 O0 a w o d av' := by
      intro base av' hrhs hdef
      subst hrhs
      obtain ⟨vs, v', he, hp, rfl⟩ := prim_run hr
      obtain ⟨zz, yy, e1, e2, rfl⟩ := evals_two he
      simp only [Prim.run, two] at hp
      cases zz <;> cases yy <;> simp [iptrV] at hp
      case slice.int nl xs ik iv =>
      obtain ⟨⟨hp1, hp2⟩, rfl⟩ := hp
      have hix := rd_int hS inv h1 e2
      obtain ⟨m', e', rfl, g1, _⟩ := slice_root hS inv h2 e1
      have hee : e' = te := by simp [Ty.sh, Ty.modAt] at hty; exact hty.2
      subst hee
      rcases g1 with ⟨_, rfl, _⟩ | ⟨_, ad, cap, g2, g3, _⟩
      · simp at hp2; omega
      · refine ⟨.pointer (some ⟨ad.block, ad.off + (iv.toNat * e'.size + 0), none⟩), w, O, .inl ?_, hdef iv.toNat m' ad xs.length cap g2 g3 (by omega) rfl⟩
        have := run_indexAt_slice (P := P) (w := w) (ik := ik) (cap := cap) hu hte hp1 hp2 g3
        have hev : a.eval (.tmp i) = .slice (some ad) xs.length cap := g2
        simp [execOp, ho, hev, hix, this]
    split at h
    case h_1 r pos q _ =>
      simp [prim1] at h
      obtain ⟨rfl, rfl, rfl⟩ := h
      refine ⟨rfl, main _ _ rfl fun j m' ad len cap g1 g2 g3 g4 => ?_⟩
      obtain ⟨vs, v', he, hp, hss⟩ := prim_run hr
      obtain ⟨zz, yy, e1, e2, rfl⟩ := evals_two he
      simp only [Prim.run, two] at hp
      cases zz <;> cases yy <;> simp [iptrV] at hp
      case slice.int nl xs ik iv =>
      obtain ⟨m2, e', rfl, _, _, hroot⟩ := slice_root hS inv h2 e1
      cases g4
      obtain ⟨hr0, m3, tyr, csr, k1, k2, k3, k4, k5⟩ := hroot r pos q rfl
      rw [hr0]
      rw [g1] at k5
      exact define_eptr inv hd .nil k1 k2 k3 k4 k5 g2 g3 rfl
    case h_2 =>
      simp [prim1] at h
      obtain ⟨rfl, rfl, rfl⟩ := h
      refine ⟨rfl, main _ _ rfl fun j m' ad len cap g1 g2 g3 g4 => ?_⟩
      obtain ⟨vs, v', he, hp, hss⟩ := prim_run hr
      obtain ⟨zz, yy, e1, e2, rfl⟩ := evals_two he
      simp only [Prim.run, two] at hp
      cases zz <;> cases yy <;> simp [iptrV] at hp
      case slice.int nl xs ik iv =>
      obtain ⟨m2, e', rfl, _, ⟨tyr, csr, k1, k2, k3, k4, k5⟩, _⟩ := slice_root hS inv h2 e1
      cases g4
      obtain ⟨hSi, _⟩ := rd_tmp_av hS h2
      rw [hSi]
      rw [g1] at k5
      exact define_eptr inv hd (hp := []) .nil k1 k2 k3 k4 k5 g2 g3 rfl

end
end Go.Vm

/-
  Loads.
  Conditions: none.
-/
set_option linter.unusedVariables false
set_option linter.unusedSimpArgs false
namespace Go.Vm
section
variable {P : Program} {S0 S : Vw} {s s' : St} {n : Nat} {w0 : World} {O0 : OMap} {a : Act} {w : World} {O : OMap} {C : Env} {o : Oper} {d : Nat}

/-- a value that owns nothing is defined -/
theorem define_val (inv : Inv S s n w0 O0 a w O) (hd : d < n) {w' : World} {O' : OMap} (g : Grown w w' O O' d) {ty : Ty} {x : PV} {v : Value} {cs : List Value} (hw : Wrap ty v cs)
    (h : Rep w' O' (some d) ty 0 x cs) : Inv (defV S d (.val ty)) (s.set d x) n w0 O0 (a.put (some d) v) w' O' := by
  refine inv.define hd g _ _ _ (by simp [VersOK, defV]) (fun _ => rfl) (.inr ?_)
  simp only [CellOK, defV_eq]
  refine ⟨cs, ?_, ?_⟩
  · rw [val_put _ _ _ _ (by rw [inv.size]; exact hd), if_pos rfl]; exact hw
  · rw [get_set _ _ _ _ (by rw [inv.slen]; exact hd), if_pos rfl]; exact h

/-- an alias is defined -/
theorem define_alias (inv : Inv S s n w0 O0 a w O) (hd : d < n) {ty : Ty} {r pos : Nat} {p : Option (List Nat)} {x : PV} {v : Value} {cs : List Value} (hw : Wrap ty v cs) (h : Rep w O (some r) ty pos x cs)
    (hx : ∀ q, p = some q → get s r ≠ .undef ∧ ∃ tyr csr ty0, rootTy S r = some tyr ∧ CellsOf a w S r csr ∧ getP q (get s r) = some x ∧ Ty.at q tyr = some (ty0, pos) ∧ ty0.er = ty.er ∧ (csr.drop pos).take ty.size = cs) :
    Inv (defV S d (.alias ty r pos p (S r).c)) (s.set d x) n w0 O0 (a.put (some d) v) w O := by
  refine inv.define hd (Grown.refl d inv.frame.alloc) _ _ _ ?_ (fun _ => rfl) (.inr ?_)
  · simp only [VersOK, defV_eq]
    by_cases hr : r = d
    · subst hr; simp [defV_eq]
    · rw [defV_ne _ _ hr]; exact Nat.le_refl _
  · simp only [CellOK, defV_eq]
    intro hv
    by_cases hr : r = d
    · subst hr; rw [defV_eq] at hv; simp at hv
    · refine ⟨cs, ?_, ?_, fun q hq => ?_⟩
      · rw [val_put _ _ _ _ (by rw [inv.size]; exact hd), if_pos rfl]; exact hw
      · rw [get_set _ _ _ _ (by rw [inv.slen]; exact hd), if_pos rfl]; exact h
      · obtain ⟨h1, tyr, csr, ty0, h2, h3, h4, h5, h6, h7⟩ := hx q hq
        rw [get_set _ _ _ _ (by rw [inv.slen]; exact hd), if_neg hr, get_set _ _ _ _ (by rw [inv.slen]; exact hd), if_pos rfl]
        exact ⟨h1, tyr, csr, ty0, by rw [rootTy_def hr]; exact h2, cellsOf_def inv hd hr h3, h4, h5, h6, h7⟩

theorem evals_load {r : Nat} {i : Option Nat} {v : PV} {vs : List PV} (h : evals s [.tmp r, ptrX i] = some vs) (hp : Prim.load.run vs = some v) :
    ∃ x q, get s r ≠ .undef ∧ get s r = x ∧ pathAt s i = some q ∧ getP q x = some v := by
  obtain ⟨x, y, e1, e2, rfl⟩ := evals_two h
  simp only [Prim.run, two] at hp
  split at hp
  case h_2 => cases hp
  case h_1 x0 y0 q =>
    exact ⟨_, q, (undef_ne e1).1, (undef_ne e1).2, ptrX_eval e2, hp⟩

theorem static_match : ∀ {p : List (Option Nat)} {q q' : List Nat}, static p = some q → MatchP p q' → q = q'
  | [], q, q', h, hm => by cases hm; simp [static] at h; exact h
  | some i :: p, q, q', h, hm => by
    cases hm
    simp only [static, Option.map_eq_some_iff] at h
    obtain ⟨q2, h1, rfl⟩ := h
    rename_i hm
    rw [static_match h1 hm]
  | none :: p, q, q', h, hm => by simp [static] at h

/-- the value of a root that is not out of date -/
theorem root_rep (hS : Sub S0 S) (inv : Inv S s n w0 O0 a w O) {r : Nat} (h0 : S0 r = S r) (hf : fresh S0 r = true) {tyr : Ty} {csr : List Value} (k3 : get s r ≠ .undef) (k4 : rootTy S r = some tyr) (k5 : CellsOf a w S r csr) :
    ∃ ρ p0, Rep w O ρ tyr p0 (get s r) csr := by
  have hlt : r < n := lt_of_alive inv (rootTy_alive k4)
  have hok := (inv.cell r hlt).resolve_left k3
  unfold rootTy at k4
  unfold CellsOf at k5
  unfold CellOK at hok
  unfold fresh at hf
  rw [h0] at hf
  cases hav : (S r).av <;> rw [hav] at k4 k5 hok hf <;> simp only [Option.some.injEq] at k4 k5 hok hf <;> try (first | cases k4 | cases k5)
  case val => obtain ⟨cs, q1, q2⟩ := hok; have := Wrap.unique q1 k5; subst this; exact ⟨_, _, q2⟩
  case alias =>
    simp only [Bool.and_eq_true, beq_iff_eq] at hf
    have := hS.alive (alive_ne hf.2)
    obtain ⟨cs, q1, q2, _⟩ := hok (by rw [← this]; exact hf.1)
    have := Wrap.unique q1 k5; subst this; exact ⟨_, _, q2⟩
  case box =>
    obtain ⟨b, o', cs, q1, q2, q3, q4⟩ := hok
    obtain ⟨b', o2, q5, q6⟩ := k5
    rw [q1] at q5; cases q5
    obtain ⟨c, el, fr, z1, z2, z3, z4⟩ := q3
    obtain ⟨c', el', fr', z1', z2', z3', z4'⟩ := q6
    rw [z1] at z1'; cases z1'
    rw [z4'] ; rw [← z4]
    exact ⟨_, _, q4⟩

theorem getP_append : ∀ (p q : List Nat) (x y : PV), getP p x = some y → getP (p ++ q) x = getP q y
  | [], q, x, y, h => by simp [getP] at h; subst h; rfl
  | i :: p, q, .agg xs, y, h => by
    simp only [getP, Option.bind_eq_some_iff] at h
    obtain ⟨z, h1, h2⟩ := h
    simp [getP, h1, getP_append p q z y h2]
  | i :: p, q, .slice nl xs, y, h => by
    simp only [getP, Option.bind_eq_some_iff] at h
    obtain ⟨z, h1, h2⟩ := h
    simp [getP, h1, getP_append p q z y h2]
  | _ :: _, _, .undef, _, h => by simp [getP] at h
  | _ :: _, _, .bool _, _, h => by simp [getP] at h
  | _ :: _, _, .int _ _, _, h => by simp [getP] at h
  | _ :: _, _, .str _, _, h => by simp [getP] at h
  | _ :: _, _, .tup _, _, h => by simp [getP] at h
  | _ :: _, _, .ptr _, _, h => by simp [getP] at h

/-- the header of a slice part, out of its root -/
theorem header_rep {ρ : Option Nat} {tyr : Ty} {p0 : Nat} {x : PV} {csr : List Value} {hp : List Nat} {m : Md} {e : Ty} {pos : Nat} (h : Rep w O ρ tyr p0 x csr) (ha : Ty.at hp tyr = some (.sl m e, pos)) (hm : m ≠ .dead)
    {ad : Addr} {len cap : Nat} (hc : csr[pos]? = some (.slice (some ad) len cap)) : ∃ xs, getP hp x = some (.slice false xs) ∧ xs.length = len ∧ SlV w O e false xs (.slice (some ad) len cap) ∧
      Rep w O ρ (.sl m e) (p0 + pos) (.slice false xs) [.slice (some ad) len cap] := by
  obtain ⟨y, hy, hr, hs⟩ := Rep.part hp ha h
  have e1 : (csr.drop pos).take (Ty.size (.sl m e)) = [.slice (some ad) len cap] := by
    have hlt := (List.getElem?_eq_some_iff.1 hc).1
    simp only [Ty.size]
    rw [List.drop_eq_getElem_cons hlt]
    have := (List.getElem?_eq_some_iff.1 hc).2
    simp [this]
  rw [e1] at hr
  have hsl : ∃ nl xs, y = .slice nl xs := by
    simp only [Rep] at hr
    cases m with
    | dead => exact absurd rfl hm
    | sh => simp only [SlRep, RepSh] at hr; obtain ⟨nl, xs, h1, _⟩ := hr; exact ⟨nl, xs, h1⟩
    | full => simp only [SlRep, RepSh] at hr; obtain ⟨⟨nl, xs, h1, _⟩, _⟩ := hr; exact ⟨nl, xs, h1⟩
    | own => obtain ⟨nl, xs, h1, _⟩ := hr; exact ⟨nl, xs, h1⟩
  obtain ⟨nl, xs, rfl⟩ := hsl
  have hv := Rep.slv hm hr
  rcases hv with ⟨_, _, h3⟩ | ⟨h1, ad', cap', h3, h4⟩
  · cases h3
  · cases h3; subst h1
    exact ⟨xs, hy, rfl, .inr ⟨rfl, ad, cap, rfl, h4⟩, hr⟩

theorem Wrap.of_er {t t' : Ty} (h : t.er = t'.er) {v : Value} {cs : List Value} (hw : Wrap t v cs) : Wrap t' v cs := hw.er h

theorem load_sound (hS : Sub S0 S) (inv : Inv S s n w0 O0 a w O) (hd : d < n) {t : TypeId} {x : Operand} (ho : o.op = .load t x) {rhs : VRhs} {av : AV} {us : List Up}
    (h : chkLoad P S0 t x = some (rhs, av, us)) (hr : rhs.run C s (some d) = some s') : us = [] ∧ Defd P S s' n w0 O0 a w o d av := by
  unfold chkLoad at h
  simp only [Option.bind_eq_some_iff] at h
  obtain ⟨⟨r, k, i⟩, h1, ty, h2, h⟩ := h
  simp only [] at h h2
  by_cases hm0 : (ty.noDead && matchesTy P t ty) = true
  case neg => simp [hm0] at h
  simp only [hm0, if_true] at h
  simp only [Bool.and_eq_true] at hm0
  obtain ⟨hnd, hm⟩ := hm0
  have hm := matchesTy_some hm
  cases k with
  | e hp0 p =>
    simp only [] at h
    by_cases hsh : ty.isSh = true
    case neg => simp [hsh] at h
    simp [hsh, prim1] at h
    obtain ⟨rfl, rfl, rfl⟩ := h
    obtain ⟨vs, v, he, hp, rfl⟩ := prim_run hr
    obtain ⟨xr, q, g1, g2, g3, g4⟩ := evals_load he hp
    obtain ⟨j, ip, tyr, csr, m', e', pos, ad, len, cap, u', off, k0, rfl, k2, k3, k4, k5, k6, k7, k8, k9, k10, k11⟩ := rdP_e hS inv h1 g3
    obtain ⟨hf, h2⟩ := ptrTy_e h2
    simp only [rootTy_eq k0, k4, Option.bind_some, k6] at h2
    split at h2
    case isTrue => cases h2
    case isFalse hnd' =>
    have := atAny_at k2 h2 k10
    subst this
    obtain ⟨ρ, p0, hroot⟩ := root_rep hS inv k0 hf k3 k4 k5
    obtain ⟨xs, z1, z2, z3, _⟩ := header_rep hroot k6 (by intro hx; simp [hx] at hnd') k7
    subst g2
    rw [getP_append _ _ _ _ z1] at g4
    simp only [getP, Option.bind_eq_some_iff] at g4
    obtain ⟨y, hy, hyv⟩ := g4
    rcases z3 with ⟨hx, _⟩ | ⟨_, ad', cap', hx, _, _, hmem⟩
    · cases hx
    cases hx
    rcases hmem with rfl | ⟨c, el, fr, c1, c2, c3⟩
    · simp at hy
    have hrow := c3 j y hy
    obtain ⟨y', hy', hr', hs'⟩ := RepSh.part k10 hrow
    rw [hyv] at hy'; cases hy'
    have hsz := Ty.er_size u'
    have hsz2 : u'.sh.size = u'.size := modAt_size _ u' 0
    have hj : j + 1 ≤ xs.length := by omega
    have hmul : (j + 1) * e'.size ≤ xs.length * e'.size := Nat.mul_le_mul_right _ hj
    rw [Nat.succ_mul] at hmul
    rw [cellsAt_cellsAt (by omega)] at hr'
    have hin : ad.off + (j * e'.size + off) + u'.sh.size ≤ c.size := by omega
    obtain ⟨vv, hv1, hv2⟩ := run_loadVar_ty (P := P) (w := w) hm c1 hin (sh_er u')
    refine ⟨rfl, vv, w, O, .inl ?_, ?_⟩
    · simp [execOp, ho, k11, Instr.loadAt, Instr.sureAddr, hv1]
    · refine define_val inv hd (Grown.refl d inv.frame.alloc) (cs := cellsAt c (ad.off + (j * e'.size + off)) u'.size) ?_ ?_
      · rw [hsz2] at hv2; exact hv2
      · rw [Nat.add_assoc] at hr'
        exact (RepSh.rep (some d) 0 hsh).1 hr'
  | b p =>
    simp only [] at h
    have hne : get s r ≠ .undef := by
      simp only [ptrTy] at h2
      split at h2
      case h_2 => cases h2
      case h_1 ty0 hb =>
        have : (S0 r).av ≠ .dead := by rw [hb]; simp
        exact inv.boxes r ty0 (by rw [← hS.alive this]; exact hb)
    have main : rhs = .prim .load [.tmp r, ptrX i] → ∃ q tyr csr off v vv, s' = s.set d v ∧ S0 r = S r ∧ (S r).av = .box tyr ∧ MatchP p q ∧ Ty.at q tyr = some (ty, off) ∧ getP q (get s r) = some v ∧
        CellsOf a w S r csr ∧ Rep w O (some r) tyr 0 (get s r) csr ∧ Rep w O (some r) ty off v ((csr.drop off).take ty.size) ∧ Wrap ty vv ((csr.drop off).take ty.size) ∧ (execOp a.eval o).run P w = .ok (.value vv) w := by
      intro hrhs
      subst hrhs
      obtain ⟨vs, v, he, hp, rfl⟩ := prim_run hr
      obtain ⟨xr, q, g1, g2, g3, g4⟩ := evals_load he hp
      obtain ⟨tyr, b, o', u, off, k0, k1, k2, k3, k4, k5⟩ := rdP_b hS inv h1 g3 hne
      simp only [ptrTy, k0, k1] at h2
      have := atAny_at k4 h2 k5
      subst this
      subst g2
      have hok := (inv.cell r (lt_of_alive inv (by rw [k1]; simp))).resolve_left hne
      simp only [CellOK, k1] at hok
      obtain ⟨b', o2, cs, q1, q2, q3, q4⟩ := hok
      rw [k3] at q1; cases q1
      obtain ⟨y', hy', hr', hs'⟩ := Rep.part q k5 q4
      rw [g4] at hy'; cases hy'
      rw [Nat.zero_add] at hr'
      have q3' := q3
      obtain ⟨c, el, fr, c1, c2, c3, c4⟩ := q3
      have hin : o' + off + u.sh.size ≤ c.size := by
        have : u.sh.size = u.size := modAt_size _ u 0
        omega
      obtain ⟨vv, hv1, hv2⟩ := run_loadVar_ty (P := P) (w := w) hm c1 hin (sh_er u)
      have hsz2 : u.sh.size = u.size := modAt_size _ u 0
      have e1 : cellsAt c (o' + off) u.sh.size = (cs.drop off).take u.size := by rw [c4, cellsAt_cellsAt (by omega), hsz2]
      rw [e1] at hv2
      refine ⟨q, tyr, cs, off, v, vv, rfl, k0, k1, k4, k5, g4, ?_, q4, hr', hv2, ?_⟩
      · simp only [CellsOf, k1]; exact ⟨b, o', k3, q3'⟩
      · simp [execOp, ho, k2, Instr.loadAt, Instr.sureAddr, hv1]
    by_cases hno : ty.noOwn = true
    · simp [hno, prim1] at h
      obtain ⟨rfl, rfl, rfl⟩ := h
      obtain ⟨q, tyr, csr, off, v, vv, rfl, z0, z1, z2, z3, z4, z5, z6, z7, z8, z9⟩ := main rfl
      exact ⟨rfl, vv, w, O, .inl z9, define_val inv hd (Grown.refl d inv.frame.alloc) z8 (Rep.noOwn hno (Keeps.refl w O) z7)⟩
    · simp [hno, prim1, Option.bind_eq_some_iff] at h
      obtain ⟨p', hps, h⟩ := h
      split at h
      case h_2 => cases h
      case h_1 tb hb =>
      simp only [Option.map_eq_some_iff] at h
      obtain ⟨⟨u2, pos⟩, ha, h⟩ := h
      simp at h
      obtain ⟨rfl, rfl, rfl⟩ := h
      obtain ⟨q, tyr, csr, off, v, vv, rfl, z0, z1, z2, z3, z4, z5, z6, z7, z8, z9⟩ := main rfl
      rw [z0, z1] at hb; cases hb
      have := static_match hps z2
      subst this
      rw [z3] at ha; cases ha
      refine ⟨rfl, vv, w, O, .inl z9, ?_⟩
      rw [z0]
      refine define_alias inv hd z8 z7 fun q' hq' => ?_
      cases hq'
      exact ⟨hne, tb, csr, ty, by simp [rootTy, z1], z5, z4, z3, rfl, rfl⟩

end
end Go.Vm

/-
  Owned slices given away or shared.
  Conditions: none.
-/
set_option linter.unusedVariables false
set_option linter.unusedSimpArgs false
namespace Go.Vm

section
variable {P : Program} {S0 S : Vw} {s s' : St} {n : Nat} {w0 : World} {O0 : OMap} {a : Act} {w : World} {O : OMap} {C : Env} {o : Oper} {d : Nat}

theorem inRange_iff {pos k p : Nat} : inRange pos k p = true ↔ pos ≤ p ∧ p < pos + k := by simp [inRange]

theorem leMd_ownTo {pos k : Nat} {m : Md} (hm : m = .sh ∨ m = .dead) (p : Nat) (x : Md) : leMd x (ownTo pos k m p x) = true := by
  unfold ownTo
  split
  · rename_i h
    simp only [Bool.and_eq_true, beq_iff_eq] at h
    rw [h.2]
    rcases hm with rfl | rfl <;> rfl
  · exact leMd_refl x

/-- the new labels: those of `[pos, pos + k)` of root `r` are turned -/
structure Relab (O O' : OMap) (r pos k : Nat) (m : Md) : Prop where
  other : ∀ b, (∀ p, inRange pos k p = true → O b ≠ some (.own (some r) p)) → O' b = O b
  shared : m = .sh → ∀ b p, inRange pos k p = true → O b = some (.own (some r) p) → O' b = none

theorem Relab.none {O O' : OMap} {r pos k : Nat} {m : Md} (h : Relab O O' r pos k m) {b : Nat} (hb : O b = none) : O' b = none := by
  rw [h.other b (fun p _ e => by rw [hb] at e; cases e)]; exact hb

/-- how a value of the root `r` is held behind it -/
theorem Relab.rep {O O' : OMap} {r pos k : Nat} {m : Md} (hm : m = .sh ∨ m = .dead) (h : Relab O O' r pos k m) {t : Ty} {x : PV} {cs : List Value} (hr : Rep w O (some r) t 0 x cs) :
    Rep w O' (some r) (t.modAt (ownTo pos k m) 0) 0 x cs := by
  refine Rep.turnAt (fun b hb => ⟨h.none hb, rfl⟩) _ (leMd_ownTo hm) (fun q hq => ?_) hr
  unfold ownTo
  by_cases hin : inRange pos k q = true
  · simp only [hin, beq_self_eq_true, Bool.and_self, if_true]
    rcases hm with rfl | rfl
    · intro b hb; exact ⟨h.shared rfl b _ (by rw [Nat.zero_add]; exact hin) hb, rfl⟩
    · trivial
  · simp only [hin, Bool.false_and, Bool.false_eq_true, if_false]
    intro b hb
    have hb : O b = _ := hb
    refine ⟨?_, rfl⟩
    show O' b = _
    rw [h.other b (fun p hp e => ?_)]
    · exact hb
    · rw [hb] at e
      injection e with e; injection e with e1 e2
      rw [← e2, Nat.zero_add] at hp
      exact hin hp

theorem Relab.tups {O O' : OMap} {r pos k : Nat} {m : Md} (hm : m = .sh ∨ m = .dead) (h : Relab O O' r pos k m) : ∀ {ts : List Ty} {p : Nat} {xs : List PV} {vs : List Value}, Tups w O (some r) ts p xs vs →
    Tups w O' (some r) (Ty.modsAt (ownTo pos k m) p ts) p xs vs
  | [], p, xs, vs, ht => by simpa only [Tups, Ty.modsAt] using ht
  | t :: ts, p, xs, vs, ht => by
    simp only [Tups, Ty.modsAt] at ht ⊢
    obtain ⟨y, ys, v, us, cs, h1, h2, h3, h4, h5⟩ := ht
    refine ⟨y, ys, v, us, cs, h1, h2, h3.er ?_, ?_, ?_⟩
    · exact (Ty.er_modAt' _ t p).symm
    · have hle : LeTy (fun q m => Turns w O (some r) w O' (some r) (0 + q) (0 + q) m) p t (t.modAt (ownTo pos k m) p) := by
        refine LeTy.modAt _ (leMd_ownTo hm) t p fun q hq1 hq2 => ?_
        unfold ownTo
        by_cases hin : inRange pos k q = true
        · simp only [hin, beq_self_eq_true, Bool.and_self, if_true]
          rcases hm with rfl | rfl
          · intro b hb; exact ⟨h.shared rfl b _ (by rw [Nat.zero_add]; exact hin) hb, rfl⟩
          · trivial
        · simp only [hin, Bool.false_and, Bool.false_eq_true, if_false]
          intro b hb
          have hb : O b = _ := hb
          refine ⟨?_, rfl⟩
          show O' b = _
          rw [h.other b (fun p' hp e => ?_)]
          · exact hb
          · rw [hb] at e
            injection e with e; injection e with e1 e2
            rw [← e2, Nat.zero_add] at hp
            exact hin hp
      have := Rep.shift (p := 0) (p' := 0) (o := p) (fun b hb => ⟨h.none hb, rfl⟩) hle (by rw [Nat.zero_add]; exact h4)
      rwa [Nat.zero_add] at this
    · rw [modAt_size]; exact Relab.tups hm h h5

theorem Frame0.relab {r pos k : Nat} {m : Md} {O' : OMap} (hf : Frame0 w0 O0 w O) (h : Relab O O' r pos k m) : Frame0 w0 O0 w O' where
  os := hf.os
  output := hf.output
  tape := hf.tape
  size := hf.size
  heap b hb ho := by
    have h1 := hf.heap b hb ho
    refine ⟨h1.1, ?_⟩
    rw [h.other b (fun p _ e => ?_)]
    · exact h1.2
    · rw [h1.2] at e; rcases ho with ho | ho <;> rw [ho] at e <;> cases e
  alloc b hb := by
    rw [h.other b (fun p _ e => ?_)]
    · exact hf.alloc b hb
    · rw [hf.alloc b hb] at e; cases e

theorem putUp_ne {S : Vw} {u : Up} {i : Nat} (h : i ≠ u.root) : putUp S u i = S i := by simp [putUp, h]
theorem putUp_eq {S : Vw} {u : Up} : putUp S u u.root = ⟨u.av, (S u.root).c + 1, (if u.header then (S u.root).h + 1 else (S u.root).h), (S u.root).d⟩ := by simp [putUp]

theorem setOwn_cases {r pos k : Nat} {m : Md} {u : Up} (hu : setOwn S r pos k m = some u) : u.root = r ∧ u.header = (m == .dead) ∧
    ((∃ ty, (S r).av = .val ty ∧ u.av = .val (ty.modAt (ownTo pos k m) 0)) ∨ (∃ ty, (S r).av = .box ty ∧ u.av = .box (ty.modAt (ownTo pos k m) 0)) ∨
     (∃ tys, (S r).av = .tup tys ∧ u.av = .tup (Ty.modsAt (ownTo pos k m) 0 tys))) := by
  unfold setOwn at hu
  split at hu
  · rename_i ty hav; cases hu; exact ⟨rfl, rfl, .inl ⟨_, hav, rfl⟩⟩
  · rename_i ty hav; cases hu; exact ⟨rfl, rfl, .inr (.inl ⟨_, hav, rfl⟩)⟩
  · rename_i ty hav; cases hu; exact ⟨rfl, rfl, .inr (.inr ⟨_, hav, rfl⟩)⟩
  · cases hu

/-- **Owned slices of a root are given away or shared**; nothing happens in the machine. -/
theorem Inv.ghost (inv : Inv S s n w0 O0 a w O) {r pos k : Nat} {m : Md} (hm : m = .sh ∨ m = .dead) {u : Up} (hu : setOwn S r pos k m = some u) {O' : OMap} (hO : Relab O O' r pos k m) :
    Inv (putUp S u) s n w0 O0 a w O' := by
  obtain ⟨hur, huh, hcase⟩ := setOwn_cases hu
  have hal : (S r).av ≠ .dead := by
    rcases hcase with ⟨_, h, _⟩ | ⟨_, h, _⟩ | ⟨_, h, _⟩ <;> rw [h] <;> simp
  subst hur
  clear hu
  have hlt := lt_of_alive inv hal
  have ch : Ch S (putUp S u) s s O O' a a w w (· = u.root) := by
    refine ⟨fun b hb => ⟨hO.none hb, rfl⟩, fun b r' p hb hr' => ⟨?_, rfl⟩, fun b r' hb hr' => ⟨?_, rfl⟩, fun i hi => ⟨putUp_ne hi, rfl, rfl⟩, fun i hi => ?_, fun i hi h ty hav hne => ?_, fun i hi h csr tyr h1 h2 h3 => ?_⟩
    · exact hO.other b fun q _ e => by rw [hb] at e; injection e with e; injection e with e1 e2; injection e1 with e1; exact hr' e1
    · exact hO.other b fun q _ e => by rw [hb] at e; cases e
    · subst hi; rw [putUp_eq]; simp only []; refine ⟨by omega, ?_, Nat.le_refl _⟩; split <;> omega
    · subst hi
      rcases hcase with ⟨ty', h', _⟩ | ⟨ty', h', h''⟩ | ⟨ty', h', _⟩ <;> rw [hav] at h' <;> cases h'
      rw [putUp_eq]
      exact ⟨ty.modAt (ownTo pos k m) 0, h'', (Ty.er_modAt _ _).symm, hne, rfl⟩
    · subst hi
      refine ⟨h3, ?_⟩
      unfold CellsOf at h1 ⊢
      unfold rootTy at h2 ⊢
      rw [putUp_eq]
      rcases hcase with ⟨ty', h', h''⟩ | ⟨ty', h', h''⟩ | ⟨ty', h', h''⟩ <;> rw [h'] at h1 h2 <;> simp only [Option.some.injEq] at h1 h2
      · subst h2
        refine ⟨_, ?_, by rw [h''], (Ty.er_modAt (ownTo pos k m) _).symm⟩
        rw [h'']
        exact h1.er (Ty.er_modAt _ _).symm
      · subst h2
        refine ⟨_, ?_, by rw [h''], (Ty.er_modAt (ownTo pos k m) _).symm⟩
        rw [h'']
        simp only [modAt_size]
        exact h1
  refine ch.inv inv (fun i hi => by subst hi; exact hlt) inv.size inv.slen inv.defers (inv.frame.relab hO) (fun i hi => ?_) (fun i hi ty h => ?_) (fun i hi => ?_) (fun i hi hav hd hx => ?_)
  · subst hi
    unfold VersOK
    rw [putUp_eq]
    rcases hcase with ⟨ty', h', h''⟩ | ⟨ty', h', h''⟩ | ⟨ty', h', h''⟩ <;> rw [h''] <;> trivial
  · subst hi
    rw [putUp_eq] at h
    rcases hcase with ⟨ty', h', h''⟩ | ⟨ty', h', h''⟩ | ⟨ty', h', h''⟩ <;> rw [h''] at h <;> cases h
    exact inv.boxes _ _ h'
  · subst hi
    rcases inv.cell _ hlt with h | h
    · exact .inl h
    · right
      unfold CellOK at h ⊢
      rw [putUp_eq]
      rcases hcase with ⟨ty, h', h''⟩ | ⟨ty, h', h''⟩ | ⟨tys, h', h''⟩ <;> rw [h'] at h <;> rw [h''] <;> simp only [] at h ⊢
      · obtain ⟨cs, h1, h2⟩ := h
        exact ⟨cs, h1.er (Ty.er_modAt _ _).symm, hO.rep hm h2⟩
      · obtain ⟨b, o', cs, h1, h2, h3, h4⟩ := h
        refine ⟨b, o', cs, h1, ?_, by rw [modAt_size]; exact h3, hO.rep hm h4⟩
        rw [hO.other b fun p _ e => by rw [h2] at e; cases e]; exact h2
      · obtain ⟨xs, vs, h1, h2, h3⟩ := h
        exact ⟨xs, vs, h1, h2, hO.tups hm h3⟩
  · subst hi
    rw [putUp_eq] at hav hd
    rcases hcase with ⟨ty', h', h''⟩ | ⟨ty', h', h''⟩ | ⟨ty', h', h''⟩ <;> rw [h''] at hav <;> simp only [AV.val.injEq, reduceCtorEq] at hav
    cases ty' <;> simp only [Ty.modAt, reduceCtorEq] at hav
    exact inv.und _ h' hd hx

/-- the labels of `[pos, pos + k)` of `r` are moved to the place `p'` of `r'` -/
def moveLab (O : OMap) (r pos k : Nat) (r' : Option Nat) (p' : Nat) : OMap := fun b => match O b with
  | some (.own (some r0) p) => if r0 = r ∧ inRange pos k p = true then some (.own r' (p' + (p - pos))) else O b
  | l => l
def shareLab (O : OMap) (r pos k : Nat) : OMap := fun b => match O b with
  | some (.own (some r0) p) => if r0 = r ∧ inRange pos k p = true then none else O b
  | l => l

theorem moveLab_relab (O : OMap) (r pos k : Nat) (r' : Option Nat) (p' : Nat) : Relab O (moveLab O r pos k r' p') r pos k .dead where
  other b h := by
    unfold moveLab
    split
    · rename_i r0 p hb
      split
      · rename_i hc; rw [hc.1] at hb; exact absurd hb (h p hc.2)
      · rfl
    · rfl
  shared h := by cases h
theorem shareLab_relab (O : OMap) (r pos k : Nat) : Relab O (shareLab O r pos k) r pos k .sh where
  other b h := by
    unfold shareLab
    split
    · rename_i r0 p hb
      split
      · rename_i hc; rw [hc.1] at hb; exact absurd hb (h p hc.2)
      · rfl
    · rfl
  shared _ b p hp hb := by simp [shareLab, hb, hp]

theorem moveLab_own {O : OMap} {r pos k : Nat} {r' : Option Nat} {p' q b : Nat} (hq : q < k) (h : O b = some (.own (some r) (pos + q))) : moveLab O r pos k r' p' b = some (.own r' (p' + q)) := by
  have : inRange pos k (pos + q) = true := by rw [inRange_iff]; omega
  simp [moveLab, h, this]

/-- labels that are none of the roots `us` stay -/
def KeptLab (O O' : OMap) (us : List Up) : Prop := ∀ b, (∀ u ∈ us, ∀ p, O b ≠ some (.own (some u.root) p)) → O' b = O b

theorem Relab.kept {O O' : OMap} {pos k : Nat} {m : Md} {u : Up} (h : Relab O O' u.root pos k m) : KeptLab O O' [u] := fun b hb =>
  h.other b fun p _ => hb u (by simp) p

/-- what is taken, and where it is then -/
theorem take_sound' (hS : Sub S0 S) (inv : Inv S s n w0 O0 a w O) {d : Option Nat} {keep : Nat → Bool} {ty ty' : Ty} {org : Org} {us : List Up} (h : take S0 d keep ty org = some (us, ty')) {x : PV} {cs : List Value}
    (hnd : ty.noDead = true) (hx : OrgRep w O org ty x cs) (r' : Nat) (p' : Nat) (hd : ∀ d', d = some d' → d' = r' ∧ p' = 0) :
    ∃ O', Inv (putUps S us) s n w0 O0 a w O' ∧ Rep w O' (some r') ty' p' x cs ∧ ty.er = ty'.er ∧ Sub (putUps S0 us) (putUps S us) ∧ ty'.noDead = true ∧ KeptLab O O' us := by
  unfold take at h
  by_cases hno : ty.noOwn = true
  · simp [hno] at h
    obtain ⟨rfl, rfl⟩ := h
    obtain ⟨ρ, p, hx⟩ := hx.some'
    refine ⟨O, inv, ?_, (sh_er ty).symm, hS, noDead_sh hnd, fun b _ => rfl⟩
    have h1 : Rep w O (some r') ty p' x cs := Rep.noOwn hno (Keeps.refl w O) hx
    have hle : LeTy (fun q m => Turns w O (some r') w O (some r') (p' + q) (p' + q) m) 0 ty ty.sh := LeTy.noOwnSh 0 0 hno
    exact Rep.shift (o := 0) (Keeps.refl w O) hle h1
  · simp only [hno, if_false, Bool.false_eq_true] at h
    cases org with
    | none =>
      simp at h
      obtain ⟨rfl, rfl⟩ := h
      exact ⟨O, inv, hx _ _, rfl, hS, hnd, fun b _ => rfl⟩
    | some og =>
      obtain ⟨r, pos, q⟩ := og
      simp only [] at h
      by_cases hself : (decide (some r = d) && pos == 0) = true
      · simp only [Bool.and_eq_true, decide_eq_true_eq, beq_iff_eq] at hself
        obtain ⟨hs1, hs2⟩ := hself
        subst hs2
        simp [hs1] at h
        obtain ⟨rfl, rfl⟩ := h
        obtain ⟨rfl, rfl⟩ := hd r hs1.symm
        exact ⟨O, inv, hx, rfl, hS, hnd, fun b _ => rfl⟩
      · rw [if_neg (by simpa using hself)] at h
        by_cases hk : keep r = true
        · rw [if_pos hk] at h
          simp only [Option.map_eq_some_iff] at h
          obtain ⟨u, hu, h⟩ := h
          cases h
          obtain ⟨hu', hsub⟩ := setOwn_view hS hu
          have hrl := shareLab_relab O r pos ty.size
          refine ⟨_, inv.ghost (.inl rfl) hu' hrl, ?_, (sh_er ty).symm, hsub, noDead_sh hnd, ?_⟩
          case refine_2 => exact Relab.kept (by rw [(setOwn_cases hu).1]; exact hrl)
          refine Rep.toSh (ρ := some r) (some r') p' (p := pos) (fun b hb => ⟨hrl.none hb, rfl⟩) (fun q b hq hb => ⟨hrl.shared rfl b (pos + q) (by rw [inRange_iff]; omega) hb, rfl⟩) hx
        · rw [if_neg hk] at h
          simp only [Option.map_eq_some_iff] at h
          obtain ⟨u, hu, h⟩ := h
          cases h
          obtain ⟨hu', hsub⟩ := setOwn_view hS hu
          have hrl := moveLab_relab O r pos ty.size (some r') p'
          refine ⟨_, inv.ghost (.inr rfl) hu' hrl, ?_, rfl, hsub, hnd, ?_⟩
          case refine_2 => exact Relab.kept (by rw [(setOwn_cases hu).1]; exact hrl)
          exact Rep.move (fun b hb => ⟨hrl.none hb, rfl⟩) (fun q b hq hb => ⟨moveLab_own hq hb, rfl⟩) hx
where
  noDead_sh {t : Ty} (h : t.noDead = true) : t.sh.noDead = true := Ty.all_mono (f := fun m => m == .sh) (fun m hm => by cases m <;> simp at hm ⊢) (Ty.sh_isSh 0 h)
  setOwn_view {S0 S : Vw} (hS : Sub S0 S) {r pos k : Nat} {m : Md} {u : Up} (hu : setOwn S0 r pos k m = some u) : setOwn S r pos k m = some u ∧ Sub (putUps S0 [u]) (putUps S [u]) := by
    have hal : (S0 r).av ≠ .dead := by intro hd; simp [setOwn, hd] at hu
    have he := hS.alive hal
    have hur : u.root = r := by
      unfold setOwn at hu
      split at hu <;> first | (cases hu; done) | (cases hu; rfl)
    refine ⟨?_, fun i => ?_⟩
    · unfold setOwn at hu ⊢; rw [← he]; exact hu
    · simp only [putUps]
      by_cases hi : i = u.root
      · subst hi; left; rw [putUp_eq, putUp_eq, hur, he]
      · rw [putUp_ne hi, putUp_ne hi]; exact hS i
  LeTy.noOwnSh {T : Nat → Md → Prop} : ∀ {t : Ty} (p q : Nat), t.noOwn = true → LeTy T p t (t.modAt (fun _ m => toSh m) q)
    | .sc, p, q, _ => by simpa only [Ty.modAt] using LeTy.sc p
    | .agg l, p, q, h => by
      simp only [Ty.modAt]
      exact LeTy.noOwnShs p q (by simpa only [Ty.noOwn, Ty.all] using h)
    | .sl m e, p, q, h => by
      simp only [Ty.modAt]
      exact .sl p m _ e (leMd_toSh m) fun hm => by subst hm; simp [Ty.noOwn, Ty.all] at h
  LeTy.noOwnShs {T : Nat → Md → Prop} : ∀ {l : List Ty} (p q : Nat), Ty.alls (fun m => m == .sh || m == .full) l = true → LeTy T p (.agg l) (.agg (Ty.modsAt (fun _ m => toSh m) q l))
    | [], p, q, _ => by simpa only [Ty.modsAt] using LeTy.nil p
    | t :: ts, p, q, h => by
      simp only [Ty.alls, Bool.and_eq_true] at h
      simp only [Ty.modsAt]
      exact .cons p t _ ts _ (LeTy.noOwnSh p q h.1) (LeTy.noOwnShs _ _ h.2) (modAt_size _ t q)

theorem take_sound (hS : Sub S0 S) (inv : Inv S s n w0 O0 a w O) {d : Option Nat} {keep : Nat → Bool} {ty ty' : Ty} {org : Org} {us : List Up} (h : take S0 d keep ty org = some (us, ty')) {x : PV} {cs : List Value}
    (hnd : ty.noDead = true) (hx : OrgRep w O org ty x cs) (r' : Nat) (p' : Nat) (hd : ∀ d', d = some d' → d' = r' ∧ p' = 0) :
    ∃ O', Inv (putUps S us) s n w0 O0 a w O' ∧ Rep w O' (some r') ty' p' x cs ∧ ty.er = ty'.er ∧ Sub (putUps S0 us) (putUps S us) ∧ ty'.noDead = true := by
  obtain ⟨O', h1, h2, h3, h4, h5, _⟩ := take_sound' hS inv h hnd hx r' p' hd
  exact ⟨O', h1, h2, h3, h4, h5⟩

end
end Go.Vm

/-
  Moves, assignments, boxes, fields, parts of results.
  Conditions: none.
-/
set_option linter.unusedVariables false
set_option linter.unusedSimpArgs false
namespace Go.Vm

section
variable {P : Program} {S0 S : Vw} {s s' : St} {n : Nat} {w0 : World} {O0 : OMap} {a : Act} {w : World} {O : OMap} {C : Env} {o : Oper} {d : Nat}

theorem mov_run {x : VX} (h : (VRhs.prim .mov [x]).run C s (some d) = some s') : ∃ v, x.eval s = some v ∧ s' = s.set d v := by
  obtain ⟨vs, v, he, hp, rfl⟩ := prim_run h
  obtain ⟨z, e1, rfl⟩ := evals_one he
  simp only [Prim.run, one, Option.some.injEq] at hp; subst hp
  exact ⟨z, e1, rfl⟩

theorem OrgRep.val {org : Org} {ty : Ty} {x : PV} {cs : List Value} (h : OrgRep w O org ty x cs) (hno : ty.noOwn = true) : Rep w O (some d) ty 0 x cs := by
  obtain ⟨ρ, p, h⟩ := h.some'
  exact Rep.noOwn hno (Keeps.refl w O) h

/-- the value of an operand is put into `d`, as an alias where it owns something -/
theorem define_read (hS : Sub S0 S) (inv : Inv S s n w0 O0 a w O) (hd : d < n) {t : TypeId} {x : Operand} {v : VX} {ty : Ty} {org : Org} (h : rd P S0 t x = some (v, ty, org)) {pv : PV} (he : v.eval s = some pv) :
    Inv (defV S d (readAV S0 ty org)) (s.set d pv) n w0 O0 (a.put (some d) (a.eval x)) w O := by
  obtain ⟨cs, h1, h2, h3⟩ := rd_sound hS inv h he
  unfold readAV
  by_cases hno : ty.noOwn = true
  · rw [if_pos hno]
    exact define_val inv hd (Grown.refl d inv.frame.alloc) h1 (h2.val hno)
  · rw [if_neg hno]
    cases org with
    | none => exact define_val inv hd (Grown.refl d inv.frame.alloc) h1 (h2 _ _)
    | some og =>
      obtain ⟨r, pos, p⟩ := og
      simp only []
      cases x with
      | tmp i =>
        obtain ⟨hSi, rfl, hcase⟩ := rd_tmp_av hS h
        obtain ⟨hne, hg⟩ := undef_ne he
        rcases hcase with ⟨hav, ho⟩ | ⟨r', p', q, c, hav, ho, hc, hr⟩
        · injection ho with ho; injection ho with e1 e2; injection e2 with e2 e3
          subst e1; subst e2; subst e3
          rw [hSi]
          refine define_alias inv hd h1 h2 fun q hq => ?_
          cases hq
          obtain ⟨hc1, hc2⟩ := cellsOf_tmp (w := w) (.inl hav) h1
          refine ⟨hne, ty, cs, ty, hc2, hc1, by rw [hg]; rfl, rfl, rfl, ?_⟩
          have := Rep.length h2
          rw [List.drop_zero, List.take_of_length_le (by omega)]
        · injection ho with ho; injection ho with e1 e2; injection e2 with e2 e3
          subst e1; subst e2; subst e3
          rw [hr]
          refine define_alias inv hd h1 h2 fun q' hq => ?_
          have hok := (inv.cell i (lt_of_alive inv (by rw [hav]; simp))).resolve_left hne
          simp only [CellOK, hav] at hok
          obtain ⟨cs', g1, g2, g3⟩ := hok hc
          have := Wrap.unique g1 h1
          subst this
          obtain ⟨k1, tyr, csr, ty0, k2, k3, k4, k5⟩ := g3 q' hq
          exact ⟨k1, tyr, csr, ty0, k2, k3, by rw [k4, hg], k5⟩
      | const v0 =>
        simp only [rd, Option.bind_eq_some_iff] at h
        obtain ⟨x0, hx0, h⟩ := h
        cases x0 with
        | slice nl xs =>
          simp only [Option.bind_eq_some_iff] at h
          obtain ⟨ty0, _, h⟩ := h
          cases ty0 <;> simp at h
        | _ => simp at h
      | _ => simp [rd] at h

theorem move_run {x : Operand} (ho : o.op = .move x ∨ o.op = .assign x) : (execOp a.eval o).run P w = .ok (.value (a.eval x)) w := by
  rcases ho with ho | ho <;> simp [execOp, ho]

theorem Ty.noOwns_mods : ∀ {l : List Ty} (p : Nat), l.all Ty.noOwn = true → True := fun _ _ => trivial

theorem Tups.noOwn {w w' : World} {O O' : OMap} {ρ ρ' : Option Nat} (k : Keeps w O w' O') : ∀ {ts : List Ty} {p p' : Nat} {xs : List PV} {vs : List Value}, ts.all Ty.noOwn = true → Tups w O ρ ts p xs vs → Tups w' O' ρ' ts p' xs vs
  | [], p, p', xs, vs, _, h => by simpa only [Tups] using h
  | t :: ts, p, p', xs, vs, hn, h => by
    simp only [List.all_cons, Bool.and_eq_true] at hn
    simp only [Tups] at h ⊢
    obtain ⟨y, ys, v, us, cs, h1, h2, h3, h4, h5⟩ := h
    exact ⟨y, ys, v, us, cs, h1, h2, h3, Rep.noOwn hn.1 k h4, Tups.noOwn k hn.2 h5⟩

theorem Tups.move {w w' : World} {O O' : OMap} {ρ ρ' : Option Nat} (k : Keeps w O w' O') {p0 p1 : Nat} : ∀ {ts : List Ty} {p : Nat} {xs : List PV} {vs : List Value},
    (∀ q b, p ≤ q → q < p + Ty.sizes ts → O b = some (.own ρ (p0 + q)) → O' b = some (.own ρ' (p1 + q)) ∧ w'.heap[b]? = w.heap[b]?) → Tups w O ρ ts (p0 + p) xs vs → Tups w' O' ρ' ts (p1 + p) xs vs
  | [], p, xs, vs, _, h => by simpa only [Tups] using h
  | t :: ts, p, xs, vs, hm, h => by
    simp only [Tups] at h ⊢
    obtain ⟨y, ys, v, us, cs, h1, h2, h3, h4, h5⟩ := h
    refine ⟨y, ys, v, us, cs, h1, h2, h3, ?_, ?_⟩
    · exact Rep.move k (fun q b hq hb => by
        have := hm (p + q) b (by omega) (by simp only [Ty.sizes]; omega) (by rw [← Nat.add_assoc]; exact hb)
        rwa [← Nat.add_assoc] at this) h4
    · rw [Nat.add_assoc] at h5 ⊢
      exact Tups.move k (fun q b hq1 hq2 => hm q b (by omega) (by simp only [Ty.sizes]; omega)) h5

theorem define_tup (inv : Inv S s n w0 O0 a w O) (hd : d < n) {w' : World} {O' : OMap} (g : Grown w w' O O' d) {tys : List Ty} {xs : List PV} {vs : List Value}
    (h : Tups w' O' (some d) tys 0 xs vs) : Inv (defV S d (.tup tys)) (s.set d (.tup xs)) n w0 O0 (a.put (some d) (.tuple vs.toArray)) w' O' := by
  refine inv.define hd g _ _ _ (by simp [VersOK, defV]) (fun _ => rfl) (.inr ?_)
  simp only [CellOK, defV_eq]
  refine ⟨xs, vs, ?_, ?_, h⟩
  · rw [get_set _ _ _ _ (by rw [inv.slen]; exact hd), if_pos rfl]
  · rw [val_put _ _ _ _ (by rw [inv.size]; exact hd), if_pos rfl]

theorem move_sound (hS : Sub S0 S) (inv : Inv S s n w0 O0 a w O) (hd : d < n) {x : Operand} (ho : o.op = .move x) {rhs : VRhs} {av : AV} {us : List Up}
    (h : chkMove P S0 o.type x = some (rhs, av, us)) (hr : rhs.run C s (some d) = some s') : Defd P (putUps S us) s' n w0 O0 a w o d av := by
  have hrun := move_run (P := P) (w := w) (a := a) (.inl ho)
  unfold chkMove at h
  split at h
  case h_1 i =>
    by_cases hp : isPtr (S0 i).av = true
    · rw [if_pos hp] at h
      obtain ⟨rfl, hdef⟩ := chkPtr_sound hS inv hd (.inl ho) h hr
      exact hdef
    · rw [if_neg hp] at h
      by_cases hcl : isClo (S0 i).av = true
      · rw [if_pos hcl] at h
        obtain ⟨rfl, hdef⟩ := chkClo_sound hS inv hd (.inl ho) h hr
        exact hdef
      rw [if_neg hcl] at h
      split at h
      case h_1 ts hav0 =>
        have hSi := hS.alive (i := i) (by rw [hav0]; simp)
        have hav : (S i).av = .tup ts := by rw [← hSi]; exact hav0
        have hlt := lt_of_alive inv (r := i) (by rw [hav]; simp)
        by_cases hno : ts.all Ty.noOwn = true
        · simp [hno, prim1] at h
          obtain ⟨rfl, rfl, rfl⟩ := h
          obtain ⟨v, e1, rfl⟩ := mov_run hr
          obtain ⟨hne, hg⟩ := undef_ne e1
          have hok := (inv.cell i hlt).resolve_left hne
          simp only [CellOK, hav] at hok
          obtain ⟨xs, vs, h1, h2, h3⟩ := hok
          refine ⟨_, w, O, .inl hrun, ?_⟩
          rw [← hg, h1, show a.eval (.tmp i) = val a i from rfl, h2]
          exact define_tup inv hd (Grown.refl d inv.frame.alloc) (Tups.noOwn (Keeps.refl w O) hno h3)
        · rw [if_neg hno] at h
          simp only [Option.map_eq_some_iff] at h
          obtain ⟨u, hu, h⟩ := h
          cases h
          obtain ⟨v, e1, rfl⟩ := mov_run hr
          obtain ⟨hne, hg⟩ := undef_ne e1
          have hok := (inv.cell i hlt).resolve_left hne
          simp only [CellOK, hav] at hok
          obtain ⟨xs, vs, h1, h2, h3⟩ := hok
          obtain ⟨hu', hsub⟩ := take_sound'.setOwn_view hS hu
          have hrl := moveLab_relab O i 0 (Ty.sizes ts) (some d) 0
          have inv' := inv.ghost (.inr rfl) hu' hrl
          refine ⟨_, w, moveLab O i 0 (Ty.sizes ts) (some d) 0, .inl hrun, ?_⟩
          rw [← hg, h1, show a.eval (.tmp i) = val a i from rfl, h2]
          refine define_tup inv' hd (Grown.refl d inv'.frame.alloc) ?_
          have := Tups.move (p0 := 0) (p1 := 0) (p := 0) (w' := w) (O' := moveLab O i 0 (Ty.sizes ts) (some d) 0) (ρ' := some d) (fun b hb => ⟨hrl.none hb, rfl⟩) (fun q b hq1 hq2 hb => ⟨moveLab_own (by omega) hb, rfl⟩) h3
          exact this
      case h_2 =>
        simp only [Option.map_eq_some_iff] at h
        obtain ⟨⟨v, ty, org⟩, h1, h⟩ := h
        simp [prim1] at h
        obtain ⟨rfl, rfl, rfl⟩ := h
        obtain ⟨pv, e1, rfl⟩ := mov_run hr
        exact ⟨_, w, O, .inl hrun, define_read hS inv hd h1 e1⟩
  case h_2 hnt =>
    simp only [Option.map_eq_some_iff] at h
    obtain ⟨⟨v, ty, org⟩, h1, h⟩ := h
    simp [prim1] at h
    obtain ⟨rfl, rfl, rfl⟩ := h
    obtain ⟨pv, e1, rfl⟩ := mov_run hr
    have horg : org = none := by
      cases x with
      | tmp i => exact absurd rfl (hnt i)
      | const v0 =>
        simp only [rd, Option.bind_eq_some_iff] at h1
        obtain ⟨x0, hx0, h1⟩ := h1
        cases x0 with
        | slice nl xs =>
          simp only [Option.bind_eq_some_iff] at h1
          obtain ⟨ty0, _, h1⟩ := h1
          cases ty0 <;> simp at h1
          exact h1.2.2.symm
        | _ => simp at h1; exact h1.2.2.symm
      | _ => simp [rd] at h1
    subst horg
    have := define_read hS inv hd h1 e1
    simp only [readAV, ite_self] at this
    exact ⟨_, w, O, .inl hrun, this⟩

theorem assign_sound (hS : Sub S0 S) (inv : Inv S s n w0 O0 a w O) (hd : d < n) {keep : Nat → Bool} {x : Operand} (ho : o.op = .assign x) (hod : o.dst = some d) {rhs : VRhs} {av : AV} {us : List Up}
    (h : chkAssign P S0 keep o.dst o.type x = some (rhs, av, us)) (hr : rhs.run C s (some d) = some s') : Defd P (putUps S us) s' n w0 O0 a w o d av := by
  have hrun := move_run (P := P) (w := w) (a := a) (.inr ho)
  unfold chkAssign at h
  split at h
  case h_1 i =>
    by_cases hp : isPtr (S0 i).av = true
    · rw [if_pos hp] at h
      obtain ⟨rfl, hdef⟩ := chkPtr_sound hS inv hd (.inr (.inl ho)) h hr
      exact hdef
    · rw [if_neg hp] at h
      by_cases hcl : isClo (S0 i).av = true
      · rw [if_pos hcl] at h
        obtain ⟨rfl, hdef⟩ := chkClo_sound hS inv hd (.inr ho) h hr
        exact hdef
      rw [if_neg hcl] at h
      simp only [Option.bind_eq_some_iff, Option.map_eq_some_iff] at h
      obtain ⟨⟨v, ty, org⟩, h1, ⟨e, ty'⟩, h2, h⟩ := h
      cases h
      obtain ⟨pv, e1, rfl⟩ := mov_run hr
      obtain ⟨cs, g1, g2, g3⟩ := rd_sound hS inv h1 e1
      obtain ⟨O', inv', g4, g5, _, _⟩ := take_sound hS inv h2 g3 g2 d 0 (fun d' hd' => by rw [hod] at hd'; cases hd'; exact ⟨rfl, rfl⟩)
      exact ⟨_, w, O', .inl hrun, define_val inv' hd (Grown.refl d inv'.frame.alloc) (g1.er g5) g4⟩
  case h_2 hnt =>
    simp only [Option.map_eq_some_iff] at h
    obtain ⟨⟨v, ty, org⟩, h1, h⟩ := h
    simp [prim1] at h
    obtain ⟨rfl, rfl, rfl⟩ := h
    obtain ⟨pv, e1, rfl⟩ := mov_run hr
    have horg : org = none := by
      cases x with
      | tmp i => exact absurd rfl (hnt i)
      | const v0 =>
        simp only [rd, Option.bind_eq_some_iff] at h1
        obtain ⟨x0, hx0, h1⟩ := h1
        cases x0 with
        | slice nl xs =>
          simp only [Option.bind_eq_some_iff] at h1
          obtain ⟨ty0, _, h1⟩ := h1
          cases ty0 <;> simp at h1
          exact h1.2.2.symm
        | _ => simp at h1; exact h1.2.2.symm
      | _ => simp [rd] at h1
    subst horg
    have := define_read hS inv hd h1 e1
    simp only [readAV, ite_self] at this
    exact ⟨_, w, O, .inl hrun, this⟩

/-! ### new boxes -/
theorem heap_push {o : Obj} {b : Nat} (h : b < w.heap.size) : (w.alloc o).heap[b]? = w.heap[b]? := by
  exact heap_alloc_old w o b h
theorem heap_push_new {o : Obj} : (w.alloc o).heap[w.heap.size]? = some o := heap_alloc_new w o
theorem heap_push_size {o : Obj} : (w.alloc o).heap.size = w.heap.size + 1 := by
  show (w.heap.push o).size = _
  simp

def newLab (O : OMap) (w : World) (l : Option Lab) : OMap := fun b => if b = w.heap.size then l else O b

theorem Grown.new {o : Obj} {l : Option Lab} (h : ∀ b, w.heap.size ≤ b → O b = some .foreign) : Grown w (w.alloc o) O (newLab O w l) d where
  os := rfl
  output := rfl
  tape := rfl
  size := by rw [heap_push_size]; omega
  lab b hb := .inl ⟨by simp [newLab]; omega, heap_push hb⟩
  alloc b hb := by
    rw [heap_push_size] at hb
    simp only [newLab]
    rw [if_neg (by omega)]
    exact h b (by omega)

theorem define_box (inv : Inv S s n w0 O0 a w O) (hd : d < n) {el : TypeId} {cs : List Value} {ty : Ty} {x : PV} (hx : x ≠ .undef) (h : ∀ w' O', Keeps w O w' O' → (∀ b p, O b = some (.own (some d) p) → O' b = O b ∧ w'.heap[b]? = w.heap[b]?) → Rep w' O' (some d) ty 0 x cs)
    (hcs : cs.length = ty.size) : Inv (defV S d (.box ty)) (s.set d x) n w0 O0 (a.put (some d) (.pointer (some ⟨w.heap.size, 0, none⟩))) (w.alloc (.cells cs.toArray el)) (newLab O w (some (.box d))) := by
  have g : Grown w (w.alloc (.cells cs.toArray el)) O (newLab O w (some (.box d))) d := Grown.new inv.frame.alloc
  refine inv.define hd g _ _ _ (by simp [VersOK, defV]) (fun h => absurd h hx) (.inr ?_)
  simp only [CellOK, defV_eq]
  refine ⟨w.heap.size, 0, cs, ?_, by simp [newLab], ⟨cs.toArray, el, (0, 0), heap_push_new, by simp [hcs], fun j _ hj => by simp at hj, by simp only [cellsAt, List.drop_zero]; rw [List.take_of_length_le (by simp [hcs])]⟩, ?_⟩
  · rw [val_put _ _ _ _ (by rw [inv.size]; exact hd), if_pos rfl]
  · rw [get_set _ _ _ _ (by rw [inv.slen]; exact hd), if_pos rfl]
    refine h _ _ (g.keeps inv.frame.alloc) fun b p hb => ?_
    have hlt := label_lt inv.frame.alloc (b := b) (by rw [hb]; simp)
    exact ⟨by simp only [newLab]; rw [if_neg (by omega)], heap_push hlt⟩

theorem matchCellss_rep {w : World} {O : OMap} {ρ : Option Nat} : ∀ {l : List Ty} {zs : List PV} {p : Nat} {cs rest : List Value},
    (∀ (i : Nat) (t : Ty) (z : PV), l[i]? = some t → zs[i]? = some z → ∀ (p : Nat) (cs rest : List Value), matchCells z cs = some rest → ∃ c, cs = c ++ rest ∧ Rep w O ρ t p z c) →
    l.length = zs.length → matchCellss zs cs = some rest → ∃ c, cs = c ++ rest ∧ Reps w O ρ l p zs c
  | [], zs, p, cs, rest, _, hl, hm => by
    cases zs with
    | nil => simp [matchCellss] at hm; subst hm; exact ⟨[], rfl, by simp [Reps]⟩
    | cons => simp at hl
  | t :: ts, zs, p, cs, rest, h, hl, hm => by
    cases zs with
    | nil => simp at hl
    | cons z zs =>
      simp only [matchCellss, Option.bind_eq_some_iff] at hm
      obtain ⟨r1, h1, h2⟩ := hm
      obtain ⟨c1, rfl, h4⟩ := h 0 t z rfl rfl p _ _ h1
      obtain ⟨c2, rfl, h5⟩ := matchCellss_rep (w := w) (O := O) (ρ := ρ) (p := p + t.size) (l := ts) (fun i t' z' ht hz => h (i + 1) t' z' (by simpa using ht) (by simpa using hz)) (by simpa using hl) h2
      exact ⟨c1 ++ c2, by simp, by simp only [Reps]; exact ⟨z, zs, c1, c2, rfl, rfl, h4, h5⟩⟩

/-- the zero value -/
theorem matchCells_rep {P : Program} {w : World} {O : OMap} {ρ : Option Nat} : ∀ {k : Nat} {t : TypeId} {ty : Ty} {z : PV} {p : Nat} {cs rest : List Value}, tyz P k t = some (ty, z) → matchCells z cs = some rest →
    ∃ c, cs = c ++ rest ∧ Rep w O ρ ty p z c
  | 0, _, _, _, _, _, _, h, _ => by simp [tyz] at h
  | k + 1, t, ty, z, p, cs, rest, h, hm => by
    obtain ⟨i, v, hi, hs, hz, hmz, h⟩ := tyz_succ h
    cases h with
    | bool =>
      cases cs with
      | nil => simp [matchCells] at hm
      | cons c cs =>
        cases c <;> simp [matchCells] at hm
        obtain ⟨rfl, rfl⟩ := hm
        exact ⟨[_], rfl, by simp [Rep, ScRep]⟩
    | int kk =>
      cases cs with
      | nil => simp [matchCells] at hm
      | cons c cs =>
        cases c <;> simp [matchCells] at hm
        obtain ⟨⟨rfl, rfl⟩, rfl⟩ := hm
        exact ⟨[_], rfl, by simp [Rep, ScRep]⟩
    | str =>
      cases cs with
      | nil => simp [matchCells] at hm
      | cons c cs =>
        cases c <;> simp [matchCells] at hm
        rename_i s0
        obtain ⟨h1, rfl⟩ := hm
        refine ⟨[_], rfl, ?_⟩
        simp only [Rep, ScRep, List.cons.injEq, and_true, Value.string.injEq]
        apply ByteArray.ext
        simpa using h1
    | slice e te z hu h1 h2 =>
      cases cs with
      | nil => simp [matchCells] at hm
      | cons c cs =>
        cases c
        case slice a0 l0 c0 =>
          cases a0 with
          | some a0 => simp [matchCells] at hm
          | none =>
            cases l0 with
            | succ l0 => simp [matchCells] at hm
            | zero =>
              cases c0 with
              | succ c0 => simp [matchCells] at hm
              | zero =>
                simp only [matchCells, Option.some.injEq] at hm
                subst hm
                refine ⟨[_], rfl, ?_⟩
                simp only [Rep, SlRep, RepSh]
                exact ⟨true, [], rfl, .inl (by simp)⟩
        all_goals simp [matchCells] at hm
    | array m e te z hu h1 =>
      simp only [matchCells] at hm
      obtain ⟨c, h3, h4⟩ := matchCellss_rep (w := w) (O := O) (ρ := ρ) (p := p) (l := List.replicate m te) (zs := List.replicate m z) (fun i t z' ht hz' => by
        rw [List.getElem?_replicate] at ht hz'
        split at ht <;> simp at ht hz'
        subst ht
        obtain ⟨_, rfl⟩ := hz'
        intro p' cs' rest' hm'; exact matchCells_rep h1 hm') (by simp) hm
      exact ⟨c, h3, by simp only [Rep]; exact ⟨_, rfl, h4⟩⟩
    | struct fs ts zs hu h1 =>
      obtain ⟨t2, z2, rfl, rfl, h2, h3, h4⟩ := fold_struct _ _ _ _ _ h1
      simp only [matchCells, List.nil_append] at hm ⊢
      obtain ⟨c, h5, h6⟩ := matchCellss_rep (w := w) (O := O) (ρ := ρ) (p := p) (l := ts) (zs := zs) (fun i t z' ht hz' => by
        have hlt : i < fs.toList.length := by rw [← h2]; exact (List.getElem?_eq_some_iff.1 ht).1
        obtain ⟨tf, z, g1, g2, g3, _⟩ := h4 i fs.toList[i] (by simp)
        rw [ht] at g2; cases g2
        rw [hz'] at g3; cases g3
        intro p' cs' rest' hm'; exact matchCells_rep g1 hm') (by rw [h2, h3]) hm
      exact ⟨c, h5, by simp only [Rep]; exact ⟨_, rfl, h6⟩⟩

end
end Go.Vm

/-
  Boxes, fields, parts of results, slices of slices, conversions of bytes.
  Conditions: none.
-/
set_option linter.unusedVariables false
set_option linter.unusedSimpArgs false
namespace Go.Vm

section
variable {P : Program} {S0 S : Vw} {s s' : St} {n : Nat} {w0 : World} {O0 : OMap} {a : Act} {w : World} {O : OMap} {C : Env} {o : Oper} {d : Nat}

theorem Rep.noUndef {w : World} {O : OMap} {ρ : Option Nat} {t : Ty} {p : Nat} {cs : List Value} (hd : t.noDead = true) (h : Rep w O ρ t p .undef cs) : False := by
  cases t with
  | sc => simp [Rep, ScRep] at h
  | agg l => simp only [Rep] at h; obtain ⟨xs, h, _⟩ := h; cases h
  | sl m e =>
    simp only [Ty.noDead, Ty.all] at hd
    simp only [Rep] at h
    cases m <;> simp [SlRep, RepSh, OwnSl] at h hd

theorem noDead_of_isSh {t : Ty} (h : t.isSh = true) : t.noDead = true := Ty.all_mono (f := fun m => m == .sh) (fun m hm => by cases m <;> simp at hm ⊢) h
theorem noOwn_of_isSh {t : Ty} (h : t.isSh = true) : t.noOwn = true := Ty.all_mono (f := fun m => m == .sh) (fun m hm => by cases m <;> simp at hm ⊢) h

theorem zero_rep {k : Nat} {t : TypeId} {ty : Ty} {z : PV} (h : tyz P k t = some (ty, z)) {w : World} {O : OMap} (ρ : Option Nat) (p : Nat) : ∃ v, (zeroValue t).run P w = .ok v w ∧ Rep w O ρ ty p z v.cells.toList := by
  cases k with
  | zero => simp [tyz] at h
  | succ k =>
    obtain ⟨i, v, hi, hs, hz, hm, _⟩ := tyz_succ h
    refine ⟨v, ?_, ?_⟩
    · simp [zeroValue, typeInfo, hi, hz]
    · obtain ⟨c, h1, h2⟩ := matchCells_rep (w := w) (O := O) (ρ := ρ) (p := p) h hm
      simp at h1
      rw [h1]; exact h2

mutual
theorem Rep.ofNil {w w' : World} {O O' : OMap} {ρ ρ' : Option Nat} : ∀ {t : Ty} {p p' q : Nat} {x : PV} {cs : List Value}, t.isSh = true → nilV x = true → Rep w O ρ t p x cs → Rep w' O' ρ' (t.modAt (fun _ _ => .own) q) p' x cs
  | .sc, p, p', q, x, cs, _, _, h => by simpa only [Ty.modAt, Rep] using h
  | .agg l, p, p', q, x, cs, hs, hn, h => by
    simp only [Ty.modAt, Rep] at h ⊢
    obtain ⟨xs, rfl, h⟩ := h
    exact ⟨xs, rfl, Reps.ofNil (by simpa only [Ty.isSh, Ty.all] using hs) (by simpa only [nilV] using hn) h⟩
  | .sl m e, p, p', q, x, cs, hs, hn, h => by
    simp only [Ty.isSh, Ty.all, beq_iff_eq] at hs
    subst hs
    simp only [Ty.modAt, Rep, SlRep, RepSh] at h ⊢
    obtain ⟨nl, xs, rfl, h⟩ := h
    simp only [nilV, Bool.and_eq_true, List.isEmpty_iff] at hn
    obtain ⟨rfl, rfl⟩ := hn
    rcases h with h | ⟨h, _⟩
    · exact ⟨true, [], rfl, .inl h⟩
    · cases h
theorem Reps.ofNil {w w' : World} {O O' : OMap} {ρ ρ' : Option Nat} : ∀ {l : List Ty} {p p' q : Nat} {xs : List PV} {cs : List Value}, Ty.alls (fun m => m == .sh) l = true → nilVs xs = true → Reps w O ρ l p xs cs → Reps w' O' ρ' (Ty.modsAt (fun _ _ => .own) q l) p' xs cs
  | [], p, p', q, xs, cs, _, _, h => by simpa only [Ty.modsAt, Reps] using h
  | t :: ts, p, p', q, xs, cs, hs, hn, h => by
    simp only [Ty.modsAt, Reps] at h ⊢
    simp only [Ty.alls, Bool.and_eq_true] at hs
    obtain ⟨y, ys, c1, c2, rfl, rfl, h1, h2⟩ := h
    simp only [nilVs, Bool.and_eq_true] at hn
    exact ⟨y, ys, c1, c2, rfl, rfl, Rep.ofNil hs.1 hn.1 h1, Reps.ofNil hs.2 hn.2 h2⟩
end

theorem newTy_rep {w w' : World} {O O' : OMap} {ρ ρ' : Option Nat} {t : Ty} {p p' : Nat} {x : PV} {cs : List Value} (hs : t.isSh = true) (k : Keeps w O w' O') (h : Rep w O ρ t p x cs) : Rep w' O' ρ' (newTy x t) p' x cs := by
  unfold newTy
  split
  · rename_i hn; exact Rep.ofNil hs hn h
  · exact Rep.noOwn (noOwn_of_isSh hs) k h

theorem newTy_size (x : PV) (t : Ty) : (newTy x t).size = t.size := by
  unfold newTy
  split
  · exact modAt_size _ t 0
  · rfl

theorem run_newVar (t : TypeId) (v : Value) : (newVar t v).run P w = .ok ⟨w.heap.size, 0, none⟩ (w.alloc (.cells v.cells t)) := by
  rfl

theorem alloc_sound (inv : Inv S s n w0 O0 a w O) (hd : d < n) {t : TypeId} (ho : o.op = .alloc t) {ty : Ty} {z : PV} (h : tyz P depth t = some (ty, z)) (hr : (VRhs.prim .mov [.const z]).run C s (some d) = some s') :
    Defd P S s' n w0 O0 a w o d (.box (newTy z ty)) := by
  obtain ⟨v, e1, rfl⟩ := mov_run hr
  simp only [VX.eval, Option.some.injEq] at e1; subst e1
  obtain ⟨v, hv, hrep⟩ := zero_rep (w := w) (O := O) h (some d) 0
  have hsh := tyz_isSh h
  have hne : z ≠ .undef := fun he => by subst he; exact Rep.noUndef (noDead_of_isSh hsh) hrep
  have hb := define_box inv hd (el := t) hne (fun w' O' k _ => newTy_rep hsh k hrep) (by rw [newTy_size]; exact Rep.length hrep)
  refine ⟨_, _, _, .inl ?_, hb⟩
  have := run_newVar (P := P) (w := w) t v
  simp only [execOp, ho, Instr.alloc]
  simp [Sem.run_bind, hv, this]

theorem box_sound (hS : Sub S0 S) (inv : Inv S s n w0 O0 a w O) (hd : d < n) {keep : Nat → Bool} {t : TypeId} {x : Operand} (ho : o.op = .box t x) {v : VX} {ty ty' : Ty} {org : Org} {us : List Up}
    (h1 : rd P S0 t x = some (v, ty, org)) (h2 : take S0 none keep ty org = some (us, ty')) (hr : (VRhs.prim .mov [v]).run C s (some d) = some s') : Defd P (putUps S us) s' n w0 O0 a w o d (.box ty') := by
  obtain ⟨pv, e1, rfl⟩ := mov_run hr
  obtain ⟨cs, g1, g2, g3⟩ := rd_sound hS inv h1 e1
  obtain ⟨O', inv', g4, g5, _, g6⟩ := take_sound hS inv h2 g3 g2 d 0 (fun d' hd' => by cases hd')
  have hne : pv ≠ .undef := fun he => by subst he; exact Rep.noUndef g6 g4
  have hb := define_box inv' hd (el := t) hne (fun w' O'' k hk => Rep.move k (fun q b hq hb => by
    rw [Nat.zero_add] at hb ⊢
    exact ⟨(hk b q hb).1.trans hb, (hk b q hb).2⟩) g4) (Rep.length g4)
  refine ⟨_, _, _, .inl ?_, hb⟩
  have hcells : (a.eval x).cells = cs.toArray := by
    have hone := Rep.one g6 g4
    cases ty with
    | agg l => simp only [Wrap] at g1; rw [g1]; rfl
    | sc =>
      simp only [Wrap] at g1; subst g1
      have := hone (a.eval x) (by simp)
      cases he : a.eval x <;> first | rfl | (exact absurd he (this.1 _))
    | sl m e =>
      simp only [Wrap] at g1; subst g1
      have := hone (a.eval x) (by simp)
      cases he : a.eval x <;> first | rfl | (exact absurd he (this.1 _))
  have := run_newVar (P := P) (w := w) t (a.eval x)
  rw [hcells] at this
  simp only [execOp, ho, Instr.box]
  simp [Sem.run_bind, this]

theorem at_one {l : List Ty} {f : Nat} {tf : Ty} {off : Nat} (h : Ty.at [f] (.agg l) = some (tf, off)) : l[f]? = some tf ∧ off = Ty.sizes (l.take f) := by
  simp only [Ty.at, Option.bind_eq_some_iff, Option.map_eq_some_iff] at h
  obtain ⟨t, ht, ⟨u, o'⟩, h1, h2⟩ := h
  simp at h1; obtain ⟨rfl, rfl⟩ := h1
  cases h2
  exact ⟨ht, by simp⟩

theorem run_part {t : TypeId} {k : Nat} {tf tf' : Ty} {z : PV} (h : tyz P k t = some (tf, z)) (he : tf.er = tf'.er) {cs : List Value} {off : Nat} (hl : off + tf.size ≤ cs.length) :
    ∃ v, (part t cs.toArray off).run P w = .ok v w ∧ Wrap tf' v ((cs.drop off).take tf.size) := by
  have hagg : (isAgg t).run P w = .ok tf.isAgg w := by
    cases k with
    | zero => simp [tyz] at h
    | succ k =>
      obtain ⟨i, v, hi, hs, hz, hm, h⟩ := tyz_succ h
      unfold Go.isAgg
      cases h with
      | bool hu => simp [Sem.run_bind, run_underlying hu]; rfl
      | int k hu => simp [Sem.run_bind, run_underlying hu]; rfl
      | str hu => simp [Sem.run_bind, run_underlying hu]; rfl
      | slice e te z hu => simp [Sem.run_bind, run_underlying hu]; rfl
      | array m e te z hu => simp [Sem.run_bind, run_underlying hu]; rfl
      | struct fs ts zs hu => simp [Sem.run_bind, run_underlying hu]; rfl
  have hsz := tyz_size (w := w) h
  have hagg' := isAgg_er he
  unfold part
  rw [Sem.run_bind, hagg]
  simp only [Result.andThen_ok]
  cases hb : tf.isAgg with
  | true =>
    refine ⟨.agg ((cs.drop off).take tf.size).toArray, ?_, ?_⟩
    · simp only [if_true, Sem.run_bind, hsz, Result.andThen_ok, Sem.run_pure]
      congr 2
      simp [List.extract_eq_take_drop]
    · rw [hb] at hagg'
      cases tf' <;> simp [Ty.isAgg] at hagg'
      rfl
  | false =>
    have hs1 : tf.size = 1 := by cases tf <;> simp [Ty.isAgg] at hb <;> rfl
    have hlt : off < cs.length := by omega
    refine ⟨cs[off], ?_, ?_⟩
    · simp [hlt]
    · rw [hb] at hagg'
      have : (cs.drop off).take tf.size = [cs[off]] := by
        rw [hs1, List.drop_eq_getElem_cons hlt]; rfl
      rw [this]
      cases tf' <;> simp [Ty.isAgg] at hagg' <;> rfl

theorem rd_org_view {t : TypeId} {x : Operand} {v : VX} {ty : Ty} {r pos : Nat} {p : Option (List Nat)} (hS : Sub S0 S) (h : rd P S0 t x = some (v, ty, some (r, pos, p))) : S0 r = S r := by
  cases x with
  | tmp i =>
    obtain ⟨hSi, _, hcase⟩ := rd_tmp_av hS h
    rcases hcase with ⟨hav, ho⟩ | ⟨r', p', q, c, hav, ho, hc, hr⟩
    · injection ho with ho; injection ho with e1 e2; subst e1; exact hSi
    · injection ho with ho; injection ho with e1 e2; subst e1; exact hr
  | const v0 =>
    simp only [rd, Option.bind_eq_some_iff] at h
    obtain ⟨x0, hx0, h⟩ := h
    cases x0 with
    | slice nl xs =>
      simp only [Option.bind_eq_some_iff] at h
      obtain ⟨ty0, _, h⟩ := h
      cases ty0 <;> simp at h
    | _ => simp at h
  | _ => simp [rd] at h

theorem field_sound (hS : Sub S0 S) (inv : Inv S s n w0 O0 a w O) (hd : d < n) {t : TypeId} {x : Operand} {f : Nat} (ho : o.op = .field t x f) {rhs : VRhs} {av : AV} {us : List Up}
    (h : chkField P S0 t x f = some (rhs, av, us)) (hr : rhs.run C s (some d) = some s') : us = [] ∧ Defd P S s' n w0 O0 a w o d av := by
  unfold chkField at h
  simp only [Option.bind_eq_some_iff] at h
  obtain ⟨⟨v, ty, org⟩, h1, h⟩ := h
  simp only [] at h
  by_cases hc : (isStruct P t && matchesTy P t ty) = true
  case neg => simp [hc] at h
  simp only [hc, if_true, Option.bind_eq_some_iff] at h
  obtain ⟨⟨tf, off⟩, h2, h⟩ := h
  simp only [Bool.and_eq_true] at hc
  obtain ⟨fs, hu⟩ := isStruct_true hc.1
  obtain ⟨l0, e0, hlen, hfs⟩ := struct_ty (matchesTy_some hc.2) hu
  obtain ⟨l, rfl⟩ := sh_agg e0
  have hers : ers l = ers l0 := by
    have h5 : (Ty.agg l).er = (Ty.agg l0).er := by rw [← e0, sh_er]
    rw [Ty.er_agg, Ty.er_agg] at h5
    injection h5
  obtain ⟨hlf, hoff⟩ := at_one h2
  obtain ⟨tf0, hl0f, hef⟩ := ers_get hers hlf
  have hflt : f < fs.size := by rw [← hlen]; exact (List.getElem?_eq_some_iff.1 hl0f).1
  obtain ⟨tf1, z, g1, g2, g3⟩ := hfs f fs[f] (by simp [hflt])
  rw [hl0f] at g2; cases g2
  have hoff2 : fs[f].offset = off := by rw [g3, hoff, ers_take hers]
  have main : rhs = .prim (.field f) [v] → ∃ y vv cs, s' = s.set d y ∧ Wrap tf vv cs ∧ (execOp a.eval o).run P w = .ok (.value vv) w ∧
      (∃ ρ p, Rep w O ρ tf p y cs) ∧ ∀ r pos q, org = some (r, pos, q) → Rep w O (some r) tf (pos + off) y cs := by
    intro hrhs; subst hrhs
    obtain ⟨vs, pv, he, hp, rfl⟩ := prim_run hr
    obtain ⟨x0, e1, rfl⟩ := evals_one he
    simp only [Prim.run, one] at hp
    split at hp
    case h_2 => cases hp
    case h_1 xs =>
    obtain ⟨l', cs, el, hev, hrep0, hnd⟩ := rd_agg hS inv h1 e1
    cases el
    have key : ∀ ρ p, Rep w O ρ (.agg l) p (.agg xs) cs → Rep w O ρ tf (p + off) pv ((cs.drop off).take tf.size) := by
      intro ρ p hrep
      obtain ⟨y, hy, hr', hs'⟩ := Rep.part [f] h2 hrep
      simp [getP] at hy
      rw [hp] at hy
      have hyy : y = pv := by
        obtain ⟨_, h3, h4⟩ : ∃ z, some pv = some z ∧ some z = some y := by simpa using hy
        cases h3; cases h4; rfl
      subst hyy
      exact hr'
    obtain ⟨ρ, p, hrep⟩ := hrep0.some'
    have hsz := Ty.size_of_er hef
    have hlcs := Rep.length hrep
    obtain ⟨_, _, _, hs'⟩ := Rep.part [f] h2 hrep
    obtain ⟨vv, hv1, hv2⟩ := run_part (P := P) (w := w) g1 hef.symm (cs := cs) (off := off) (by omega)
    refine ⟨pv, vv, (cs.drop off).take tf.size, rfl, by rw [hsz]; exact hv2, ?_, ⟨ρ, p + off, key ρ p hrep⟩, ?_⟩
    · simp [execOp, ho, hev, Instr.field, Sem.run_bind, run_underlying hu, hflt, asAgg, hoff2, hv1]
    · intro r pos q hq
      subst hq
      exact key _ _ hrep0
  by_cases hno : tf.noOwn = true
  · simp [hno, prim1] at h
    obtain ⟨rfl, rfl, rfl⟩ := h
    obtain ⟨y, vv, cs, rfl, g4, g5, ⟨ρ, p, g6⟩, _⟩ := main rfl
    exact ⟨rfl, vv, w, O, .inl g5, define_val inv hd (Grown.refl d inv.frame.alloc) g4 (Rep.noOwn hno (Keeps.refl w O) g6)⟩
  · cases org with
    | none => simp [hno] at h
    | some og =>
      obtain ⟨r, pos, q⟩ := og
      simp [hno, prim1] at h
      obtain ⟨rfl, rfl, rfl⟩ := h
      obtain ⟨y, vv, cs, rfl, g4, g5, _, g7⟩ := main rfl
      rw [rd_org_view hS h1]
      exact ⟨rfl, vv, w, O, .inl g5, define_alias inv hd g4 (g7 r pos q rfl) fun q hq => by cases hq⟩

theorem Tups.get {ρ : Option Nat} : ∀ {ts : List Ty} {p : Nat} {xs : List PV} {vs : List Value}, Tups w O ρ ts p xs vs → ∀ {i : Nat} {t : Ty}, ts[i]? = some t →
    ∃ y v cs, xs[i]? = some y ∧ vs[i]? = some v ∧ Wrap t v cs ∧ Rep w O ρ t (p + Ty.sizes (ts.take i)) y cs
  | [], p, xs, vs, _, i, t, hi => by simp at hi
  | u :: us, p, xs, vs, h, i, t, hi => by
    simp only [Tups] at h
    obtain ⟨y, ys, v, vs', cs, rfl, rfl, h1, h2, h3⟩ := h
    cases i with
    | zero => simp at hi; subst hi; exact ⟨y, v, cs, rfl, rfl, h1, by simpa [Ty.sizes] using h2⟩
    | succ i =>
      simp only [List.getElem?_cons_succ] at hi
      obtain ⟨y', v', cs', g1, g2, g3, g4⟩ := Tups.get h3 hi
      refine ⟨y', v', cs', by simpa using g1, by simpa using g2, g3, ?_⟩
      simp only [List.take_succ_cons, Ty.sizes]
      rw [← Nat.add_assoc]; exact g4

theorem extract_sound (hS : Sub S0 S) (inv : Inv S s n w0 O0 a w O) (hd : d < n) {i k : Nat} (ho : o.op = .extract (.tmp i) k) {ts : List Ty} {t : Ty} (hav0 : (S0 i).av = .tup ts) (ht : ts[k]? = some t)
    {rhs : VRhs} {av : AV} {us : List Up} (h : (if t.noOwn then some (prim1 (.ext k) [.tmp i] (.val t)) else some (prim1 (.ext k) [.tmp i] (.alias t i (Ty.sizes (ts.take k)) none (S0 i).c))) = some (rhs, av, us))
    (hr : rhs.run C s (some d) = some s') : us = [] ∧ Defd P S s' n w0 O0 a w o d av := by
  have hSi := hS.alive (i := i) (by rw [hav0]; simp)
  have hav : (S i).av = .tup ts := by rw [← hSi]; exact hav0
  have hlt := lt_of_alive inv (r := i) (by rw [hav]; simp)
  have main : rhs = .prim (.ext k) [.tmp i] → ∃ y v cs, s' = s.set d y ∧ Wrap t v cs ∧ Rep w O (some i) t (Ty.sizes (ts.take k)) y cs ∧ (execOp a.eval o).run P w = .ok (.value v) w := by
    intro hrhs; subst hrhs
    obtain ⟨vs, pv, he, hp, rfl⟩ := prim_run hr
    obtain ⟨x0, e1, rfl⟩ := evals_one he
    obtain ⟨hne, hg⟩ := undef_ne e1
    have hok := (inv.cell i hlt).resolve_left hne
    simp only [CellOK, hav] at hok
    obtain ⟨xs, vs, h1, h2, h3⟩ := hok
    obtain ⟨y, v, cs, g1, g2, g3, g4⟩ := Tups.get h3 ht
    rw [Nat.zero_add] at g4
    simp only [Prim.run, one] at hp
    rw [← hg, h1] at hp
    simp only [] at hp
    rw [g1] at hp; cases hp
    refine ⟨_, v, cs, rfl, g3, g4, ?_⟩
    have hev : a.eval (.tmp i) = .tuple vs.toArray := h2
    simp [execOp, ho, hev, Instr.extract, g2]
  by_cases hno : t.noOwn = true
  · simp [hno, prim1] at h
    obtain ⟨rfl, rfl, rfl⟩ := h
    obtain ⟨y, v, cs, rfl, g1, g2, g3⟩ := main rfl
    exact ⟨rfl, v, w, O, .inl g3, define_val inv hd (Grown.refl d inv.frame.alloc) g1 (Rep.noOwn hno (Keeps.refl w O) g2)⟩
  · simp [hno, prim1] at h
    obtain ⟨rfl, rfl, rfl⟩ := h
    obtain ⟨y, v, cs, rfl, g1, g2, g3⟩ := main rfl
    rw [hSi]
    exact ⟨rfl, v, w, O, .inl g3, define_alias inv hd g1 g2 fun q hq => by cases hq⟩

/-! ### slices of slices -/
theorem bound_run {vx : VX} {x : Operand} {t : TypeId} {ty : Ty} {org : Org} (hS : Sub S0 S) (inv : Inv S s n w0 O0 a w O) (h1 : rd P S0 t x = some (vx, ty, org)) {b : PV} (e1 : vx.eval s = some b) {dflt y l : Nat}
    (h : bound (some b) dflt y = some l) (code : BoundsCode) : (Instr.sliceBound (a.eval x) y code).run P w = .ok l w ∧ l ≤ y := by
  cases b <;> simp [bound] at h
  case int k m =>
    obtain ⟨⟨h2, h3⟩, rfl⟩ := h
    have := rd_int hS inv h1 e1
    refine ⟨?_, by omega⟩
    simp [Instr.sliceBound, this, asIntOf, h2, h3]

theorem rdO_some {b : Option Operand} {l : List VX} (h : rdO P S0 b = some l) : (b = none ∧ l = []) ∨ ∃ x v ty org, b = some x ∧ l = [v] ∧ rd P S0 0 x = some (v, ty, org) := by
  cases b with
  | none => simp [rdO] at h; exact .inl ⟨rfl, h⟩
  | some x =>
    simp only [rdO, Option.map_eq_some_iff] at h
    obtain ⟨⟨v, ty, org⟩, h1, rfl⟩ := h
    exact .inr ⟨x, v, ty, org, rfl, rfl, h1⟩

theorem evals_append : ∀ {l k : List VX} {vs : List PV}, evals s (l ++ k) = some vs → ∃ a b, evals s l = some a ∧ evals s k = some b ∧ vs = a ++ b
  | [], k, vs, h => ⟨[], vs, rfl, h, rfl⟩
  | x :: l, k, vs, h => by
    obtain ⟨v, us, h1, h2, rfl⟩ := evals_cons (by simpa using h)
    obtain ⟨a, b, h3, h4, rfl⟩ := evals_append h2
    exact ⟨v :: a, b, by simp [evals, h1, h3], h4, rfl⟩

/-- the bounds of a slice expression of two indexes -/
theorem bounds_run (hS : Sub S0 S) (inv : Inv S s n w0 O0 a w O) {lo hi : Option Operand} {l1 l2 : List VX} (h1 : rdO P S0 lo = some l1) (h2 : rdO P S0 hi = some l2) {bs : List PV} (he : evals s (l1 ++ l2) = some bs) {len cap l h : Nat} (hc : len ≤ cap)
    (hh : bound (if hi.isSome then bs[(if lo.isSome then 1 else 0)]? else none) len len = some h) (hl : bound (if lo.isSome then bs[0]? else none) 0 h = some l) (isSlice : Bool) :
    (Instr.sliceBounds isSlice len cap (lo.map a.eval) (hi.map a.eval) none).run P w = .ok (l, h, cap) w ∧ l ≤ h ∧ h ≤ len := by
  obtain ⟨b1, b2, e1, e2, rfl⟩ := evals_append he
  unfold Instr.sliceBounds
  rcases rdO_some h1 with ⟨rfl, rfl⟩ | ⟨x, v, ty, org, rfl, rfl, h3⟩ <;> rcases rdO_some h2 with ⟨rfl, rfl⟩ | ⟨x', v', ty', org', rfl, rfl, h4⟩
  · simp [evals] at e1 e2; subst e1; subst e2
    simp [bound] at hh hl; subst hh; subst hl
    simp
  · simp [evals] at e1; subst e1
    obtain ⟨u, e3, rfl⟩ := evals_one e2
    simp at hh
    simp [bound] at hl; subst hl
    have hcode := fun code => bound_run (P := P) (w := w) hS inv h4 e3 (y := cap) (l := h) (dflt := len) (by
      cases u <;> simp [bound] at hh ⊢
      rename_i k m
      obtain ⟨⟨q1, q2⟩, q3⟩ := hh
      exact ⟨⟨q1, by omega⟩, q3⟩) code
    have hle : h ≤ len := by
      cases u <;> simp [bound] at hh
      omega
    simp [Sem.run_bind, (hcode _).1, hle]
  · simp [evals] at e2; subst e2
    obtain ⟨u, e3, rfl⟩ := evals_one e1
    simp [bound] at hh; subst hh
    simp at hl
    have := fun code => bound_run (P := P) (w := w) hS inv h3 e3 hl code
    simp [Sem.run_bind, (this _).1, (this .sliceB).2]
  · obtain ⟨u, e3, rfl⟩ := evals_one e1
    obtain ⟨u', e4, rfl⟩ := evals_one e2
    simp at hh hl
    have hcode := fun code => bound_run (P := P) (w := w) hS inv h4 e4 (y := cap) (l := h) (dflt := len) (by
      cases u' <;> simp [bound] at hh ⊢
      rename_i k m
      obtain ⟨⟨q1, q2⟩, q3⟩ := hh
      exact ⟨⟨q1, by omega⟩, q3⟩) code
    have hle : h ≤ len := by
      cases u' <;> simp [bound] at hh
      omega
    have := fun code => bound_run (P := P) (w := w) hS inv h3 e3 hl code
    simp [Sem.run_bind, (hcode _).1, (this _).1, (this .sliceB).2, hle]

end
end Go.Vm
