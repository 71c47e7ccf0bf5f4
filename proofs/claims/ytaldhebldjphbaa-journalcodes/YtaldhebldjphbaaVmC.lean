/-
  A verified evaluator of the program's functions by value, part 3.
  Conditions: none.
-/
import Derived.Test.YtaldhebldjphbaaVmB
import Derived.Deep.AppendSrc
import Derived.Deep.Upon
import Derived.Laws.IdiomStrings
import Derived.Laws.StructEq
import Derived.ChangeKeysEq
import Derived.Laws.MakeOwn
import Derived.Laws.Tables

/-
  Slice expressions.
  Conditions: none.
-/
set_option linter.unusedVariables false
set_option linter.unusedSimpArgs false
namespace Go.Vm

section
variable {P : Program} {S0 S : Vw} {s s' : St} {n : Nat} {w0 : World} {O0 : OMap} {a : Act} {w : World} {O : OMap} {C : Env} {o : Oper} {d : Nat}

theorem sub_length {α : Type} {l : List α} {lo hi : Nat} (h : hi ≤ l.length) : (sub l lo hi).length = hi - lo := by
  simp [sub]; omega
theorem sub_get {α : Type} {l : List α} {lo hi i : Nat} {y : α} (h : (sub l lo hi)[i]? = some y) : l[lo + i]? = some y ∧ lo + i < hi := by
  simp only [sub, List.getElem?_drop, List.getElem?_take] at h
  split at h
  · exact ⟨h, by assumption⟩
  · cases h

/-- the value of a slice expression -/
def subV (v : Value) (l h m size : Nat) : Value := match v with
  | .slice a len cap => .slice (if m = l then a else a.map (·.add (l * size))) (h - l) (m - l)
  | v => v

theorem subV_sh {nl : Bool} {xs : List PV} {v : Value} {e : Ty} {m0 : Md} (h0 : RepSh w O (.sl m0 e) (.slice nl xs) [v]) {l h m : Nat} (h1 : l ≤ h) (h2 : h ≤ xs.length) (h3 : h ≤ m) (hc : ∀ ad len cap, v = .slice ad len cap → m ≤ cap) :
    RepSh w O (.sl .sh e) (.slice nl (sub xs l h)) [subV v l h m e.size] := by
  simp only [RepSh] at h0 ⊢
  obtain ⟨nl', xs', hx, h0⟩ := h0
  cases hx
  refine ⟨nl, sub xs l h, rfl, ?_⟩
  rcases h0 with ⟨rfl, rfl, hv⟩ | ⟨rfl, ad, cap, hv, g1, g2, g3⟩
  · left
    have hv := (List.cons.inj hv).1
    subst hv
    have hm := hc _ _ _ rfl
    simp at h2; subst h2
    have : l = 0 := by omega
    subst this
    have : m = 0 := by omega
    subst this
    refine ⟨rfl, by simp [sub], rfl⟩
  · right
    have hv := (List.cons.inj hv).1
    subst hv
    have hm := hc _ _ _ rfl
    refine ⟨rfl, (if m = l then ad else ad.add (l * e.size)), m - l, ?_, ?_, ?_, ?_⟩
    · simp only [subV, sub_length h2]
      by_cases hml : m = l <;> simp [hml]
    · by_cases hml : m = l
      · simp [hml, g1]
      · simp only [hml, if_false]; rw [addr_add' ad g1]
    · rw [sub_length h2]; omega
    · by_cases hlh : l = h
      · left
        subst hlh
        have := sub_length (lo := l) h2
        rw [Nat.sub_self] at this
        exact List.length_eq_zero_iff.1 this
      · right
        have hml : m ≠ l := by omega
        simp only [hml, if_false]
        rw [addr_add' ad g1]
        rcases g3 with rfl | ⟨k1, c, el, fr, k2, k3, k4⟩
        · simp at h2; omega
        · refine ⟨k1, c, el, fr, k2, ?_, fun i y hy => ?_⟩
          · rw [sub_length h2]
            have : h * e.size ≤ xs.length * e.size := Nat.mul_le_mul_right _ h2
            have e1 : (h - l) * e.size + l * e.size = h * e.size := by rw [← Nat.add_mul]; congr 1; omega
            simp only []
            omega
          · obtain ⟨q1, q2⟩ := sub_get hy
            have := k4 _ _ q1
            rw [Nat.add_mul] at this
            simp only []
            rw [Nat.add_assoc]
            exact this

theorem subV_own {ρ : Option Nat} {p : Nat} {nl : Bool} {xs : List PV} {v : Value} {e : Ty} (h0 : OwnSl w O ρ e p (.slice nl xs) [v]) {l h m : Nat} (h1 : l ≤ h) (h2 : h ≤ xs.length) (h3 : h ≤ m) (hc : ∀ ad len cap, v = .slice ad len cap → m ≤ cap) :
    OwnSl w O ρ e p (.slice nl (sub xs l h)) [subV v l h m e.size] := by
  obtain ⟨nl', xs', hx, h0⟩ := h0
  cases hx
  refine ⟨nl, sub xs l h, rfl, ?_⟩
  rcases h0 with ⟨rfl, rfl, hv⟩ | ⟨rfl, ad, cap, hv, g1, g2, g3⟩
  · left
    have hv := (List.cons.inj hv).1
    subst hv
    have hm := hc _ _ _ rfl
    simp at h2; subst h2
    have : l = 0 := by omega
    subst this
    have : m = 0 := by omega
    subst this
    refine ⟨rfl, by simp [sub], rfl⟩
  · right
    have hv := (List.cons.inj hv).1
    subst hv
    have hm := hc _ _ _ rfl
    refine ⟨rfl, (if m = l then ad else ad.add (l * e.size)), m - l, ?_, ?_, ?_, ?_⟩
    · simp only [subV, sub_length h2]
      by_cases hml : m = l <;> simp [hml]
    · by_cases hml : m = l
      · simp [hml, g1]
      · simp only [hml, if_false]; rw [addr_add' ad g1]
    · rw [sub_length h2]; omega
    · by_cases hml : m = l
      · left; omega
      · right
        simp only [hml, if_false]
        rw [addr_add' ad g1]
        rcases g3 with hcap | ⟨k1, c, el, fr, k2, k3, k5, k4⟩
        · omega
        · refine ⟨k1, c, el, fr, k2, ?_, k5, fun i y hy => ?_⟩
          · have : m * e.size ≤ cap * e.size := Nat.mul_le_mul_right _ hm
            have e1 : (m - l) * e.size + l * e.size = m * e.size := by rw [← Nat.add_mul]; congr 1; omega
            simp only []
            omega
          · obtain ⟨q1, q2⟩ := sub_get hy
            have := k4 _ _ q1
            rw [Nat.add_mul] at this
            simp only []
            rw [Nat.add_assoc]
            exact this

theorem run_slice_slice {t e : TypeId} {te : Ty} {z : PV} {k : Nat} (hu : P.underlying t = some (.slice e)) (he : tyz P k e = some (te, z)) {ad : Option Addr} {len cap : Nat} {lo hi mx : Option Value} {l h m : Nat}
    (hb : (Instr.sliceBounds true len cap lo hi mx).run P w = .ok (l, h, m) w) : (Instr.sliceAt t (.slice ad len cap) lo hi mx).run P w = .ok (subV (.slice ad len cap) l h m te.size) w := by
  unfold Instr.sliceAt
  simp only [Sem.run_bind, run_underlying hu, Result.andThen_ok]
  unfold Instr.slice
  simp only [Sem.run_bind, run_underlying hu, Result.andThen_ok, hb, tyz_size (w := w) he]
  rfl

theorem run_slice_string {t : TypeId} (hu : P.underlying t = some .string) {b : ByteArray} {lo hi : Option Value} {l h m : Nat}
    (hb : (Instr.sliceBounds false b.size b.size lo hi none).run P w = .ok (l, h, m) w) : (Instr.sliceAt t (.string b) lo hi none).run P w = .ok (.string (b.extract l h)) w := by
  unfold Instr.sliceAt
  simp only [Sem.run_bind, run_underlying hu, Result.andThen_ok]
  unfold Instr.slice
  simp [Sem.run_bind, run_underlying hu, Result.andThen_ok, hb]

theorem extract_list (x : List UInt8) (l h : Nat) : (⟨x.toArray⟩ : ByteArray).extract l h = ⟨(sub x l h).toArray⟩ := by
  apply ByteArray.ext
  simp [sub, ByteArray.data_extract, List.extract_eq_take_drop]
  rw [List.drop_take]

/-- the bounds of a slice expression of three indexes, the last two alike -/
theorem boundsC_run (hS : Sub S0 S) (inv : Inv S s n w0 O0 a w O) {lo : Option Operand} {xh xm : Operand} {l1 : List VX} {vh vm : VX} {th tm : Ty} {oh om : Org} (h1 : rdO P S0 lo = some l1) (h2 : rd P S0 0 xh = some (vh, th, oh)) (h3 : rd P S0 0 xm = some (vm, tm, om))
    {b1 : List PV} {bh bm : PV} (e1 : evals s l1 = some b1) (e2 : vh.eval s = some bh) (e3 : vm.eval s = some bm) {len cap l h : Nat} (hc : len ≤ cap) {hh' mm' : Int} (hbh : intOf bh = some hh') (hbm : intOf bm = some mm') (heq : hh' = mm')
    (hh : bound (some (.int .i64 hh')) 0 len = some h) (hl : bound (if lo.isSome then b1[0]? else none) 0 h = some l) :
    (Instr.sliceBounds true len cap (lo.map a.eval) (some (a.eval xh)) (some (a.eval xm))).run P w = .ok (l, h, h) w ∧ l ≤ h ∧ h ≤ len := by
  subst heq
  obtain ⟨k1, rfl⟩ : ∃ k1, bh = .int k1 hh' := by cases bh <;> simp [intOf] at hbh; exact ⟨_, by rw [hbh]⟩
  obtain ⟨k2, rfl⟩ : ∃ k2, bm = .int k2 hh' := by cases bm <;> simp [intOf] at hbm; exact ⟨_, by rw [hbm]⟩
  simp [bound] at hh
  obtain ⟨⟨q1, q2⟩, rfl⟩ := hh
  have c1 := fun code => (bound_run (P := P) (w := w) hS inv h3 e3 (dflt := 0) (y := cap) (by simp [bound]; exact ⟨⟨q1, by omega⟩, rfl⟩) code).1
  have c2 := fun code => (bound_run (P := P) (w := w) hS inv h2 e2 (dflt := 0) (y := hh'.toNat) (by simp [bound]; exact ⟨⟨q1, by omega⟩, rfl⟩) code).1
  unfold Instr.sliceBounds
  rcases rdO_some h1 with ⟨rfl, rfl⟩ | ⟨x, v, ty, org, rfl, rfl, h4⟩
  · simp [bound] at hl; subst hl
    refine ⟨?_, by omega, by omega⟩
    simp [Sem.run_bind, c1, c2]
  · obtain ⟨u, e4, rfl⟩ := evals_one e1
    simp at hl
    have c3 := fun code => bound_run (P := P) (w := w) hS inv h4 e4 hl code
    refine ⟨?_, (c3 .sliceB).2, by omega⟩
    simp [Sem.run_bind, c1, c2, (c3 _).1]

theorem define_inexact (hS : Sub S0 S) (inv : Inv S s n w0 O0 a w O) (hd : d < n) {t : TypeId} {x : Operand} {v : VX} {ty : Ty} {org : Org} (h : rd P S0 t x = some (v, ty, org)) {ty' : Ty} {z : PV} {vv : Value} {cs : List Value} (hw : Wrap ty' vv cs)
    (hrep : OrgRep w O org ty' z cs) : Inv (defV S d (readInexact S0 ty' org)) (s.set d z) n w0 O0 (a.put (some d) vv) w O := by
  cases org with
  | none => exact define_val inv hd (Grown.refl d inv.frame.alloc) hw (hrep _ _)
  | some og =>
    obtain ⟨r, pos, p⟩ := og
    have hr : S0 r = S r := by
      cases x with
      | tmp i =>
        obtain ⟨hSi, _, hcase⟩ := rd_tmp_av hS h
        rcases hcase with ⟨hav, ho⟩ | ⟨r', p', q, c, hav, ho, hc, hr⟩
        · injection ho with ho; injection ho with e1 e2; subst e1; exact hSi
        · injection ho with ho; injection ho with e1 e2; subst e1; exact hr
      | const v0 =>
        simp only [rd, Option.bind_eq_some_iff] at h
        obtain ⟨x0, hx0, h⟩ := h
        cases x0 with
        | slice nl xs =>
          simp only [Option.bind_eq_some_iff] at h
          obtain ⟨ty0, _, h⟩ := h
          cases ty0 <;> simp at h
        | _ => simp at h
      | _ => simp [rd] at h
    simp only [readInexact]
    rw [hr]
    exact define_alias inv hd hw hrep fun q hq => by cases hq

theorem slice_sound (hS : Sub S0 S) (inv : Inv S s n w0 O0 a w O) (hd : d < n) {t : TypeId} {x : Operand} {lo hi mx : Option Operand} (ho : o.op = .slice t x lo hi mx) {rhs : VRhs} {av : AV} {us : List Up}
    (h : chkSlice P S0 t x lo hi mx = some (rhs, av, us)) (hr : rhs.run C s (some d) = some s') : us = [] ∧ Defd P S s' n w0 O0 a w o d av := by
  unfold chkSlice at h
  simp only [Option.bind_eq_some_iff] at h
  obtain ⟨⟨v, ty, org⟩, h1, l1, hl1, l2, hl2, l3, hl3, h⟩ := h
  simp only [] at h
  by_cases hm : matchesTy P t ty = true
  case neg => simp [hm] at h
  simp only [hm, if_true] at h
  have hm := matchesTy_some hm
  by_cases hstr : isString P t = true
  · simp only [hstr, if_true] at h
    cases mx with
    | some mx => simp at h
    | none =>
      simp [prim1] at h
      obtain ⟨rfl, rfl, rfl⟩ := h
      have hu := isString_true hstr
      obtain ⟨vs, z, he, hp, rfl⟩ := prim_run hr
      obtain ⟨y, bs, e1, e2, rfl⟩ := evals_cons he
      have hsc : ty = .sc := sh_sc (scalar_ty hm hu rfl)
      subst hsc
      have hv := sc_val hS inv h1 e1
      simp only [Prim.run] at hp
      cases y <;> simp [slV] at hp
      case slice nl xs => simp [ScRep] at hv
      case str b =>
        simp only [Option.bind_eq_some_iff, Option.map_eq_some_iff] at hp
        obtain ⟨hh, g1, l, g2, rfl⟩ := hp
        have hsz : (⟨b.toArray⟩ : ByteArray).size = b.length := by simp [ByteArray.size]
        have hev := rd_str hS inv h1 e1
        obtain ⟨hb, _, _⟩ := bounds_run (P := P) (w := w) hS inv hl1 hl2 e2 (len := b.length) (cap := b.length) (Nat.le_refl _) g1 g2 false
        refine ⟨rfl, defd_sc inv hd (v := .string ((⟨b.toArray⟩ : ByteArray).extract l hh)) (by rw [extract_list]; simp [ScRep]) ?_⟩
        have := run_slice_string (w := w) hu (b := ⟨b.toArray⟩) (by rw [hsz]; exact hb)
        simp [execOp, ho, hev, this]
  · simp only [hstr, if_false, Bool.false_eq_true] at h
    by_cases hsl : ((isSlice P t).isSome && (hi.isSome || mx.isNone)) = true
    case neg => rw [if_neg hsl] at h; cases h
    rw [if_pos hsl] at h
    simp only [Bool.and_eq_true] at hsl
    obtain ⟨e, hsl1⟩ := Option.isSome_iff_exists.1 hsl.1
    have hu := isSlice_some hsl1
    obtain ⟨te, z, hty, hte, hpos⟩ := slice_ty hm hu
    obtain ⟨m0, rfl⟩ := sh_sl hty
    -- what the machine does
    have main : ∀ (pr : Prim), pr = (if mx.isSome then .sl3 lo.isSome else .sl lo.isSome hi.isSome) → rhs = .prim pr (v :: (l1 ++ (l2 ++ l3))) → ∃ nl xs ad len cap l hh mm, m0 ≠ .dead ∧ s' = s.set d (.slice nl (sub xs l hh)) ∧ a.eval x = .slice ad len cap ∧ len ≤ cap ∧
        OrgRep w O org (.sl m0 te) (.slice nl xs) [a.eval x] ∧ l ≤ hh ∧ hh ≤ xs.length ∧ hh ≤ mm ∧ mm ≤ cap ∧ (mx.isSome = true → mm = hh) ∧ (∀ c, mx = some (.const (.int c 0)) → hh = 0) ∧ (execOp a.eval o).run P w = .ok (.value (subV (a.eval x) l hh mm te.size)) w := by
      intro pr hpr hrhs
      subst hrhs
      obtain ⟨vs, zz, he, hp, rfl⟩ := prim_run hr
      obtain ⟨y, bs, e1, e2, rfl⟩ := evals_cons he
      obtain ⟨c1, rest, e3, e4, rfl⟩ := evals_append e2
      have hys : ∃ nl xs, y = .slice nl xs := by
        cases y with
        | slice nl xs => exact ⟨nl, xs, rfl⟩
        | str b =>
          exfalso
          obtain ⟨cs, _, q2, q3⟩ := rd_sound hS inv h1 e1
          obtain ⟨ρ, p, q2⟩ := q2.some'
          have := (Rep.str q3 q2).1
          cases this
        | _ => subst hpr; exfalso; cases mx <;> simp [Prim.run, slV, sl3V] at hp
      obtain ⟨nl, xs, rfl⟩ := hys
      obtain ⟨m1, e1', hh1, hh2, g1, g2⟩ := rd_slice hS inv h1 e1
      cases hh1
      have hval : ∃ ad cap, a.eval x = .slice ad xs.length cap ∧ xs.length ≤ cap := by
        rcases g1 with ⟨_, rfl, hv⟩ | ⟨_, ad, cap, hv, _, hc, _⟩
        · exact ⟨none, 0, hv, Nat.le_refl _⟩
        · exact ⟨_, cap, hv, hc⟩
      obtain ⟨ad, cap, hev, hlen⟩ := hval
      cases mx with
      | none =>
        simp at hpr; subst hpr
        have hl3' : l3 = [] := by simpa [rdO] using hl3.symm
        subst hl3'
        simp only [List.append_nil] at e4
        simp only [Prim.run, slV, Option.bind_eq_some_iff, Option.map_eq_some_iff] at hp
        obtain ⟨hh, q1, l, q2, rfl⟩ := hp
        have e5 : evals s (l1 ++ l2) = some (c1 ++ rest) := by
          rw [evals_append']; simp [e3, e4]
        obtain ⟨hb, b1, b2⟩ := bounds_run (P := P) (w := w) hS inv hl1 hl2 e5 (len := xs.length) (cap := cap) hlen q1 q2 true
        refine ⟨nl, xs, ad, xs.length, cap, l, hh, cap, hh2, rfl, hev, hlen, g2, b1, b2, by omega, Nat.le_refl _, (by simp), (fun c hc => by cases hc), ?_⟩
        have := run_slice_slice (w := w) hu hte hb (ad := ad)
        rw [← hev] at this
        simp [execOp, ho, this]
      | some xm =>
        simp at hpr; subst hpr
        have hhi : ∃ xh, hi = some xh := by
          cases hi with
          | none => simp at hsl
          | some xh => exact ⟨xh, rfl⟩
        obtain ⟨xh, rfl⟩ := hhi
        rcases rdO_some hl2 with ⟨hx, _⟩ | ⟨x2, v2, t2, o2, hx2, rfl, r2⟩
        · cases hx
        cases hx2
        rcases rdO_some hl3 with ⟨hx, _⟩ | ⟨x3, v3, t3, o3, hx3, rfl, r3⟩
        · cases hx
        cases hx3
        simp only [List.singleton_append] at e4
        obtain ⟨u2, u3, e6, e7, rfl⟩ := evals_two e4
        have hlen1 : c1.length = if lo.isSome then 1 else 0 := by
          rcases rdO_some hl1 with ⟨rfl, rfl⟩ | ⟨x', v', ty', org', rfl, rfl, _⟩
          · simp [evals] at e3; subst e3; rfl
          · obtain ⟨u, _, rfl⟩ := evals_one e3; rfl
        simp only [Prim.run, sl3V, Option.bind_eq_some_iff] at hp
        obtain ⟨b2, q1, b3, q2, h', q3, m', q4, hp⟩ := hp
        have hb2 : b2 = u2 := by
          have : (c1 ++ [u2, u3])[(if lo.isSome = true then 1 else 0)]? = some u2 := by rw [← hlen1]; simp
          rw [this] at q1; cases q1; rfl
        have hb3 : b3 = u3 := by
          have : (c1 ++ [u2, u3])[(if lo.isSome = true then 2 else 1)]? = some u3 := by
            have e8 : (if lo.isSome = true then 2 else 1) = c1.length + 1 := by rw [hlen1]; split <;> rfl
            rw [e8]; simp
          rw [this] at q2; cases q2; rfl
        subst hb2; subst hb3
        by_cases hhm : h' = m'
        case neg => rw [if_neg hhm] at hp; cases hp
        rw [if_pos hhm] at hp
        simp only [Option.bind_eq_some_iff, Option.map_eq_some_iff] at hp
        obtain ⟨hh, q5, l, q6, rfl⟩ := hp
        have q6' : bound (if lo.isSome then c1[0]? else none) 0 hh = some l := by
          cases hlo : lo.isSome with
          | false => rw [hlo] at q6; exact q6
          | true =>
            rw [hlo] at q6 hlen1
            simp only [if_true] at q6 hlen1 ⊢
            rw [List.getElem?_append_left (by omega)] at q6
            exact q6
        obtain ⟨hb, b1, b2⟩ := boundsC_run (P := P) (w := w) hS inv hl1 r2 r3 e3 e6 e7 (len := xs.length) (cap := cap) hlen q3 q4 hhm q5 q6'
        refine ⟨nl, xs, ad, xs.length, cap, l, hh, hh, hh2, rfl, hev, hlen, g2, b1, b2, Nat.le_refl _, (by omega), (fun _ => rfl), (fun c hc => ?_), ?_⟩
        · cases hc
          have hz : rd P S0 0 (.const (.int c 0)) = some (v3, t3, o3) := r3
          simp [rd, constPV] at hz
          obtain ⟨rfl, _⟩ := hz
          simp only [VX.eval, Option.some.injEq] at e7; subst e7
          simp [intOf] at q4
          subst q4
          simp [bound, hhm] at q5
          omega
        · have := run_slice_slice (w := w) hu hte hb (ad := ad)
          rw [← hev] at this
          simp [execOp, ho, this]
    have hcap : ∀ {ad len cap mm}, a.eval x = .slice ad len cap → mm ≤ cap → ∀ ad' len' cap', a.eval x = .slice ad' len' cap' → mm ≤ cap' := by
      intro ad len cap mm hev hmm ad' len' cap' h'
      rw [hev] at h'; cases h'; exact hmm
    by_cases hown : m0 = .own
    · subst hown
      simp [prim1] at h
      obtain ⟨rfl, rfl, rfl⟩ := h
      obtain ⟨nl, xs, ad, len, cap, l, hh, mm, _, rfl, hev, hlen, g2, b1, b2, b3, b4, _, _, hx⟩ := main _ rfl rfl
      refine ⟨rfl, _, w, O, .inl hx, ?_⟩
      refine define_inexact hS inv hd h1 (cs := [subV (a.eval x) l hh mm te.size]) rfl ?_
      have key : ∀ ρ p, Rep w O ρ (.sl .own te) p (.slice nl xs) [a.eval x] → Rep w O ρ (.sl .own te) p (.slice nl (sub xs l hh)) [subV (a.eval x) l hh mm te.size] := by
        intro ρ p hr
        simp only [Rep, SlRep] at hr ⊢
        exact subV_own hr b1 b2 b3 (hcap hev b4)
      cases org with
      | none => exact fun ρ p => key ρ p (g2 ρ p)
      | some og => obtain ⟨r, pos, q⟩ := og; exact key _ _ g2
    · have hex : rhs = .prim (if mx.isSome then .sl3 lo.isSome else .sl lo.isSome hi.isSome) (v :: (l1 ++ (l2 ++ l3))) ∧ us = [] ∧
          av = .val (.sl (if isZero mx then .own else if mx.isSome then .full else .sh) te) := by
        cases m0 <;> simp [prim1] at h hown <;> obtain ⟨rfl, rfl, rfl⟩ := h <;> exact ⟨rfl, rfl, rfl⟩
      obtain ⟨hrhs, rfl, rfl⟩ := hex
      obtain ⟨nl, xs, ad, len, cap, l, hh, mm, hm0, rfl, hev, hlen, g2, b1, b2, b3, b4, b5, b6, hx⟩ := main _ rfl hrhs
      refine ⟨rfl, _, w, O, .inl hx, ?_⟩
      have hsh : RepSh w O (.sl .sh te) (.slice nl (sub xs l hh)) [subV (a.eval x) l hh mm te.size] := by
        obtain ⟨ρ, p, g2⟩ := g2.some'
        have : RepSh w O (.sl .sh te) (.slice nl xs) [a.eval x] := by
          simp only [Rep] at g2
          cases m0 with
          | dead => exact absurd rfl hm0
          | own => exact absurd rfl hown
          | sh => exact g2
          | full => exact g2.1
        exact subV_sh this b1 b2 b3 (hcap hev b4)
      refine define_val inv hd (Grown.refl d inv.frame.alloc) (cs := [subV (a.eval x) l hh mm te.size]) rfl ?_
      simp only [Rep]
      split
      · -- nothing in it, and no room
        rename_i hz
        have hh0 : hh = 0 ∧ mm = 0 := by
          have hz' : ∃ c, mx = some (.const (.int c 0)) := by
            unfold isZero at hz
            split at hz
            · rename_i c m; simp at hz; subst hz; exact ⟨c, rfl⟩
            · cases hz
          obtain ⟨c, rfl⟩ := hz'
          have := b6 c rfl
          exact ⟨this, by rw [b5 rfl]; exact this⟩
        obtain ⟨rfl, rfl⟩ := hh0
        have : l = 0 := by omega
        subst this
        simp only [SlRep, OwnSl]
        have hs0 : sub xs 0 0 = [] := by simp [sub]
        rw [hs0] at hsh ⊢
        simp only [RepSh] at hsh
        obtain ⟨nl', xs', hx', hsh⟩ := hsh
        cases hx'
        refine ⟨nl, [], rfl, ?_⟩
        rcases hsh with hsh | ⟨q0, ad', cap', q1, q2, q3, _⟩
        · exact .inl hsh
        · refine .inr ⟨q0, ad', cap', q1, q2, q3, .inl ?_⟩
          have q1' := (List.cons.inj q1).1
          rw [hev] at q1'
          simp [subV] at q1'
          omega
      · split
        · rename_i hsome
          refine ⟨hsh, fun ad' len' cap' hc => ?_⟩
          have hc := (List.cons.inj hc).1
          rw [hev] at hc
          simp [subV] at hc
          rw [← hc.2.1, ← hc.2.2, b5 hsome]
        · exact hsh
where
  evals_append' {s : St} : ∀ (l k : List VX), evals s (l ++ k) = (evals s l).bind fun a => (evals s k).map fun b => a ++ b
    | [], k => by simp [evals]
    | x :: l, k => by
      simp only [List.cons_append, evals, evals_append' l k]
      cases x.eval s <;> simp
      cases evals s l <;> simp
      cases evals s k <;> simp

end
end Go.Vm

/-
  Appends.
  Conditions: none.
-/
set_option linter.unusedVariables false
set_option linter.unusedSimpArgs false
namespace Go.Vm

/-- cells that hold the elements `ys`, one behind the other -/
def Src (w : World) (O : OMap) (e : Ty) (ys : List PV) (news : List Value) : Prop :=
  news.length = ys.length * e.size ∧ ∀ i y, ys[i]? = some y → RepSh w O e y ((news.drop (i * e.size)).take e.size)

section
variable {P : Program} {S0 S : Vw} {s s' : St} {n : Nat} {w0 : World} {O0 : OMap} {a : Act} {w : World} {O : OMap} {C : Env} {o : Oper} {d : Nat}

theorem Src.one {e : Ty} {ys : List PV} {news : List Value} (h : Src w O e ys news) (hs : 0 < e.size) : ∀ v ∈ news, oneCell v := by
  intro v hv
  obtain ⟨j, hj, rfl⟩ := List.getElem_of_mem hv
  have hi : j / e.size < ys.length := by
    rw [Nat.div_lt_iff_lt_mul hs, ← h.1]; exact hj
  have hr := h.2 (j / e.size) ys[j / e.size] (by simp [hi])
  have hr' : RepSh w O e.er ys[j / e.size] _ := (RepSh.er 0).1 hr
  have h2 := (RepSh.rep (w := w) (O := O) none 0 (Ty.er_isSh e)).1 hr'
  refine Rep.one (noDead_of_isSh (Ty.er_isSh e)) h2 _ ?_
  have h3 : ((news.drop (j / e.size * e.size)).take e.size)[j % e.size]? = some news[j] := by
    rw [List.getElem?_take, if_pos (Nat.mod_lt _ hs), List.getElem?_drop, Nat.mul_comm, Nat.div_add_mod]
    simp [hj]
  exact List.mem_of_getElem? h3

theorem one_cell' {v : Value} (h : oneCell v) : v.oneCell' = true := by
  cases v <;> first | rfl | exact absurd rfl (h.1 _) | exact absurd rfl (h.2 _)

theorem setCells_eq : ∀ (vs : List Value) (w : World) (b o : Nat) (c : Array Value) (el : TypeId) (fr : Nat × Nat), w.heap[b]? = some (.cells c el fr) → o + vs.length ≤ c.size →
    w.setCells b o vs = putBlk w b (.cells (splice c o vs) el fr)
  | [], w, b, o, c, el, fr, h, _ => by rw [splice_nil, putBlk_same h]; rfl
  | v :: vs, w, b, o, c, el, fr, h, hn => by
    simp only [List.length_cons] at hn
    have hlt := (Array.getElem?_eq_some_iff.1 h).1
    simp only [World.setCells]
    rw [setCell_putBlk h, setCells_eq vs _ b (o + 1) _ el fr (putBlk_heap hlt) (by simp; omega), splice_cons (by omega)]
    simp [putBlk]

theorem free_frozen {b o : Nat} {c : Array Value} {el : TypeId} {fr : Nat × Nat} (h : w.heap[b]? = some (.cells c el fr)) (hf : Free fr c.size) (ho : o < c.size) : w.frozen? ⟨b, o, none⟩ = false := by
  have := hf o ho
  simp only [World.frozen?, h]
  obtain ⟨lo, hi⟩ := fr
  simp only [Bool.and_eq_false_iff, decide_eq_false_iff_not]
  simp only [not_and] at this
  by_cases h1 : lo ≤ o
  · right; exact this h1
  · left; exact h1

/-- the second argument of an append: a slice -/
theorem Src.slice {e : Ty} {nl : Bool} {ys : List PV} {v : Value} {t' e' : TypeId} (hu : P.underlying t' = some (.slice e')) (h : SlV w O e nl ys v) (hpos : 0 < e.size) :
    ∃ news, Src w O e ys news ∧ Go.Src P e.size t' v ys.length news w := by
  rcases h with ⟨_, rfl, rfl⟩ | ⟨_, ad, cap, rfl, h1, h2, h3⟩
  · exact ⟨[], ⟨by simp, fun i y hy => by simp at hy⟩, Go.Src.ofNil w hu 0⟩
  · rcases h3 with rfl | ⟨c, el, fr, g1, g2, g3⟩
    · exact ⟨[], ⟨by simp, fun i y hy => by simp at hy⟩, Go.Src.ofSlice w hu ad 0 cap [] (by simp) (fun j u hj => by simp at hj) (by simp)⟩
    · have hsrc : Src w O e ys (cellsAt c ad.off (ys.length * e.size)) := ⟨cellsAt_length g2, fun i y hy => by
        have hi := (List.getElem?_eq_some_iff.1 hy).1
        have : (i + 1) * e.size ≤ ys.length * e.size := Nat.mul_le_mul_right _ hi
        rw [Nat.succ_mul] at this
        rw [cellsAt_cellsAt (by omega)]
        exact g3 i y hy⟩
      refine ⟨_, hsrc, Go.Src.ofSlice w hu ad ys.length cap _ (cellsAt_length g2) (fun j u hj => ?_) (fun u hu => one_cell' (hsrc.one hpos u hu))⟩
      have hj' : j < ys.length * e.size := by
        have := (List.getElem?_eq_some_iff.1 hj).1
        rwa [cellsAt_length g2] at this
      rw [addr_add' ad h1, cell_block g1, ← cellsAt_get hj']; exact hj

theorem Src.str {b : List UInt8} : Src w O .sc (bytesPV b) (byteCells ⟨b.toArray⟩) := by
  refine ⟨by simp [bytesPV, Ty.size, byteCells], fun i y hy => ?_⟩
  simp only [bytesPV, List.getElem?_map, Option.map_eq_some_iff] at hy
  obtain ⟨x, hx, rfl⟩ := hy
  simp only [Ty.size, Nat.mul_one, RepSh, ScRep, byteCells]
  have hi := (List.getElem?_eq_some_iff.1 hx).1
  rw [List.drop_eq_getElem_cons (by simpa using hi)]
  have := (List.getElem?_eq_some_iff.1 hx).2
  simp [this]

theorem Src.keep {w' : World} {O' : OMap} {e : Ty} {ys : List PV} {news : List Value} (k : Keeps w O w' O') (h : Src w O e ys news) : Src w' O' e ys news :=
  ⟨h.1, fun i y hy => RepSh.keep k (h.2 i y hy)⟩

/-- the row of `xs` and then `ys`, where the cells of `ys` are laid behind those of `xs` -/
theorem row_append {e : Ty} {xs ys : List PV} {c : Array Value} {off : Nat} {news : List Value} (hx : ∀ i y, xs[i]? = some y → RepSh w O e y (cellsAt c (off + i * e.size) e.size)) (hy : Src w O e ys news)
    (hl : off + xs.length * e.size + news.length ≤ c.size) : ∀ i y, (xs ++ ys)[i]? = some y → RepSh w O e y (cellsAt (splice c (off + xs.length * e.size) news) (off + i * e.size) e.size) := by
  intro i y hiy
  by_cases hi : i < xs.length
  · rw [List.getElem?_append_left hi] at hiy
    have : (i + 1) * e.size ≤ xs.length * e.size := Nat.mul_le_mul_right _ hi
    rw [Nat.succ_mul] at this
    rw [cellsAt_splice_other hl (by omega)]
    exact hx i y hiy
  · rw [List.getElem?_append_right (by omega)] at hiy
    have h1 := hy.2 _ _ hiy
    have hj := (List.getElem?_eq_some_iff.1 hiy).1
    have : (i - xs.length + 1) * e.size ≤ ys.length * e.size := Nat.mul_le_mul_right _ hj
    rw [Nat.succ_mul, ← hy.1] at this
    have e0 : i * e.size = xs.length * e.size + (i - xs.length) * e.size := by rw [← Nat.add_mul]; congr 1; omega
    have e1 : cellsAt (splice c (off + xs.length * e.size) news) (off + i * e.size) e.size = (news.drop ((i - xs.length) * e.size)).take e.size := by
      have h2 := cellsAt_splice hl
      conv => rhs; rw [← h2]
      rw [cellsAt_cellsAt this]
      congr 1
      omega
    rw [e1]; exact h1

theorem nextcap_le (need old : Nat) (h : old < need) : Builtin.nextslicecap need old ≤ 2 * need := by
  unfold Builtin.nextslicecap
  split
  · omega
  · split
    · omega
    · rename_i h1 h2
      have : ∀ (r c : Nat), c ≤ 2 * need → 256 ≤ c → Builtin.growBy need r c ≤ 2 * need := by
        intro r
        induction r with
        | zero => intro c hc _; exact hc
        | succ r ih =>
          intro c hc h256
          unfold Builtin.growBy
          split
          · exact hc
          · exact ih _ (by omega) (by omega)
      exact this 4 old (by omega) (by omega)

/-- the parts of an append's operands -/
theorem append_parts (hS : Sub S0 S) (inv : Inv S s n w0 O0 a w O) {x y : Operand} {t t' : TypeId} {v u : VX} {ty ty' : Ty} {org org' : Org} (h1 : rd P S0 t x = some (v, ty, org)) (h2 : rd P S0 t' y = some (u, ty', org')) {e : TypeId} (he : isSlice P t = some e)
    {m : Md} {te : Ty} (hty : ty = .sl m te) (hc : (if isString P t' then isInt P e == some .u8 else (isSlice P t').isSome && sameElems ty ty') = true)
    (hm : matchesTy P t ty = true) (hm' : matchesTy P t' ty' = true) {bytes : Nat} {p q : PV} (e1 : v.eval s = some p) (e2 : u.eval s = some q) {z : PV} (hz : appV bytes p q = some z) :
    ∃ nl xs ys news zz, p = .slice nl xs ∧ z = .slice (nl && ys.isEmpty) (xs ++ ys) ∧ (xs.length + ys.length) * bytes ≤ 140737488355328 ∧ tyz P 11 e = some (te, zz) ∧ 0 < te.size ∧ Src w O te ys news ∧ Go.Src P te.size t' (a.eval y) ys.length news w := by
  subst hty
  have hu := isSlice_some he
  obtain ⟨te', zz, g1, g2, g3⟩ := slice_ty (matchesTy_some hm) hu
  have : te' = te := by simp [Ty.sh, Ty.modAt] at g1; exact g1.2.symm
  subst this
  cases hs : isString P t' with
  | true =>
    rw [hs] at hc
    simp only [if_true, beq_iff_eq] at hc
    have hu' := isString_true hs
    have hsc : ty' = .sc := sh_sc (scalar_ty (matchesTy_some hm') hu' rfl)
    subst hsc
    have hte : te' = .sc := by
      obtain ⟨i, v0, hi, hs0, hz0, hm0, hat⟩ := tyz_succ g2
      cases hat with
      | array m e te z hu' h1 => rw [isInt_some hc] at hu'; cases hu'
      | bool hu' => rfl
      | int k hu' => rfl
      | str hu' => rfl
      | slice e te z hu' => rw [isInt_some hc] at hu'; cases hu'
      | struct fs ts zs hu' => rw [isInt_some hc] at hu'; cases hu'
    subst hte
    have hsv := sc_val hS inv h2 e2
    cases p <;> cases q <;> simp [appV] at hz
    case slice.slice => simp [ScRep] at hsv
    case slice.str nl xs b =>
      obtain ⟨hb, rfl⟩ := hz
      have hev := rd_str hS inv h2 e2
      have hl : (bytesPV b).length = b.length := by simp [bytesPV]
      refine ⟨nl, xs, bytesPV b, byteCells ⟨b.toArray⟩, zz, rfl, ?_, by rw [hl]; exact hb, g2, g3, Src.str, ?_⟩
      · cases b <;> rfl
      · rw [hev, hl]
        have := Go.Src.ofString w hu' ⟨b.toArray⟩
        have hsz : (⟨b.toArray⟩ : ByteArray).size = b.length := by simp [ByteArray.size]
        rw [hsz] at this
        exact this
  | false =>
    rw [hs] at hc
    simp only [Bool.false_eq_true, if_false, Bool.and_eq_true] at hc
    obtain ⟨e', he'⟩ := Option.isSome_iff_exists.1 hc.1
    have hu' := isSlice_some he'
    obtain ⟨m', te2, rfl⟩ : ∃ m' te2, ty' = .sl m' te2 := by
      cases ty' with
      | sl m' te2 => exact ⟨m', te2, rfl⟩
      | _ => simp [sameElems] at hc
    have := Ty.beq_eq (by simpa [sameElems] using hc.2)
    subst this
    cases p <;> cases q <;> simp [appV] at hz
    case slice.str nl xs b =>
      exfalso
      obtain ⟨cs, _, q2, q3⟩ := rd_sound hS inv h2 e2
      obtain ⟨ρ, p, q2⟩ := q2.some'
      cases (Rep.str q3 q2).1
    case slice.slice nl xs nl' ys =>
      obtain ⟨hb, rfl⟩ := hz
      obtain ⟨m2, e2', hh1, hh2, k1, k2⟩ := rd_slice hS inv h2 e2
      cases hh1
      obtain ⟨news, q1, q2⟩ := Src.slice hu' k1 g3
      exact ⟨nl, xs, ys, news, zz, rfl, rfl, hb, g2, g3, q1, q2⟩

theorem append_exec {c : Call} (ho : o.op = .call c) (hc : c.callee = .builtin .append) {x y : Operand} {t t' : TypeId} (ha : c.args.toList = [x, y]) (hat : c.argTypes.toList = [t, t']) {r : Value} {w' : World}
    (h : (Builtin.append_ #[t, t'] o.type #[a.eval x, a.eval y]).run P w = .ok r w') : (execOp a.eval o).run P w = .ok (.value r) w' := by
  have ha : c.args = #[x, y] := by rw [← Array.toArray_toList (xs := c.args), ha]
  have hat : c.argTypes = #[t, t'] := by rw [← Array.toArray_toList (xs := c.argTypes), hat]
  simp [execOp, ho, resolve, hc, invoke, builtin, ha, hat, h]

theorem bytes_info {e : TypeId} {bytes : Nat} {te : Ty} {zz : PV} {k : Nat} (hb : bytesOf P e = some bytes) (hz : tyz P k e = some (te, zz)) : ∃ i z, P.info? e = some i ∧ i.size = te.size ∧ i.bytes = bytes ∧ i.zero = some z := by
  cases k with
  | zero => simp [tyz] at hz
  | succ k =>
    obtain ⟨i, v, hi, hs, hz, _⟩ := tyz_succ hz
    refine ⟨i, v, hi, hs, ?_, hz⟩
    simp [bytesOf, hi] at hb; exact hb

/-- a new row: what was there, and what is appended -/
theorem append_new (inv : Inv S s n w0 O0 a w O) {e t t' ty : TypeId} {te : Ty} {zz : PV} (hu : P.underlying t = some (.slice e)) {bytes : Nat} (hb : bytesOf P e = some bytes) (hz : tyz P 11 e = some (te, zz)) (hpos : 0 < te.size) (hbp : 0 < bytes) {nl : Bool} {xs ys : List PV} {v y : Value} {news : List Value}
    (hx : SlV w O te nl xs v) (hsrc : Src w O te ys news) (hgs : Go.Src P te.size t' y ys.length news w) (hbd : (xs.length + ys.length) * bytes ≤ 140737488355328) {base : Option Addr} {sCap : Nat} (hv : v = .slice base xs.length sCap) (hg : sCap < xs.length + ys.length) :
    ∃ cap c, xs.length + ys.length ≤ cap ∧ (Builtin.append_ #[t, t'] ty #[v, y]).run P w = .ok (.slice (some ⟨w.heap.size, 0, none⟩) (xs.length + ys.length) cap) (w.drew.alloc (.cells c e)) ∧
      cap * te.size ≤ c.size ∧ ∀ i z, (xs ++ ys)[i]? = some z → RepSh w O te z (cellsAt c (i * te.size) te.size) := by
  obtain ⟨i, z, hi, hsz, hib, hzz⟩ := bytes_info hb hz
  obtain ⟨olds, hold1, hold2, hold3⟩ : ∃ olds : List Value, (Builtin.firstCells i.size xs.length v).run P w.drew = .ok olds.toArray w.drew ∧ olds.length = xs.length * te.size ∧ ∀ k y, xs[k]? = some y → RepSh w O te y ((olds.drop (k * te.size)).take te.size) := by
    rcases hx with ⟨_, rfl, rfl⟩ | ⟨_, ad, cap, rfl, h1, h2, h3⟩
    · exact ⟨[], by simp [Builtin.firstCells], by simp, fun k y hk => by simp at hk⟩
    · rcases h3 with rfl | ⟨c, el, fr, g1, g2, g3⟩
      · exact ⟨[], by simp [Builtin.firstCells, loadCells, loadCellsFrom], by simp, fun k y hk => by simp at hk⟩
      · refine ⟨cellsAt c ad.off (xs.length * te.size), ?_, cellsAt_length g2, fun k y hy => ?_⟩
        · obtain ⟨b, off, sp⟩ := ad
          simp only at h1; subst h1
          simp only [Builtin.firstCells, hsz]
          exact run_loadCells_at (w := w.drew) g1 g2
        · have hk := (List.getElem?_eq_some_iff.1 hy).1
          have : (k + 1) * te.size ≤ xs.length * te.size := Nat.mul_le_mul_right _ hk
          rw [Nat.succ_mul] at this
          rw [cellsAt_cellsAt (by omega)]
          exact g3 k y hy
  have hn : xs.length + ys.length ≤ 140737488355328 := Nat.le_trans (Nat.le_mul_of_pos_right _ hbp) hbd
  have h3 : Builtin.nextslicecap (xs.length + ys.length) sCap * i.bytes ≤ 281474976710656 := by
    have h4 := nextcap_le (xs.length + ys.length) sCap hg
    have h5 : Builtin.nextslicecap (xs.length + ys.length) sCap * i.bytes ≤ 2 * (xs.length + ys.length) * i.bytes := Nat.mul_le_mul_right _ h4
    rw [hib] at h5 ⊢
    rw [Nat.mul_assoc] at h5
    omega
  subst hv
  rw [← hsz] at hgs
  have hrun := run_append_grow_src (P := P) w t t' ty e i z hu hi hzz base xs.length sCap olds hold1 y ys.length news hgs hg (by omega) h3
  refine ⟨_, _, ?_, hrun, ?_, ?_⟩
  · exact grownCap_ge w (xs.length + ys.length) sCap e
  · have hzl : z.cells.size = te.size := by
      have := Rep.length (zero_len hz hi hzz : Rep w O none te 0 zz z.cells.toList)
      simpa using this
    have hge := grownCap_ge w (xs.length + ys.length) sCap e
    generalize grownCap w (xs.length + ys.length) sCap e = cap at hge ⊢
    simp only [Array.size_append, List.size_toArray, List.length_append, hold2, hsrc.1, Builtin.zeroCells, Array.size_map, Array.size_range, hzl]
    rw [← Nat.add_mul, ← Nat.add_mul]
    have : xs.length + ys.length + (cap - (xs.length + ys.length)) = cap := by omega
    rw [this]; exact Nat.le_refl _
  · intro k zv hk
    have hkl := (List.getElem?_eq_some_iff.1 hk).1
    rw [List.length_append] at hkl
    have hmul : (k + 1) * te.size ≤ (xs.length + ys.length) * te.size := Nat.mul_le_mul_right _ hkl
    rw [Nat.succ_mul, Nat.add_mul] at hmul
    have hcells : cellsAt ((olds ++ news).toArray ++ Builtin.zeroCells z.cells (grownCap w (xs.length + ys.length) sCap e - (xs.length + ys.length))) (k * te.size) te.size = ((olds ++ news).drop (k * te.size)).take te.size := by
      unfold cellsAt
      rw [Array.toList_append]
      simp only []
      rw [List.drop_append_of_le_length (by simp [hold2, hsrc.1]; omega), List.take_append_of_le_length (by simp [hold2, hsrc.1]; omega)]
    rw [hcells]
    by_cases hkx : k < xs.length
    · rw [List.getElem?_append_left hkx] at hk
      have h6 : (k + 1) * te.size ≤ xs.length * te.size := Nat.mul_le_mul_right _ hkx
      rw [Nat.succ_mul] at h6
      rw [List.drop_append_of_le_length (by omega), List.take_append_of_le_length (by simp [hold2]; omega)]
      exact hold3 k zv hk
    · rw [List.getElem?_append_right (by omega)] at hk
      have e0 : k * te.size = olds.length + (k - xs.length) * te.size := by rw [hold2, ← Nat.add_mul]; congr 1; omega
      rw [e0, ← List.drop_drop, List.drop_left]
      exact hsrc.2 _ _ hk
where
  zero_len {te : Ty} {zz : PV} {e : TypeId} {i : TypeInfo} {z : Value} {k : Nat} {w : World} {O : OMap} (hz : tyz P k e = some (te, zz)) (hi : P.info? e = some i) (hzz : i.zero = some z) : Rep w O none te 0 zz z.cells.toList := by
    cases k with
    | zero => simp [tyz] at hz
    | succ k =>
      have hz' := hz
      obtain ⟨i', v, hi', hs, hz0, hm, _⟩ := tyz_succ hz
      rw [hi] at hi'; cases hi'
      rw [hzz] at hz0; cases hz0
      obtain ⟨c, h1, h2⟩ := matchCells_rep (w := w) (O := O) (ρ := none) (p := 0) hz' hm
      simp at h1
      rw [h1]; exact h2

end
end Go.Vm

/-
  Appends, and slices made anew.
  Conditions: none.
-/
set_option linter.unusedVariables false
set_option linter.unusedSimpArgs false
namespace Go.Vm

section
variable {P : Program} {S0 S : Vw} {s s' : St} {n : Nat} {w0 : World} {O0 : OMap} {a : Act} {w : World} {O : OMap} {C : Env} {o : Oper} {d : Nat}

theorem Grown.new1 {w1 : World} {o : Obj} {l : Option Lab} (hh : w1.heap = w.heap) (ho : w1.os = w.os) (hp : w1.output = w.output) (ht : w1.tape = w.tape) (h : ∀ b, w.heap.size ≤ b → O b = some .foreign) :
    Grown w (w1.alloc o) O (newLab O w l) d where
  os := ho
  output := hp
  tape := ht
  size := by rw [heap_push_size, hh]; omega
  lab b hb := .inl ⟨by simp [newLab]; omega, by rw [heap_push (by rw [hh]; exact hb), hh]⟩
  alloc b hb := by
    rw [heap_push_size, hh] at hb
    simp only [newLab]
    rw [if_neg (by omega)]
    exact h b (by omega)

/-- a new block that `d` owns -/
theorem define_ownblock (inv : Inv S s n w0 O0 a w O) (hd : d < n) {w1 : World} (hh : w1.heap = w.heap) (ho : w1.os = w.os) (hp : w1.output = w.output) (ht : w1.tape = w.tape) {c : Array Value} {el : TypeId} {te : Ty} {zs : List PV} {cap : Nat} {fr : Nat × Nat} (hfr : Free fr c.size) (hl : zs.length ≤ cap)
    (hc : cap * te.size ≤ c.size) (hr : ∀ i z, zs[i]? = some z → RepSh w O te z (cellsAt c (i * te.size) te.size)) :
    Inv (defV S d (.val (.sl .own te))) (s.set d (.slice false zs)) n w0 O0 (a.put (some d) (.slice (some ⟨w.heap.size, 0, none⟩) zs.length cap)) (w1.alloc (.cells c el fr)) (newLab O w (some (.own (some d) 0))) := by
  have g : Grown w (w1.alloc (.cells c el fr)) O (newLab O w (some (.own (some d) 0))) d := Grown.new1 hh ho hp ht inv.frame.alloc
  refine define_val inv hd g (cs := [_]) rfl ?_
  simp only [Rep, SlRep, OwnSl]
  refine ⟨false, zs, rfl, .inr ⟨rfl, ⟨w.heap.size, 0, none⟩, cap, rfl, rfl, hl, ?_⟩⟩
  right
  refine ⟨by simp [newLab], c, el, fr, ?_, by simpa using hc, hfr, fun i z hz => ?_⟩
  · have := heap_push_new (w := w1) (o := .cells c el fr)
    rw [hh] at this
    exact this
  · simp only [Nat.zero_add]
    exact RepSh.keep (g.keeps inv.frame.alloc) (hr i z hz)

theorem define_shblock (inv : Inv S s n w0 O0 a w O) (hd : d < n) {w1 : World} (hh : w1.heap = w.heap) (ho : w1.os = w.os) (hp : w1.output = w.output) (ht : w1.tape = w.tape) {c : Array Value} {el : TypeId} {te : Ty} {zs : List PV} {cap : Nat} (hl : zs.length ≤ cap)
    (hc : cap * te.size ≤ c.size) (hr : ∀ i z, zs[i]? = some z → RepSh w O te z (cellsAt c (i * te.size) te.size)) :
    Inv (defV S d (.val (.sl .sh te))) (s.set d (.slice false zs)) n w0 O0 (a.put (some d) (.slice (some ⟨w.heap.size, 0, none⟩) zs.length cap)) (w1.alloc (.cells c el)) (newLab O w none) := by
  have g : Grown w (w1.alloc (.cells c el)) O (newLab O w none) d := Grown.new1 hh ho hp ht inv.frame.alloc
  refine define_val inv hd g (cs := [_]) rfl ?_
  simp only [Rep, SlRep, RepSh]
  refine ⟨false, zs, rfl, .inr ⟨rfl, ⟨w.heap.size, 0, none⟩, cap, rfl, rfl, hl, ?_⟩⟩
  right
  have hmul : zs.length * te.size ≤ cap * te.size := Nat.mul_le_mul_right _ hl
  refine ⟨by simp [newLab], c, el, (0, 0), ?_, by simp only [Nat.zero_add]; omega, fun i z hz => ?_⟩
  · have := heap_push_new (w := w1) (o := .cells c el)
    rw [hh] at this
    exact this
  · simp only [Nat.zero_add]
    exact RepSh.keep (g.keeps inv.frame.alloc) (hr i z hz)

/-- an append to what `d` owns already -/
theorem append_own (inv : Inv S s n w0 O0 a w O) (hd : d < n) {c : Call} (ho : o.op = .call c) (hc : c.callee = .builtin .append) {x y : Operand} {t t' : TypeId} (ha : c.args.toList = [x, y]) (hat : c.argTypes.toList = [t, t'])
    {e : TypeId} {te : Ty} {zz : PV} (hu : P.underlying t = some (.slice e)) {bytes : Nat} (hb : bytesOf P e = some bytes) (hz : tyz P 11 e = some (te, zz)) (hpos : 0 < te.size) (hbp : 0 < bytes) {nl : Bool} {xs ys : List PV} {news : List Value}
    (hx : OwnSl w O (some d) te 0 (.slice nl xs) [a.eval x]) (hsrc : Src w O te ys news) (hgs : Go.Src P te.size t' (a.eval y) ys.length news w) (hbd : (xs.length + ys.length) * bytes ≤ 140737488355328) :
    Defd P S (s.set d (.slice (nl && ys.isEmpty) (xs ++ ys))) n w0 O0 a w o d (.val (.sl .own te)) := by
  have hrep : Rep w O (some d) (.sl .own te) 0 (.slice nl xs) [a.eval x] := by simp only [Rep]; exact hx
  have hslv := Rep.slv (by simp) hrep
  obtain ⟨i, z, hi, hsz, hib, hzz⟩ := bytes_info hb hz
  obtain ⟨base, sCap, hv, hle⟩ : ∃ base sCap, a.eval x = .slice base xs.length sCap ∧ xs.length ≤ sCap := by
    rcases hslv with ⟨_, rfl, hv⟩ | ⟨_, ad, cap, hv, _, hc, _⟩
    · exact ⟨none, 0, hv, Nat.le_refl _⟩
    · exact ⟨_, cap, hv, hc⟩
  by_cases hys : ys = []
  · subst hys
    have hn : news = [] := List.length_eq_zero_iff.1 (by rw [hsrc.1]; simp)
    subst hn
    have hrun := run_append_nothing (P := P) w t t' o.type e i hu hi base xs.length sCap hle (a.eval y) (by rw [hsz]; exact hgs)
    rw [← hv] at hrun
    refine ⟨_, w, O, .inl (append_exec ho hc ha hat hrun), ?_⟩
    have := define_val inv hd (Grown.refl d inv.frame.alloc) (ty := .sl .own te) (cs := [a.eval x]) (show Wrap (.sl .own te) _ _ from rfl) hrep
    simpa using this
  · have hemp : ys.isEmpty = false := by cases ys <;> simp at hys ⊢
    have hyl : 0 < ys.length := List.length_pos_iff.2 hys
    rw [hemp, Bool.and_false]
    by_cases hfit : xs.length + ys.length ≤ sCap
    · -- in place
      obtain ⟨nl', xs', hxx, hcase⟩ := hx
      cases hxx
      rcases hcase with ⟨_, rfl, hv'⟩ | ⟨rfl, ad, cap, hv', g1, g2, g3⟩
      · rw [hv] at hv'
        have := (List.cons.inj hv').1
        cases this
        exfalso
        have hfit' : 0 + ys.length ≤ 0 := hfit
        omega
      · rw [hv] at hv'
        have := (List.cons.inj hv').1
        cases this
        rcases g3 with hcap | ⟨k1, c0, el, fr, k2, k3, k4, k5⟩
        · omega
        · obtain ⟨b, off, sp⟩ := ad
          simp only at g1; subst g1
          simp only at k1 k2 k3 k5
          have hcm : (xs.length + ys.length) * te.size ≤ sCap * te.size := Nat.mul_le_mul_right _ hfit
          rw [Nat.add_mul, ← hsrc.1] at hcm
          have hlt := (Array.getElem?_eq_some_iff.1 k2).1
          have hroom := run_append_room_src (P := P) w t t' o.type e i hu hi b off xs.length sCap (a.eval y) ys.length news (by rw [hsz]; exact hgs) hfit
            (fun j hj => by rw [hsz, cell_block k2]; rw [Array.getElem?_eq_getElem (by omega)]; rfl) (fun j hj => by rw [hsz]; exact free_frozen k2 k4 (by omega))
          rw [hsz, setCells_eq news w b (off + xs.length * te.size) c0 el fr k2 (by omega), ← hv] at hroom
          have g : Grown w (putBlk w b (.cells (splice c0 (off + xs.length * te.size) news) el fr)) O O d := by
            refine ⟨rfl, rfl, rfl, by rw [putBlk_size]; exact Nat.le_refl _, fun k hk => ?_, fun k hk => inv.frame.alloc k (by rw [putBlk_size] at hk; exact hk)⟩
            by_cases hkb : k = b
            · subst hkb; exact .inr (.inl ⟨0, k1⟩)
            · exact .inl ⟨rfl, putBlk_other hkb⟩
          have hk := g.keeps inv.frame.alloc
          refine ⟨_, _, O, .inl (append_exec ho hc ha hat hroom), ?_⟩
          refine define_val inv hd g (cs := [_]) rfl ?_
          simp only [Rep, SlRep, OwnSl]
          refine ⟨false, xs ++ ys, rfl, .inr ⟨rfl, ⟨b, off, none⟩, sCap, by simp, rfl, by simpa using hfit, .inr ⟨k1, _, el, fr, putBlk_heap hlt, ?_, ?_, ?_⟩⟩⟩
          · rw [splice_size (by omega)]; exact k3
          · rw [splice_size (by omega)]; exact k4
          · intro j zv hj
            exact RepSh.keep hk (row_append k5 hsrc (by omega) j zv hj)
    · -- a new row
      obtain ⟨cap, c0, h1, h2, h3, h4⟩ := append_new inv (ty := o.type) hu hb hz hpos hbp hslv hsrc hgs hbd hv (by omega)
      have := define_ownblock inv hd (w1 := w.drew) rfl rfl rfl rfl (el := e) (zs := xs ++ ys) (cap := cap) (fr := (0, 0)) (fun j _ hj => by simp at hj) (by simpa using h1) h3 h4
      rw [List.length_append] at this
      exact ⟨_, _, _, .inl (append_exec ho hc ha hat h2), this⟩

theorem append_sound (hS : Sub S0 S) (inv : Inv S s n w0 O0 a w O) (hd : d < n) {c : Call} (ho : o.op = .call c) (hc : c.callee = .builtin .append) {x y : Operand} {t t' : TypeId} (ha : c.args.toList = [x, y]) (hat : c.argTypes.toList = [t, t'])
    {rhs : VRhs} {av : AV} {us : List Up} (h : chkAppend P S0 x y t t' = some (rhs, av, us)) (hr : rhs.run C s (some d) = some s') : Defd P (putUps S us) s' n w0 O0 a w o d av := by
  unfold chkAppend at h
  simp only [Option.bind_eq_some_iff] at h
  obtain ⟨e, he, bytes, hb, ⟨v, ty, org⟩, h1, ⟨u, ty', org'⟩, h2, h⟩ := h
  simp only [] at h
  obtain ⟨hcond, h⟩ := if_some h
  simp only [Bool.and_eq_true, decide_eq_true_eq] at hcond
  obtain ⟨⟨⟨hc1, hm⟩, hm'⟩, hbp⟩ := hcond
  have hu := isSlice_some he
  have hcore : ∀ m te, ty = .sl m te → rhs = .prim (.app bytes) [v, u] → ∃ nl xs ys news zz, v.eval s = some (.slice nl xs) ∧ s' = s.set d (.slice (nl && ys.isEmpty) (xs ++ ys)) ∧ (xs.length + ys.length) * bytes ≤ 140737488355328 ∧ tyz P 11 e = some (te, zz) ∧ 0 < te.size ∧
      Src w O te ys news ∧ Go.Src P te.size t' (a.eval y) ys.length news w := by
    intro m te hty hrhs
    subst hrhs
    obtain ⟨vs, z, hev, hp, rfl⟩ := prim_run hr
    obtain ⟨p, q, e1, e2, rfl⟩ := evals_two hev
    simp only [Prim.run, two] at hp
    obtain ⟨nl, xs, ys, news, zz, rfl, rfl, g3, g4⟩ := append_parts hS inv h1 h2 he hty hc1 hm hm' e1 e2 hp
    exact ⟨nl, xs, ys, news, zz, e1, rfl, g3, g4⟩
  cases ty with
  | sc => cases h
  | agg l => cases h
  | sl m te =>
  cases m with
  | sh => cases h
  | dead => cases h
  | full =>
    simp [prim1] at h
    obtain ⟨rfl, rfl, rfl⟩ := h
    obtain ⟨nl, xs, ys, news, zz, e1, rfl, hbd, hz, hpos, hsrc, hgs⟩ := hcore _ _ rfl rfl
    obtain ⟨m2, e2', hh1, hh2, k1, k2⟩ := rd_slice hS inv h1 e1
    cases hh1
    obtain ⟨ρ, p, k2⟩ := k2.some'
    simp only [Rep, SlRep] at k2
    obtain ⟨k2, kfull⟩ := k2
    obtain ⟨i, z, hi, hsz, hib, hzz⟩ := bytes_info hb hz
    obtain ⟨base, sCap, hv, hle⟩ : ∃ base sCap, a.eval x = .slice base xs.length sCap ∧ xs.length ≤ sCap := by
      rcases k1 with ⟨_, rfl, hv⟩ | ⟨_, ad, cap, hv, _, hc, _⟩
      · exact ⟨none, 0, hv, Nat.le_refl _⟩
      · exact ⟨_, cap, hv, hc⟩
    have hcap : sCap = xs.length := kfull base xs.length sCap (by rw [hv])
    by_cases hys : ys = []
    · subst hys
      have hn : news = [] := List.length_eq_zero_iff.1 (by rw [hsrc.1]; simp)
      subst hn
      have hrun := run_append_nothing (P := P) w t t' o.type e i hu hi base xs.length sCap hle (a.eval y) (by rw [hsz]; exact hgs)
      rw [← hv] at hrun
      refine ⟨_, w, O, .inl (append_exec ho hc ha hat hrun), ?_⟩
      have := define_val inv hd (Grown.refl d inv.frame.alloc) (ty := .sl .sh te) (cs := [a.eval x]) (x := .slice nl xs) rfl (by simp only [Rep, SlRep]; exact k2)
      simpa [putUps] using this
    · have hemp : ys.isEmpty = false := by cases ys <;> simp at hys ⊢
      have hyl : 0 < ys.length := List.length_pos_iff.2 hys
      rw [hemp, Bool.and_false]
      obtain ⟨cap, c0, h3, h4, h5, h6⟩ := append_new inv (ty := o.type) hu hb hz hpos hbp k1 hsrc hgs hbd hv (by omega)
      have := define_shblock inv hd (w1 := w.drew) rfl rfl rfl rfl (el := e) (zs := xs ++ ys) (cap := cap) (by simpa using h3) h5 h6
      rw [List.length_append] at this
      exact ⟨_, _, _, .inl (append_exec ho hc ha hat h4), this⟩
  | own =>
    cases org with
    | none =>
      simp [prim1] at h
      obtain ⟨rfl, rfl, rfl⟩ := h
      obtain ⟨nl, xs, ys, news, zz, e1, rfl, hbd, hz, hpos, hsrc, hgs⟩ := hcore _ _ rfl rfl
      obtain ⟨m2, e2', hh1, hh2, k1, k2⟩ := rd_slice hS inv h1 e1
      cases hh1
      have k3 := k2 (some d) 0
      simp only [Rep, SlRep] at k3
      exact append_own inv hd ho hc ha hat hu hb hz hpos hbp k3 hsrc hgs hbd
    | some og =>
      obtain ⟨r, pos, pth⟩ := og
      simp only [Option.map_eq_some_iff] at h
      obtain ⟨up, hup, h⟩ := h
      cases h
      obtain ⟨nl, xs, ys, news, zz, e1, rfl, hbd, hz, hpos, hsrc, hgs⟩ := hcore _ _ rfl rfl
      obtain ⟨m2, e2', hh1, hh2, k1, k2⟩ := rd_slice hS inv h1 e1
      cases hh1
      obtain ⟨hup', _⟩ := take_sound'.setOwn_view hS hup
      have hrl := moveLab_relab O r pos 1 (some d) 0
      have inv' := inv.ghost (.inr rfl) hup' hrl
      have hk : Keeps w O w (moveLab O r pos 1 (some d) 0) := fun b hb => ⟨hrl.none hb, rfl⟩
      have k3 : Rep w (moveLab O r pos 1 (some d) 0) (some d) (.sl .own te) 0 (.slice nl xs) [a.eval x] :=
        Rep.move hk (fun q b hq hb => ⟨moveLab_own (by simpa [Ty.size] using hq) hb, rfl⟩) k2
      simp only [Rep, SlRep] at k3
      exact append_own inv' hd ho hc ha hat hu hb hz hpos hbp k3 (hsrc.keep hk) hgs hbd

end
end Go.Vm

/-
  Conversions of bytes, indexes of strings and arrays, comparisons of aggregates.
  Conditions: none.
-/
set_option linter.unusedVariables false
set_option linter.unusedSimpArgs false
namespace Go.Vm

section
variable {P : Program} {S0 S : Vw} {s s' : St} {n : Nat} {w0 : World} {O0 : OMap} {a : Act} {w : World} {O : OMap} {C : Env} {o : Oper} {d : Nat}

theorem toBytes_sound (hS : Sub S0 S) (inv : Inv S s n w0 O0 a w O) (hd : d < n) {t t' e : TypeId} {x : Operand} (ho : o.op = .convert t t' x) (hs : isString P t = true) (he : isSlice P t' = some e) (hb : isInt P e = some .u8)
    {vx : VX} {tx : Ty} {ox : Org} (h1 : rd P S0 t x = some (vx, tx, ox)) (hr : (VRhs.prim .toBytes [vx]).run C s (some d) = some s') :
    Defd P S s' n w0 O0 a w o d (.val (.sl .own .sc)) := by
  obtain ⟨vs, z, he', hp, rfl⟩ := prim_run hr
  obtain ⟨u, e1, rfl⟩ := evals_one he'
  simp only [Prim.run, one] at hp
  cases u <;> simp at hp
  case str b =>
    subst hp
    have g1 := rd_str hS inv h1 e1
    have hrun := run_bytes_of_string (P := P) w t t' e ⟨b.toArray⟩ (isString_true hs) (isSlice_some he) (isInt_some hb)
    have hlen : (⟨b.toArray⟩ : ByteArray).size = (bytesPV b).length := by simp [ByteArray.size, bytesPV]
    have hge := grownCap_ge w (⟨b.toArray⟩ : ByteArray).size 0 e
    rw [hlen] at hrun hge
    have hsz : (bytesRow ⟨b.toArray⟩ (grownCap w (bytesPV b).length 0 e)).size = grownCap w (bytesPV b).length 0 e := by
      simp only [bytesRow, Array.size_append, Array.size_map, Array.size_replicate, hlen]
      simp only [bytesPV, List.length_map] at hge ⊢
      simp; omega
    have := define_ownblock inv hd (w1 := w.drew) rfl rfl rfl rfl (c := bytesRow ⟨b.toArray⟩ (grownCap w (bytesPV b).length 0 e)) (el := e) (te := .sc) (zs := bytesPV b) (cap := grownCap w (bytesPV b).length 0 e)
      (fr := ((bytesRow ⟨b.toArray⟩ (grownCap w (bytesPV b).length 0 e)).size, (bytesRow ⟨b.toArray⟩ (grownCap w (bytesPV b).length 0 e)).size + 1))
      (fun j hj h => by omega) hge (by rw [hsz]; simp [Ty.size]) (fun i z hz => by
        simp only [bytesPV, List.getElem?_map, Option.map_eq_some_iff] at hz
        obtain ⟨y, hy, rfl⟩ := hz
        have hi := (List.getElem?_eq_some_iff.1 hy).1
        simp only [Ty.size, Nat.mul_one, RepSh, ScRep]
        apply List.ext_getElem?
        intro j
        by_cases hj : j < 1
        · rw [cellsAt_get hj]
          have : j = 0 := by omega
          subst this
          simp only [bytesRow, Nat.add_zero]
          rw [Array.getElem?_append_left (by simpa using hi)]
          simp [hy]
        · rw [List.getElem?_eq_none (by simp [cellsAt]; omega), List.getElem?_eq_none (by simp; omega)])
    refine ⟨_, _, _, .inl ?_, this⟩
    simp [execOp, ho, g1, Sem.run_bind, hrun]

theorem unbytes_some : ∀ {xs : List PV} {bs : List UInt8}, unbytes xs = some bs → ∃ ns : List Int, xs = ns.map (PV.int .u8) ∧ bs = ns.map fun m => UInt8.ofNat m.toNat
  | [], bs, h => by simp [unbytes] at h; subst h; exact ⟨[], rfl, rfl⟩
  | x :: xs, bs, h => by
    cases x
    case int k m =>
      cases k
      case u8 =>
        simp only [unbytes, Option.map_eq_some_iff] at h
        obtain ⟨r, h1, rfl⟩ := h
        obtain ⟨ns, rfl, rfl⟩ := unbytes_some h1
        exact ⟨m :: ns, rfl, rfl⟩
      all_goals simp [unbytes] at h
    all_goals simp [unbytes] at h

theorem foldl_push_ints : ∀ (ns : List Int) (r : ByteArray), ns.foldl (fun r m => r.push (UInt8.ofNat m.toNat)) r = ⟨r.data ++ (ns.map fun m => UInt8.ofNat m.toNat).toArray⟩
  | [], r => by simp
  | b :: l, r => by
    simp only [List.foldl_cons, List.map_cons]
    rw [foldl_push_ints l]
    simp [ByteArray.push]

/-- a slice of single cells: its cells are its values -/
theorem row_ints {c : Array Value} {off : Nat} {ns : List Int} {k : IntKind} (hl : off + ns.length ≤ c.size) (h : ∀ i y, (ns.map (PV.int k))[i]? = some y → RepSh w O .sc y (cellsAt c (off + i) 1)) : cellsAt c off ns.length = ns.map (Value.int k) := by
  apply List.ext_getElem?
  intro j
  by_cases hj : j < ns.length
  · have := h j (.int k ns[j]) (by simp [hj])
    simp only [RepSh, ScRep] at this
    have h2 := cellsAt_get (c := c) (o := off + j) (n := 1) (j := 0) (by omega)
    rw [this] at h2
    rw [cellsAt_get hj]
    simp only [Nat.add_zero] at h2
    rw [← h2]
    simp [hj]
  · rw [List.getElem?_eq_none (by rw [cellsAt_length hl]; omega), List.getElem?_eq_none (by simp; omega)]

theorem int_tyz {e : TypeId} {k : IntKind} {m : Nat} {te : Ty} {z : PV} (hb : isInt P e = some k) (h : tyz P m e = some (te, z)) : te = .sc := by
  cases m with
  | zero => simp [tyz] at h
  | succ m =>
    obtain ⟨i, v0, hi, hs0, hz0, hm0, hat⟩ := tyz_succ h
    cases hat with
    | bool hu' => rfl
    | int k hu' => rfl
    | str hu' => rfl
    | array m e te z hu' h1 => rw [isInt_some hb] at hu'; cases hu'
    | slice e te z hu' => rw [isInt_some hb] at hu'; cases hu'
    | struct fs ts zs hu' => rw [isInt_some hb] at hu'; cases hu'

theorem toStr_sound (hS : Sub S0 S) (inv : Inv S s n w0 O0 a w O) (hd : d < n) {t t' : TypeId} {x : Operand} (ho : o.op = .convert t t' x) (hs : isString P t' = true) {vx : VX} {tx : Ty} {ox : Org} (h1 : rd P S0 t x = some (vx, tx, ox))
    (hm : matchesTy P t tx = true) (hor : isString P t = true ∨ ∃ e, isSlice P t = some e ∧ isInt P e = some .u8) (hr : (VRhs.prim .toStr [vx]).run C s (some d) = some s') :
    Defd P S s' n w0 O0 a w o d (.val .sc) := by
  obtain ⟨vs, z, he', hp, rfl⟩ := prim_run hr
  obtain ⟨u, e1, rfl⟩ := evals_one he'
  simp only [Prim.run, one] at hp
  have hu' := isString_true hs
  rcases hor with hor | ⟨e, he, hb⟩
  · have hu := isString_true hor
    have hsc : tx = .sc := sh_sc (scalar_ty (matchesTy_some hm) hu rfl)
    subst hsc
    have hsv := sc_val hS inv h1 e1
    cases u <;> simp at hp
    case slice => simp [ScRep] at hsv
    case str b =>
      subst hp
      have g1 := rd_str hS inv h1 e1
      refine defd_sc inv hd (v := .string ⟨b.toArray⟩) (by simp [ScRep]) ?_
      simp [execOp, ho, g1, convert, run_underlying hu, run_underlying hu']
  · have hu := isSlice_some he
    have hue := isInt_some hb
    obtain ⟨te, zz, g1, g2, g3⟩ := slice_ty (matchesTy_some hm) hu
    have hsc := int_tyz hb g2
    subst hsc
    obtain ⟨m', rfl⟩ := sh_sl g1
    cases u <;> simp at hp
    case str b =>
      exfalso
      obtain ⟨cs, _, q2, q3⟩ := rd_sound hS inv h1 e1
      obtain ⟨ρ, p, q2⟩ := q2.some'
      cases (Rep.str q3 q2).1
    case slice nl xs =>
      obtain ⟨bs, hbs, rfl⟩ := hp
      obtain ⟨ns, rfl, rfl⟩ := unbytes_some hbs
      obtain ⟨m, e', hty, hmd, hsl, _⟩ := rd_slice hS inv h1 e1
      cases hty
      rcases hsl with ⟨rfl, hx, hv⟩ | ⟨rfl, ad, cap, hv, k1, k2, k3⟩
      · have : ns = [] := by simpa using hx
        subst this
        refine defd_sc inv hd (v := .string .empty) (by simp [ScRep]; rfl) ?_
        simp [execOp, ho, hv, convert, run_underlying hu, run_underlying hu', run_underlying hue, Conv.bytesToString]
      · obtain ⟨b, off, sp⟩ := ad
        simp only at k1; subst k1
        have hload : (loadCells ⟨b, off, none⟩ ns.length).run P w = .ok (ns.map (Value.int .u8)).toArray w := by
          rcases k3 with h0 | ⟨c, el, fr, q1, q2, q3⟩
          · have : ns = [] := by simpa using h0
            subst this
            simp [loadCells, loadCellsFrom]
          · simp only [Ty.size, Nat.mul_one, List.length_map] at q2 q3
            rw [run_loadCells_at q1 q2, row_ints q2 q3]
        rw [List.length_map] at hv
        have hrun := run_bytesToString (P := P) w ⟨b, off, none⟩ ns.length cap ns hload
        rw [foldl_push_ints] at hrun
        refine defd_sc inv hd (v := .string ⟨(ns.map fun m => UInt8.ofNat m.toNat).toArray⟩) (by simp [ScRep]) ?_
        simp [execOp, ho, hv, convert, run_underlying hu, run_underlying hu', run_underlying hue, hrun]

theorem index_sound (hS : Sub S0 S) (inv : Inv S s n w0 O0 a w O) (hd : d < n) {t : TypeId} {x ix : Operand} (ho : o.op = .index t x ix) {rhs : VRhs} {av : AV} {us : List Up}
    (h : chkIndex P S0 t x ix = some (rhs, av, us)) (hr : rhs.run C s (some d) = some s') : us = [] ∧ Defd P S s' n w0 O0 a w o d av := by
  unfold chkIndex at h
  simp only [Option.bind_eq_some_iff] at h
  obtain ⟨⟨v, ty, org⟩, h1, ⟨u, ti, org'⟩, h2, h⟩ := h
  cases ti with
  | agg l => cases h
  | sl m e => cases h
  | sc =>
  simp only [] at h
  by_cases hstr : isString P t = true
  · rw [if_pos hstr] at h
    obtain ⟨hm, h⟩ := if_some h
    simp [prim1] at h
    obtain ⟨rfl, rfl, rfl⟩ := h
    have hu := isString_true hstr
    have hsc : ty = .sc := sh_sc (scalar_ty (matchesTy_some hm) hu rfl)
    subst hsc
    obtain ⟨vs, z, he, hp, rfl⟩ := prim_run hr
    obtain ⟨p, q, e1, e2, rfl⟩ := evals_two he
    have hsv := sc_val hS inv h1 e1
    simp only [Prim.run, two] at hp
    cases p <;> cases q <;> simp [indexV] at hp
    case agg.int => simp [ScRep] at hsv
    case str.int b k i =>
      obtain ⟨h0, y, hy, rfl⟩ := hp
      have g1 := rd_str hS inv h1 e1
      have g2 := rd_int hS inv h2 e2
      have hi := (List.getElem?_eq_some_iff.1 hy).1
      have hrun := run_index_string (P := P) w t ⟨b.toArray⟩ k i hu
      have hsz : (⟨b.toArray⟩ : ByteArray).size = b.length := by simp [ByteArray.size]
      rw [dif_pos ⟨h0, by rw [hsz]; omega⟩] at hrun
      have hy' : (⟨b.toArray⟩ : ByteArray)[i.toNat]'(by rw [hsz]; omega) = y := by
        have := (List.getElem?_eq_some_iff.1 hy).2
        simpa [ByteArray.getElem_eq_getElem_data] using this
      rw [hy'] at hrun
      exact ⟨rfl, defd_sc inv hd (v := .int .u8 y.toNat) (by simp [ScRep]) (by simp [execOp, ho, g1, g2, hrun])⟩
  · rw [if_neg hstr] at h
    obtain ⟨hc, h⟩ := if_some h
    simp only [Bool.and_eq_true] at hc
    simp only [Option.bind_eq_some_iff] at h
    obtain ⟨te, hte, h⟩ := h
    obtain ⟨hsh, h⟩ := if_some h
    simp [prim1] at h
    obtain ⟨rfl, rfl, rfl⟩ := h
    obtain ⟨⟨m, e⟩, ha⟩ := Option.isSome_iff_exists.1 hc.1
    have hu := isArray_some ha
    obtain ⟨te0, zz, g1, g2⟩ := array_ty (matchesTy_some hc.2) hu
    obtain ⟨l, rfl⟩ := sh_agg g1
    obtain ⟨hlen, hget, htake⟩ := replicate_shape g1
    obtain ⟨vs, z, he, hp, rfl⟩ := prim_run hr
    obtain ⟨p, q, e1, e2, rfl⟩ := evals_two he
    simp only [Prim.run, two] at hp
    cases p <;> cases q <;> simp [indexV] at hp
    case str.int b k i =>
      exfalso
      obtain ⟨cs, _, q2, q3⟩ := rd_sound hS inv h1 e1
      obtain ⟨ρ, p, q2⟩ := q2.some'
      cases (Rep.str q3 q2).1
    case agg.int xs k i =>
      obtain ⟨h0, hy⟩ := hp
      have k2 := rd_int hS inv h2 e2
      obtain ⟨l', cs, el, hev, hrep0, hnd⟩ := rd_agg hS inv h1 e1
      cases el
      obtain ⟨ρ, p, hrep⟩ := hrep0.some'
      have hxl : xs.length = l.length := by
        simp only [Rep] at hrep
        obtain ⟨xs', hx, hr⟩ := hrep
        cases hx
        exact Reps.len hr
      have hi := (List.getElem?_eq_some_iff.1 hy).1
      have him : i.toNat < m := by rw [← hlen, ← hxl]; exact hi
      obtain ⟨ti, hti, htis⟩ := hget i.toNat him
      have hat : Ty.at [i.toNat] (.agg l) = some (ti, i.toNat * te0.size) := by
        simp [Ty.at, hti, htake i.toNat (by omega)]
      have hteq := atAny_at (.none i.toNat [] [] .nil) hte hat
      subst hteq
      obtain ⟨y, hy', hr', hs'⟩ := Rep.part [i.toNat] hat hrep
      have hyy : y = z := by
        simp [getP, hy] at hy'; exact hy'.symm
      subst hyy
      have her : te0.er = ti.er := by
        have h3 : (ers l)[i.toNat]? = some ti.er := by simp [ers, hti]
        have h4 : ers l = ers (List.replicate m te0) := by
          have h5 : (Ty.agg l).er = (Ty.agg (List.replicate m te0)).er := by rw [← g1, sh_er]
          rw [Ty.er_agg, Ty.er_agg] at h5
          injection h5
        rw [h4] at h3
        simp [ers, List.getElem?_replicate, him] at h3
        exact h3
      have hlcs := Rep.length hrep
      obtain ⟨vv, hv1, hv2⟩ := run_part (P := P) (w := w) g2 her (cs := cs) (off := i.toNat * te0.size) (by rw [htis] at hs'; omega)
      have hsz := tyz_size (w := w) g2
      refine ⟨rfl, vv, w, O, .inl ?_, define_val inv hd (Grown.refl d inv.frame.alloc) hv2 (Rep.noOwn (noOwn_of_isSh hsh) (Keeps.refl w O) (by rw [htis] at hr'; exact hr'))⟩
      simp [execOp, ho, hev, k2, Instr.index, asIntOf, run_underlying hu, h0, show i < (m : Int) by omega, hsz, hv1]
where
  Reps.len {w : World} {O : OMap} {ρ : Option Nat} : ∀ {l : List Ty} {p : Nat} {xs : List PV} {cs : List Value}, Reps w O ρ l p xs cs → xs.length = l.length
    | [], p, xs, cs, h => by simp only [Reps] at h; simp [h.1]
    | t :: ts, p, xs, cs, h => by
      simp only [Reps] at h
      obtain ⟨y, ys, c1, c2, rfl, rfl, h1, h2⟩ := h
      simp [Reps.len h2]

end
end Go.Vm

/-
  Comparisons of aggregates.
  Conditions: none.
-/
set_option linter.unusedVariables false
set_option linter.unusedSimpArgs false
namespace Go.Vm

section
variable {P : Program} {S0 S : Vw} {s s' : St} {n : Nat} {w0 : World} {O0 : OMap} {a : Act} {w : World} {O : OMap} {C : Env} {o : Oper} {d : Nat}

/-- '==' of values of the type `t`, by `dd` levels -/
def EqOK (P : Program) (w : World) (O : OMap) (dd : Nat) (t : TypeId) (ty : Ty) (z : PV) : Prop :=
  ∀ (tx ty' : Ty), tx.er = ty.er → ty'.er = ty.er → ∀ (ρ ρ' : Option Nat) (p p' : Nat) (x y : PV) (cs ds : List Value) (v u : Value) (b : Bool),
    Rep w O ρ tx p x cs → Rep w O ρ' ty' p' y ds → Wrap tx v cs → Wrap ty' u ds → fits z x = true → fits z y = true → eqP x y = some b → (Op.equalIn dd t v u).run P w = .ok b w

theorem er_cons {l : List Ty} {t : Ty} {ts : List Ty} (h : ers l = ers (t :: ts)) : ∃ t' ts', l = t' :: ts' ∧ t'.er = t.er ∧ ers ts' = ers ts := by
  cases l with
  | nil => simp [ers] at h
  | cons t' ts' =>
    simp only [ers, List.map_cons, List.cons.injEq] at h
    exact ⟨t', ts', rfl, h.1, h.2⟩

theorem run_eqFields (dd m : Nat) : ∀ (fs : List Field) (l lx ly : List Ty) (zs : List PV) (base : Nat) (cs ds : List Value) (ρ ρ' : Option Nat) (p p' : Nat) (xs ys : List PV) (b : Bool),
    l.length = fs.length → zs.length = fs.length → (∀ (i : Nat) (f : Field), fs[i]? = some f → f.name ≠ "_" ∧ ∃ tf z, tyz P m f.type = some (tf, z) ∧ EqOK P w O dd f.type tf z ∧ l[i]? = some tf ∧ zs[i]? = some z ∧ f.offset = base + Ty.sizes (l.take i)) →
    ers lx = ers l → ers ly = ers l → Reps w O ρ lx p xs (cs.drop base) → Reps w O ρ' ly p' ys (ds.drop base) → base ≤ cs.length → base ≤ ds.length → fitss zs xs = true → fitss zs ys = true → eqPs xs ys = some b →
    (Op.eqFields dd cs.toArray ds.toArray fs).run P w = .ok b w
  | [], l, lx, ly, zs, base, cs, ds, ρ, ρ', p, p', xs, ys, b, hl, hz, hall, hx, hy, rx, ry, _, _, fx, fy, he => by
    have h1 : zs = [] := List.length_eq_zero_iff.1 hz
    subst h1
    cases xs with
    | cons => simp [fitss] at fx
    | nil =>
      cases ys with
      | cons => simp [fitss] at fy
      | nil => simp [eqPs] at he; subst he; simp [Op.eqFields]
  | f :: fs, l, lx, ly, zs, base, cs, ds, ρ, ρ', p, p', xs, ys, b, hl, hz, hall, hx, hy, rx, ry, bx, by', fx, fy, he => by
    cases l with
    | nil => simp at hl
    | cons t ts =>
    cases zs with
    | nil => simp at hz
    | cons z zs =>
    obtain ⟨tx, txs, rfl, ex, exs⟩ := er_cons hx
    obtain ⟨ty, tys, rfl, ey, eys⟩ := er_cons hy
    simp only [Reps] at rx ry
    obtain ⟨x, xs', c1, c2, rfl, hc, rx1, rx2⟩ := rx
    obtain ⟨y, ys', d1, d2, rfl, hd, ry1, ry2⟩ := ry
    simp only [fitss, Bool.and_eq_true] at fx fy
    simp only [eqPs, Option.bind_eq_some_iff, Option.map_eq_some_iff] at he
    obtain ⟨b1, hb1, b2, hb2, rfl⟩ := he
    obtain ⟨hn, tf, zf, g1, g2, g3, g4, g5⟩ := hall 0 f rfl
    simp only [List.getElem?_cons_zero, Option.some.injEq] at g3 g4
    subst g3; subst g4
    simp only [List.take_zero, Ty.sizes, Nat.add_zero] at g5
    have hsx : c1.length = t.size := by rw [Rep.length rx1]; exact Ty.size_of_er ex
    have hsy : d1.length = t.size := by rw [Rep.length ry1]; exact Ty.size_of_er ey
    have lcs : base + t.size ≤ cs.length := by
      have := congrArg List.length hc
      simp only [List.length_drop, List.length_append] at this; omega
    have lds : base + t.size ≤ ds.length := by
      have := congrArg List.length hd
      simp only [List.length_drop, List.length_append] at this; omega
    obtain ⟨v, v1, v2⟩ := run_part (P := P) (w := w) g1 ex.symm (cs := cs) (off := base) lcs
    obtain ⟨u, u1, u2⟩ := run_part (P := P) (w := w) g1 ey.symm (cs := ds) (off := base) lds
    rw [hc, List.take_append_of_le_length (by omega), List.take_of_length_le (by omega)] at v2
    rw [hd, List.take_append_of_le_length (by omega), List.take_of_length_le (by omega)] at u2
    have e1 := g2 tx ty ex ey ρ ρ' p p' x y c1 d1 v u b1 rx1 ry1 v2 u2 fx.1 fy.1 hb1
    have ih := run_eqFields dd m fs ts txs tys zs (base + t.size) cs ds ρ ρ' (p + tx.size) (p' + ty.size) xs' ys' b2 (by simpa using hl) (by simpa using hz) (fun i f hf => by
      obtain ⟨k1, tf, z', k2, k3, k4, k5, k6⟩ := hall (i + 1) f (by simpa using hf)
      exact ⟨k1, tf, z', k2, k3, by simpa using k4, by simpa using k5, by rw [k6]; simp only [List.take_succ_cons, Ty.sizes]; omega⟩) exs eys
      (by rw [← List.drop_drop, hc, List.drop_append_of_le_length (by omega), List.drop_of_length_le (by omega), List.nil_append]; exact rx2)
      (by rw [← List.drop_drop, hd, List.drop_append_of_le_length (by omega), List.drop_of_length_le (by omega), List.nil_append]; exact ry2) lcs lds fx.2 fy.2 hb2
    simp only [Op.eqFields, ne_eq, hn, not_false_eq_true, if_true, Sem.run_bind, g5, v1, u1, e1, Result.andThen_ok]
    cases b1
    · simp
    · simpa using ih

theorem run_eqItems (dd m : Nat) {e : TypeId} {te : Ty} {z : PV} (hz : tyz P m e = some (te, z)) (hok : EqOK P w O dd e te z) (cs ds : List Value) : ∀ (k j : Nat) (lx ly : List Ty) (ρ ρ' : Option Nat) (p p' : Nat) (xs ys : List PV) (b : Bool),
    ers lx = List.replicate k te.er → ers ly = List.replicate k te.er → Reps w O ρ lx p xs (cs.drop (j * te.size)) → Reps w O ρ' ly p' ys (ds.drop (j * te.size)) → j * te.size ≤ cs.length → j * te.size ≤ ds.length →
    fitss (List.replicate k z) xs = true → fitss (List.replicate k z) ys = true → eqPs xs ys = some b → (Op.eqItems dd e te.size cs.toArray ds.toArray (List.range' j k)).run P w = .ok b w
  | 0, j, lx, ly, ρ, ρ', p, p', xs, ys, b, hx, hy, rx, ry, bx, by', fx, fy, he => by
    cases xs with
    | cons => simp [fitss] at fx
    | nil =>
      cases ys with
      | cons => simp [fitss] at fy
      | nil => simp [eqPs] at he; subst he; simp [Op.eqItems]
  | k + 1, j, lx, ly, ρ, ρ', p, p', xs, ys, b, hx, hy, rx, ry, bx, by', fx, fy, he => by
    have hr : List.replicate (k + 1) te.er = ers (te :: List.replicate k te) := by simp [ers, List.replicate_succ]
    obtain ⟨tx, txs, rfl, ex, exs⟩ := er_cons (hx.trans hr)
    obtain ⟨ty, tys, rfl, ey, eys⟩ := er_cons (hy.trans hr)
    have hr' : ers (List.replicate k te) = List.replicate k te.er := by simp [ers]
    rw [hr'] at exs eys
    simp only [Reps] at rx ry
    obtain ⟨x, xs', c1, c2, rfl, hc, rx1, rx2⟩ := rx
    obtain ⟨y, ys', d1, d2, rfl, hd, ry1, ry2⟩ := ry
    simp only [List.replicate_succ, fitss, Bool.and_eq_true] at fx fy
    simp only [eqPs, Option.bind_eq_some_iff, Option.map_eq_some_iff] at he
    obtain ⟨b1, hb1, b2, hb2, rfl⟩ := he
    have hsx : c1.length = te.size := by rw [Rep.length rx1]; exact Ty.size_of_er ex
    have hsy : d1.length = te.size := by rw [Rep.length ry1]; exact Ty.size_of_er ey
    have lcs : j * te.size + te.size ≤ cs.length := by
      have := congrArg List.length hc
      simp only [List.length_drop, List.length_append] at this; omega
    have lds : j * te.size + te.size ≤ ds.length := by
      have := congrArg List.length hd
      simp only [List.length_drop, List.length_append] at this; omega
    obtain ⟨v, v1, v2⟩ := run_part (P := P) (w := w) hz ex.symm (cs := cs) (off := j * te.size) lcs
    obtain ⟨u, u1, u2⟩ := run_part (P := P) (w := w) hz ey.symm (cs := ds) (off := j * te.size) lds
    rw [hc, List.take_append_of_le_length (by omega), List.take_of_length_le (by omega)] at v2
    rw [hd, List.take_append_of_le_length (by omega), List.take_of_length_le (by omega)] at u2
    have e1 := hok tx ty ex ey ρ ρ' p p' x y c1 d1 v u b1 rx1 ry1 v2 u2 fx.1 fy.1 hb1
    have ej : (j + 1) * te.size = j * te.size + te.size := by rw [Nat.succ_mul]
    have ih := run_eqItems dd m hz hok cs ds k (j + 1) txs tys ρ ρ' (p + tx.size) (p' + ty.size) xs' ys' b2 exs eys
      (by rw [ej, ← List.drop_drop, hc, List.drop_append_of_le_length (by omega), List.drop_of_length_le (by omega), List.nil_append]; exact rx2)
      (by rw [ej, ← List.drop_drop, hd, List.drop_append_of_le_length (by omega), List.drop_of_length_le (by omega), List.nil_append]; exact ry2) (by omega) (by omega) fx.2 fy.2 hb2
    simp only [List.range'_succ, Op.eqItems, Sem.run_bind, v1, u1, e1, Result.andThen_ok]
    cases b1
    · simp
    · simpa using ih

theorem er_isSc {t : Ty} (h : t.er = Ty.sc.er) : t = .sc := by cases t <;> simp [Ty.er, Ty.modAt] at h; rfl
theorem er_isAgg {t : Ty} {l : List Ty} (h : t.er = (Ty.agg l).er) : ∃ l', t = .agg l' ∧ ers l' = ers l := by
  cases t with
  | agg l' => rw [Ty.er_agg, Ty.er_agg] at h; injection h with h; exact ⟨l', rfl, h⟩
  | sc => simp [Ty.er, Ty.modAt] at h
  | sl => simp [Ty.er, Ty.modAt] at h

theorem run_eq : ∀ (k : Nat) (t : TypeId), eqTy P k t = true → ∀ {m : Nat} {ty : Ty} {z : PV}, tyz P m t = some (ty, z) → ∀ dd, EqOK P w O (dd + k) t ty z
  | 0, t, h, m, ty, z, _, _ => by simp [eqTy] at h
  | k + 1, t, h, 0, ty, z, hz, _ => by simp [tyz] at hz
  | k + 1, t, h, m + 1, ty, z, hz, dd => by
    intro tx ty' ex ey ρ ρ' p p' x y cs ds v u b rx ry wx wy fx fy he
    obtain ⟨i, v0, hi, hs0, hz0, hm0, hat⟩ := tyz_succ hz
    unfold eqTy at h
    cases hat with
    | bool hu =>
      have := er_isSc ex; subst this
      have := er_isSc ey; subst this
      cases x <;> simp [fits] at fx
      cases y <;> simp [fits] at fy
      simp [eqP] at he; subst he
      simp only [Rep, ScRep] at rx ry
      simp only [Wrap] at wx wy
      subst rx; subst ry
      cases wx; cases wy
      exact run_equalIn_bool w (dd + k) t _ _ hu
    | int kk hu =>
      have := er_isSc ex; subst this
      have := er_isSc ey; subst this
      cases x <;> simp [fits] at fx
      cases y <;> simp [fits] at fy
      simp only [eqP] at he
      obtain ⟨rfl, he⟩ := if_some he
      simp at he; subst he
      simp only [Rep, ScRep] at rx ry
      simp only [Wrap] at wx wy
      subst rx; subst ry
      cases wx; cases wy
      have := run_equalIn_int (P := P) w (dd + k) t
      rw [← Nat.add_assoc, this _ _ _ _ hu]
      congr 1
    | str hu =>
      have := er_isSc ex; subst this
      have := er_isSc ey; subst this
      cases x <;> simp [fits] at fx
      cases y <;> simp [fits] at fy
      simp [eqP] at he; subst he
      simp only [Rep, ScRep] at rx ry
      simp only [Wrap] at wx wy
      subst rx; subst ry
      cases wx; cases wy
      rw [← Nat.add_assoc, run_equalIn_string (P := P) w (dd + k) t _ _ hu]
      congr 1
      simp [ByteArray.toList_eq]
    | slice e te z' hu => rw [hu] at h; simp at h
    | array q e te z' hu h1 =>
      rw [hu] at h
      simp only [] at h
      obtain ⟨lx, rfl, elx⟩ := er_isAgg ex
      obtain ⟨ly, rfl, ely⟩ := er_isAgg ey
      cases x <;> simp [fits] at fx
      cases y <;> simp [fits] at fy
      simp only [eqP] at he
      simp only [Rep] at rx ry
      obtain ⟨_, hx, rx⟩ := rx
      obtain ⟨_, hy, ry⟩ := ry
      cases hx; cases hy
      simp only [Wrap] at wx wy
      subst wx; subst wy
      have ihk := run_eq k e h h1 dd
      obtain ⟨ie, hie, hse⟩ : ∃ ie, P.info? e = some ie ∧ ie.size = te.size := by
        cases m with
        | zero => simp [tyz] at h1
        | succ m => obtain ⟨ie, _, h2, h3, _⟩ := tyz_succ h1; exact ⟨ie, h2, h3⟩
      have hce : P.cellsOf e = te.size := by simp [Program.cellsOf, hie, hse]
      have := run_equalIn_array (P := P) w (dd + k) cs.toArray ds.toArray hu hie
      rw [Nat.add_assoc] at this
      rw [this, hce, List.range_eq_range']
      have er' : ers (List.replicate q te) = List.replicate q te.er := by simp [ers]
      rw [er'] at elx ely
      exact run_eqItems (dd + k) m h1 ihk cs ds q 0 lx ly ρ ρ' p p' _ _ b elx ely (by simpa using rx) (by simpa using ry) (by simp) (by simp) fx fy he
    | struct fs ts zs hu h1 =>
      rw [hu] at h
      simp only [Bool.and_eq_true, Bool.not_eq_true', List.all_eq_true] at h
      obtain ⟨lx, rfl, elx⟩ := er_isAgg ex
      obtain ⟨ly, rfl, ely⟩ := er_isAgg ey
      cases x <;> simp [fits] at fx
      cases y <;> simp [fits] at fy
      simp only [eqP] at he
      simp only [Rep] at rx ry
      obtain ⟨_, hx, rx⟩ := rx
      obtain ⟨_, hy, ry⟩ := ry
      cases hx; cases hy
      simp only [Wrap] at wx wy
      subst wx; subst wy
      have hf : P.fieldsOf t = fs := by simp [Program.fieldsOf, hu]
      have := run_equalIn_struct (P := P) w (dd + k) t cs.toArray ds.toArray (by rw [hf]; exact hu) h.1
      rw [Nat.add_assoc] at this
      rw [this, hf]
      obtain ⟨t2, z2, rfl, rfl, h2, h3, h4⟩ := fold_struct _ _ _ _ _ h1
      refine run_eqFields (dd + k) m fs.toList _ lx ly _ 0 cs ds ρ ρ' p p' _ _ b h2 h3 (fun i f hf' => ?_) elx ely (by simpa using rx) (by simpa using ry) (by simp) (by simp) fx fy he
      obtain ⟨tf, zf, g1, g2, g3, g4⟩ := h4 i f hf'
      have hmem := h.2 f (List.mem_of_getElem? hf')
      exact ⟨by simpa using hmem.1, tf, zf, g1, run_eq k f.type hmem.2 g1 dd, g2, g3, by simpa [Ty.sizes] using g4⟩

theorem eqP_inv {p q : PV} {b : Bool} (h : eqP p q = some b) : (∃ x y, p = .bool x ∧ q = .bool y ∧ b = (x == y)) ∨ (∃ k i j, p = .int k i ∧ q = .int k j ∧ b = decide (i = j)) ∨ (∃ x y, p = .str x ∧ q = .str y ∧ b = (x == y)) ∨
    ∃ xs ys, p = .agg xs ∧ q = .agg ys := by
  match p, q, h with
  | .bool x, .bool y, h => exact .inl ⟨x, y, rfl, rfl, by rw [eqP] at h; exact (Option.some.inj h).symm⟩
  | .int k i, .int k' j, h =>
    rw [eqP] at h
    have hk : k = k' := (if_some h).1
    subst hk
    rw [if_pos rfl] at h
    exact .inr (.inl ⟨k, i, j, rfl, rfl, (Option.some.inj h).symm⟩)
  | .str x, .str y, h => exact .inr (.inr (.inl ⟨x, y, rfl, rfl, by rw [eqP] at h; exact (Option.some.inj h).symm⟩))
  | .agg xs, .agg ys, h => exact .inr (.inr (.inr ⟨xs, ys, rfl, rfl⟩))

theorem eql_neq : (BinOp.eql == BinOp.neq) = false := by decide
theorem neq_neq : (BinOp.neq == BinOp.neq) = true := by decide

theorem eqv_sound (hS : Sub S0 S) (inv : Inv S s n w0 O0 a w O) (hd : d < n) {op : BinOp} {t t' : TypeId} {x y : Operand} (ho : o.op = .binOp op t x y t') (hop : op = .eql ∨ op = .neq) {vx vy : VX} {tx ty : Ty} {ox oy : Org}
    (h1 : rd P S0 t x = some (vx, tx, ox)) (h2 : rd P S0 t' y = some (vy, ty, oy)) (he : eqTy P depth t = true) (hg : P.eqGuardType P.depth t = false) (hx : matchesTy P t tx = true) (hy : matchesTy P t ty = true) {tt : Ty} {z : PV} (hz : tyz P depth t = some (tt, z))
    (hr : (VRhs.prim (.eqv (op == .neq) z) [vx, vy]).run C s (some d) = some s') : Defd P S s' n w0 O0 a w o d (.val .sc) := by
  obtain ⟨vs, r, hev, hp, rfl⟩ := prim_run hr
  obtain ⟨p, q, e1, e2, rfl⟩ := evals_two hev
  simp only [Prim.run, two] at hp
  obtain ⟨hf, hp⟩ := if_some hp
  simp only [Bool.and_eq_true] at hf
  simp only [Option.map_eq_some_iff] at hp
  obtain ⟨b, hb, rfl⟩ := hp
  obtain ⟨cs, g1, g2, g3⟩ := rd_sound hS inv h1 e1
  obtain ⟨ds, g4, g5, g6⟩ := rd_sound hS inv h2 e2
  obtain ⟨ρ, pp, g2⟩ := g2.some'
  obtain ⟨ρ', pp', g5⟩ := g5.some'
  have htt : tyOf P t = some tt := by simp [tyOf, hz]
  have ex : tx.er = tt.er := by
    have := matchesTy_some hx
    rw [htt] at this; cases this; exact (sh_er tx).symm
  have ey : ty.er = tt.er := by
    have := matchesTy_some hy
    rw [htt] at this; injection this with this; rw [this, sh_er]
  have hrun := run_eq (w := w) (O := O) depth t he hz 9988 tx ty ex ey ρ ρ' pp pp' p q cs ds (a.eval x) (a.eval y) b g2 g5 g1 g4 hf.1 hf.2 hb
  have hmax : Op.equal t (a.eval x) (a.eval y) = Op.equalIn (9988 + depth) t (a.eval x) (a.eval y) := rfl
  have hguard : (eqGuard op t x y (a.eval x) (a.eval y)).run P w = .ok () w ∧ (binOp op t (a.eval x) (a.eval y)).run P w = .ok (.bool (b != (op == .neq))) w := by
    rcases eqP_inv hb with ⟨b1, b2, rfl, rfl, rfl⟩ | ⟨k, i, j, rfl, rfl, rfl⟩ | ⟨b1, b2, rfl, rfl, rfl⟩ | ⟨xs, ys, rfl, rfl⟩
    · have k1 := rd_bool hS inv h1 e1
      have k2 := rd_bool hS inv h2 e2
      rw [k1, k2] at hrun hmax ⊢
      refine ⟨run_eqGuard_bool op t x y _ _, ?_⟩
      rcases hop with rfl | rfl
      · simp [binOp, hmax, Sem.run_bind, hrun, eql_neq, neq_neq]
      · simp [binOp, hmax, Sem.run_bind, hrun, eql_neq, neq_neq]
    · have k1 := rd_int hS inv h1 e1
      have k2 := rd_int hS inv h2 e2
      rw [k1, k2]
      refine ⟨run_eqGuard_int op t x y _ _ _ _, ?_⟩
      rcases hop with rfl | rfl
      · simp [binOp, Op.intCmp, eql_neq, neq_neq]; rfl
      · simp [binOp, Op.intCmp, eql_neq, neq_neq]; rfl
    · have k1 := rd_str hS inv h1 e1
      have k2 := rd_str hS inv h2 e2
      rw [k1, k2]
      refine ⟨run_eqGuard_str op t x y _ _, ?_⟩
      rcases hop with rfl | rfl
      · simp [binOp, Op.stringOp, ByteArray.toList_eq, eql_neq, neq_neq]
      · simp [binOp, Op.stringOp, ByteArray.toList_eq, eql_neq, neq_neq]
    · obtain ⟨l1, c1, _, k1, _, _⟩ := rd_agg hS inv h1 e1
      obtain ⟨l2, c2, _, k2, _, _⟩ := rd_agg hS inv h2 e2
      rw [k1, k2] at hrun hmax ⊢
      refine ⟨run_eqGuard_agg (P := P) w op t x y _ _ hg, ?_⟩
      rcases hop with rfl | rfl
      · simp [binOp, hmax, Sem.run_bind, hrun, eql_neq, neq_neq]
      · simp [binOp, hmax, Sem.run_bind, hrun, eql_neq, neq_neq]
  refine defd_sc inv hd (v := .bool (b != (op == .neq))) (by simp [ScRep]) ?_
  simp [execOp, ho, Sem.run_bind, hguard.1, hguard.2]

end
end Go.Vm

/-
  Literals of structs, arrays and slices; slices that are made.
  Conditions: none.
-/
set_option linter.unusedVariables false
set_option linter.unusedSimpArgs false
namespace Go.Vm

section
variable {P : Program} {S0 S : Vw} {s s' : St} {n : Nat} {w0 : World} {O0 : OMap} {a : Act} {w : World} {O : OMap} {C : Env} {o : Oper} {d : Nat}

theorem putUps_append (S : Vw) : ∀ (us vs : List Up), putUps S (us ++ vs) = putUps (putUps S us) vs
  | [], vs => rfl
  | u :: us, vs => by simp only [List.cons_append, putUps]; exact putUps_append _ us vs

theorem KeptLab.none {O O' : OMap} {us : List Up} (h : KeptLab O O' us) {b : Nat} (hb : O b = none) : O' b = none := by
  rw [h b fun u _ p e => by rw [hb] at e; cases e]; exact hb

theorem KeptLab.own {O O' : OMap} {us : List Up} (h : KeptLab O O' us) {b p : Nat} {ρ : Option Nat} (hρ : ∀ u ∈ us, ρ ≠ some u.root) (hb : O b = some (.own ρ p)) : O' b = some (.own ρ p) := by
  rw [h b fun u hu p e => by rw [hb] at e; injection e with e; injection e with e1; exact hρ u hu e1]; exact hb

theorem KeptLab.refl (O : OMap) (us : List Up) : KeptLab O O us := fun _ _ => rfl

theorem KeptLab.trans {O O' O'' : OMap} {us vs : List Up} (h : KeptLab O O' us) (h' : KeptLab O' O'' vs) : KeptLab O O'' (us ++ vs) := fun b hb => by
  have h1 := h b fun u hu p => hb u (by simp [hu]) p
  rw [h' b fun u hu p => by rw [h1]; exact hb u (by simp [hu]) p, h1]

theorem KeptLab.rep {O O' : OMap} {us : List Up} (h : KeptLab O O' us) {ρ : Option Nat} (hρ : ∀ u ∈ us, ρ ≠ some u.root) {t : Ty} {p : Nat} {x : PV} {cs : List Value} (hr : Rep w O ρ t p x cs) : Rep w O' ρ t p x cs :=
  Rep.move (fun b hb => ⟨h.none hb, rfl⟩) (fun q b _ hb => ⟨h.own hρ hb, rfl⟩) hr

theorem KeptLab.repSh {O O' : OMap} {us : List Up} (h : KeptLab O O' us) {t : Ty} {x : PV} {cs : List Value} (hr : RepSh w O t x cs) : RepSh w O' t x cs :=
  RepSh.keep (fun b hb => ⟨h.none hb, rfl⟩) hr

theorem Rep.repSh {t : Ty} {ρ : Option Nat} {p : Nat} {x : PV} {cs : List Value} (hn : t.noDead = true) (h : Rep w O ρ t.sh p x cs) : RepSh w O t x cs := by
  have h1 := (RepSh.rep ρ p (Ty.sh_isSh 0 hn)).2 h
  have h2 := (RepSh.er (t := t.sh) 0).1 h1
  have h3 : t.sh.modAt (fun _ _ => .sh) 0 = t.modAt (fun _ _ => .sh) 0 := sh_er t
  rw [h3] at h2
  exact (RepSh.er 0).2 h2

theorem share_sound (hS : Sub S0 S) (inv : Inv S s n w0 O0 a w O) {ty : Ty} {org : Org} {us : List Up} (h : share S0 ty org = some us) {x : PV} {cs : List Value} (hnd : ty.noDead = true) (hx : OrgRep w O org ty x cs) :
    ∃ O', Inv (putUps S us) s n w0 O0 a w O' ∧ RepSh w O' ty x cs ∧ Sub (putUps S0 us) (putUps S us) ∧ KeptLab O O' us := by
  unfold share at h
  by_cases hno : ty.noOwn = true
  · simp [hno] at h
    subst h
    obtain ⟨ρ, p, hx⟩ := hx.some'
    refine ⟨O, inv, ?_, hS, KeptLab.refl _ _⟩
    have hle : LeTy (fun q m => Turns w O ρ w O ρ (p + q) (p + q) m) 0 ty ty.sh := take_sound'.LeTy.noOwnSh 0 0 hno
    exact Rep.repSh hnd (Rep.shift (o := 0) (Keeps.refl w O) hle hx)
  · simp only [hno, if_false, Bool.false_eq_true] at h
    cases org with
    | none =>
      simp at h
      subst h
      refine ⟨O, inv, ?_, hS, KeptLab.refl _ _⟩
      have h1 := hx (some n) 0
      -- nobody's value owns nothing
      have h2 := hx (none) 0
      exact Rep.repSh (ρ := none) (p := 0) hnd (Rep.both h1 h2)
    | some og =>
      obtain ⟨r, pos, q⟩ := og
      simp only [Option.map_eq_some_iff] at h
      obtain ⟨u, hu, rfl⟩ := h
      obtain ⟨hu', hsub⟩ := take_sound'.setOwn_view hS hu
      have hrl := shareLab_relab O r pos ty.size
      refine ⟨_, inv.ghost (.inl rfl) hu' hrl, ?_, hsub, Relab.kept (by rw [(setOwn_cases hu).1]; exact hrl)⟩
      exact Rep.repSh hnd (Rep.toSh (ρ := some r) (some r) pos (p := pos) (fun b hb => ⟨hrl.none hb, rfl⟩) (fun q b hq hb => ⟨hrl.shared rfl b (pos + q) (by rw [inRange_iff]; omega) hb, rfl⟩) hx)
where
  Rep.both {w : World} {O : OMap} {m : Nat} : ∀ {t : Ty} {p p' : Nat} {x : PV} {cs : List Value}, Rep w O (some m) t p x cs → Rep w O none t p' x cs → Rep w O none t.sh p' x cs
    | .sc, p, p', x, cs, h, h' => by simpa only [Ty.sh, Ty.modAt] using h'
    | .agg l, p, p', x, cs, h, h' => by
      simp only [Ty.sh, Ty.modAt, Rep] at h h' ⊢
      obtain ⟨xs, rfl, h⟩ := h
      obtain ⟨_, hx, h'⟩ := h'
      cases hx
      exact ⟨xs, rfl, Reps.both h h'⟩
    | .sl md e, p, p', x, cs, h, h' => by
      simp only [Ty.sh, Ty.modAt, Rep] at h h' ⊢
      cases md with
      | dead => exact h'
      | sh => exact h'
      | full => exact h'.1
      | own =>
        obtain ⟨nl, xs, rfl, h⟩ := h
        obtain ⟨nl', xs', hx, h'⟩ := h'
        cases hx
        simp only [toSh, SlRep, RepSh]
        refine ⟨nl, xs, rfl, ?_⟩
        rcases h with h | ⟨h0, ad, cap, h1, h2, h3, h4⟩
        · exact .inl h
        · rcases h' with ⟨h5, _⟩ | ⟨_, ad', cap', k1, k2, k3, k4⟩
          · rw [h0] at h5; cases h5
          · rw [h1] at k1
            injection k1 with k1
            injection k1 with k5 k6 k7
            injection k5 with k5
            subst k5; subst k7
            refine .inr ⟨h0, ad, cap, h1, h2, h3, .inl ?_⟩
            rcases h4 with h4 | ⟨h4, _⟩
            · exact List.length_eq_zero_iff.1 (by omega)
            · rcases k4 with k4 | ⟨k4, _⟩
              · exact List.length_eq_zero_iff.1 (by omega)
              · rw [h4] at k4; cases k4
  Reps.both {w : World} {O : OMap} {m : Nat} : ∀ {l : List Ty} {p p' q : Nat} {xs : List PV} {cs : List Value}, Reps w O (some m) l p xs cs → Reps w O none l p' xs cs → Reps w O none (Ty.modsAt (fun _ m => toSh m) q l) p' xs cs
    | [], p, p', q, xs, cs, h, h' => by simpa only [Ty.modsAt] using h'
    | t :: ts, p, p', q, xs, cs, h, h' => by
      simp only [Ty.modsAt, Reps] at h h' ⊢
      obtain ⟨y, ys, c1, c2, rfl, rfl, h1, h2⟩ := h
      obtain ⟨y', ys', d1, d2, hx, hc, h3, h4⟩ := h'
      cases hx
      have hl : c1.length = d1.length := by rw [Rep.length h1, Rep.length h3]
      obtain ⟨e1, e2⟩ := List.append_inj hc hl
      subst e1; subst e2
      refine ⟨y, ys, c1, c2, rfl, rfl, ?_, ?_⟩
      · have := Rep.both h1 h3
        rwa [Ty.sh, modAt_fun (fun m => toSh m) t 0 q] at this
      · rw [modAt_size]; exact Reps.both h2 h4
  modAt_fun (f : Md → Md) : ∀ (t : Ty) (p q : Nat), t.modAt (fun _ m => f m) p = t.modAt (fun _ m => f m) q
    | .sc, _, _ => rfl
    | .agg l, p, q => by simp only [Ty.modAt]; rw [modsAt_fun f l p q]
    | .sl _ e, _, _ => rfl
  modsAt_fun (f : Md → Md) : ∀ (l : List Ty) (p q : Nat), Ty.modsAt (fun _ m => f m) p l = Ty.modsAt (fun _ m => f m) q l
    | [], _, _ => rfl
    | t :: ts, p, q => by simp only [Ty.modsAt]; rw [modAt_fun f t p q, modsAt_fun f ts _ (q + t.size)]

/-- parts that are taken to `d` -/
theorem parts_taken {keep : Nat → Bool} (d : Nat) : ∀ {l : List (Operand × TypeId)} {S0 S : Vw} {O : OMap} {vs : List VX} {ts : List Ty} {us : List Up} {pvs : List PV} (pos : Nat → Nat), Sub S0 S → Inv S s n w0 O0 a w O → parts P keep false S0 l = some (vs, ts, us) →
    evals s vs = some pvs → (∀ u ∈ us, u.root ≠ d) →
    ∃ O', Inv (putUps S us) s n w0 O0 a w O' ∧ Sub (putUps S0 us) (putUps S us) ∧ KeptLab O O' us ∧ ts.length = l.length ∧ pvs.length = l.length ∧
      ∀ (i : Nat) (x : Operand) (t : TypeId), l[i]? = some (x, t) → ∃ ty pv cs, ts[i]? = some ty ∧ pvs[i]? = some pv ∧ Wrap ty (a.eval x) cs ∧ Rep w O' (some d) ty (pos i) pv cs ∧ ty.noDead = true
  | [], S0, S, O, vs, ts, us, pvs, pos, hS, inv, h, he, hd => by
    simp [parts] at h
    obtain ⟨rfl, rfl, rfl⟩ := h
    simp [evals] at he; subst he
    exact ⟨O, inv, hS, KeptLab.refl _ _, rfl, rfl, fun i x t hi => by simp at hi⟩
  | (x, t) :: l, S0, S, O, vs, ts, us, pvs, pos, hS, inv, h, he, hd => by
    simp only [parts, Option.bind_eq_some_iff, Option.map_eq_some_iff] at h
    obtain ⟨⟨v, ty, org⟩, h1, ⟨e, ty'⟩, h2, ⟨vs', ts', e'⟩, h3, h4⟩ := h
    simp only [Bool.false_eq_true, if_false] at h2
    cases h4
    obtain ⟨pv, pvs', e1, e2, rfl⟩ := evals_cons he
    obtain ⟨cs, g1, g2, g3⟩ := rd_sound hS inv h1 e1
    obtain ⟨O1, inv1, g4, g5, g6, g7, g8⟩ := take_sound' hS inv h2 g3 g2 d (pos 0) (fun d' hd' => by cases hd')
    obtain ⟨O2, inv2, k1, k2, k3, k4, k5⟩ := parts_taken d (fun i => pos (i + 1)) g6 inv1 h3 e2 (fun u hu => hd u (by simp [hu]))
    refine ⟨O2, by rw [putUps_append]; exact inv2, by rw [putUps_append, putUps_append]; exact k1, g8.trans k2, by simp [k3], by simp [k4], fun i x' t' hi => ?_⟩
    cases i with
    | zero =>
      simp at hi
      obtain ⟨rfl, rfl⟩ := hi
      exact ⟨ty', pv, cs, rfl, rfl, g1.er g5, k2.rep (fun u hu e => hd u (by simp [hu]) (by injection e with e; exact e.symm)) g4, g7⟩
    | succ i =>
      simp only [List.getElem?_cons_succ] at hi
      obtain ⟨ty2, pv2, cs2, q1, q2, q3⟩ := k5 i x' t' hi
      exact ⟨ty2, pv2, cs2, by simpa using q1, by simpa using q2, q3⟩

theorem parts_shared {keep : Nat → Bool} : ∀ {l : List (Operand × TypeId)} {S0 S : Vw} {O : OMap} {vs : List VX} {ts : List Ty} {us : List Up} {pvs : List PV}, Sub S0 S → Inv S s n w0 O0 a w O → parts P keep true S0 l = some (vs, ts, us) →
    evals s vs = some pvs →
    ∃ O', Inv (putUps S us) s n w0 O0 a w O' ∧ Sub (putUps S0 us) (putUps S us) ∧ KeptLab O O' us ∧ ts.length = l.length ∧ pvs.length = l.length ∧
      ∀ (i : Nat) (x : Operand) (t : TypeId), l[i]? = some (x, t) → ∃ ty pv cs, ts[i]? = some ty ∧ pvs[i]? = some pv ∧ Wrap ty (a.eval x) cs ∧ RepSh w O' ty pv cs ∧ ty.isSh = true
  | [], S0, S, O, vs, ts, us, pvs, hS, inv, h, he => by
    simp [parts] at h
    obtain ⟨rfl, rfl, rfl⟩ := h
    simp [evals] at he; subst he
    exact ⟨O, inv, hS, KeptLab.refl _ _, rfl, rfl, fun i x t hi => by simp at hi⟩
  | (x, t) :: l, S0, S, O, vs, ts, us, pvs, hS, inv, h, he => by
    simp only [parts, Option.bind_eq_some_iff, Option.map_eq_some_iff] at h
    obtain ⟨⟨v, ty, org⟩, h1, ⟨e, ty'⟩, h2, ⟨vs', ts', e'⟩, h3, h4⟩ := h
    simp only [if_true, Option.map_eq_some_iff] at h2
    obtain ⟨e0, h2, h5⟩ := h2
    cases h5
    cases h4
    obtain ⟨pv, pvs', e1, e2, rfl⟩ := evals_cons he
    obtain ⟨cs, g1, g2, g3⟩ := rd_sound hS inv h1 e1
    obtain ⟨O1, inv1, g4, g6, g8⟩ := share_sound hS inv h2 g3 g2
    obtain ⟨O2, inv2, k1, k2, k3, k4, k5⟩ := parts_shared g6 inv1 h3 e2
    refine ⟨O2, by rw [putUps_append]; exact inv2, by rw [putUps_append, putUps_append]; exact k1, g8.trans k2, by simp [k3], by simp [k4], fun i x' t' hi => ?_⟩
    cases i with
    | zero =>
      simp at hi
      obtain ⟨rfl, rfl⟩ := hi
      refine ⟨ty.sh, pv, cs, rfl, rfl, g1.er (sh_er ty).symm, k2.repSh ?_, Ty.sh_isSh 0 g3⟩
      have h3 : ty.sh.modAt (fun _ _ => .sh) 0 = ty.modAt (fun _ _ => .sh) 0 := sh_er ty
      have h4 := (RepSh.er (t := ty) 0).1 g4
      rw [← h3] at h4
      exact (RepSh.er 0).2 h4
    | succ i =>
      simp only [List.getElem?_cons_succ] at hi
      obtain ⟨ty2, pv2, cs2, q1, q2, q3⟩ := k5 i x' t' hi
      exact ⟨ty2, pv2, cs2, by simpa using q1, by simpa using q2, q3⟩

theorem Wrap.cells {ty : Ty} {v : Value} {cs : List Value} (h : Wrap ty v cs) (hone : ∀ u ∈ cs, oneCell u) : v.cells = cs.toArray := by
  cases ty with
  | agg l => simp only [Wrap] at h; rw [h]; rfl
  | sc =>
    simp only [Wrap] at h; subst h
    have := hone v (by simp)
    cases he : v <;> first | rfl | (exact absurd he (this.1 _))
  | sl m e =>
    simp only [Wrap] at h; subst h
    have := hone v (by simp)
    cases he : v <;> first | rfl | (exact absurd he (this.1 _))

theorem foldl_splice : ∀ (vs : List Value) (off j : Nat) (c : Array Value), off + j + vs.length ≤ c.size → (vs.zipIdx j).foldl (fun cs (x : Value × Nat) => cs.setIfInBounds (off + x.2) x.1) c = splice c (off + j) vs
  | [], off, j, c, _ => by simp [splice_nil]
  | v :: vs, off, j, c, h => by
    simp only [List.length_cons] at h
    simp only [List.zipIdx_cons, List.foldl_cons]
    rw [foldl_splice vs off (j + 1) _ (by simp; omega)]
    rw [← Nat.add_assoc, splice_cons (by omega)]

theorem fill_cons {place : Nat → Option (Nat × Nat)} {c : Array Value} {i off : Nat} {v : Value} {vs : List Value} {rest : List (Nat × Value)} (hp : place i = some (off, vs.length)) (hv : v.cells = vs.toArray) (hc : off + vs.length ≤ c.size) :
    Instr.fill place c ((i, v) :: rest) = Instr.fill place (splice c off vs) rest := by
  conv => lhs; unfold Instr.fill
  simp only [hp, hv]
  rw [if_neg (by simp; omega)]
  have := foldl_splice vs off 0 c (by omega)
  rw [Nat.add_zero] at this
  congr 1
  rw [← this]
  simp [Array.zipIdx_toArray]

theorem sizes_set {l : List Ty} {i : Nat} {t u : Ty} (h : l[i]? = some u) (hs : t.size = u.size) (j : Nat) : Ty.sizes ((l.set i t).take j) = Ty.sizes (l.take j) := by
  induction l generalizing i j with
  | nil => simp at h
  | cons x l ih =>
    cases j with
    | zero => simp
    | succ j =>
      cases i with
      | zero => simp at h; subst h; simp [Ty.sizes, hs]
      | succ i => simp at h; simp [Ty.sizes, ih h]

/-- parts are put at their places -/
theorem fill_rep {ρ : Option Nat} {place : Nat → Option (Nat × Nat)} : ∀ (ps : List (Nat × Value)) (l : List Ty) (zs : List PV) (c : Array Value) (ts l' : List Ty) (pvs zs' : List PV),
    (∀ (i : Nat) (u : Ty), l[i]? = some u → place i = some (Ty.sizes (l.take i), u.size)) → Rep w O ρ (.agg l) 0 (.agg zs) c.toList → ts.length = ps.length → pvs.length = ps.length →
    (∀ (k i : Nat) (v : Value), ps[k]? = some (i, v) → ∃ ty pv cs, ts[k]? = some ty ∧ pvs[k]? = some pv ∧ Wrap ty v cs ∧ Rep w O ρ ty (Ty.sizes (l.take i)) pv cs ∧ ty.noDead = true) →
    setPos l ((ps.map (·.1)).zip ts) = some l' → setAll zs ((ps.map (·.1)).zip pvs) = some zs' →
    ∃ c', Instr.fill place c ps = some c' ∧ Rep w O ρ (.agg l') 0 (.agg zs') c'.toList
  | [], l, zs, c, ts, l', pvs, zs', hp, hr, hl, hl', hall, h1, h2 => by
    simp [setPos] at h1; subst h1
    simp [setAll] at h2; subst h2
    exact ⟨c, rfl, hr⟩
  | (i, v) :: ps, l, zs, c, ts, l', pvs, zs', hp, hr, hl, hl', hall, h1, h2 => by
    obtain ⟨ty, pv, cs, g1, g2, g3, g4, g5⟩ := hall 0 i v rfl
    cases ts with
    | nil => simp at g1
    | cons ty0 ts =>
    cases pvs with
    | nil => simp at g2
    | cons pv0 pvs =>
    simp at g1 g2; subst g1; subst g2
    simp only [List.map_cons, List.zip_cons_cons, setPos] at h1
    simp only [List.map_cons, List.zip_cons_cons, setAll] at h2
    obtain ⟨hc1, h1⟩ := if_some h1
    obtain ⟨hc2, h2⟩ := if_some h2
    cases hu : l[i]? with
    | none => simp [hu] at hc1
    | some u =>
    simp [hu] at hc1
    have hsh := Ty.beq_eq hc1
    have her : u.er = ty0.er := by rw [← sh_er u, hsh, sh_er]
    have hsz : ty0.size = u.size := (Ty.size_of_er her).symm
    have hat : Ty.at [i] (.agg l) = some (u, Ty.sizes (l.take i)) := by simp [Ty.at, hu]
    have hput : Ty.put [i] (.agg l) ty0 = some (.agg (l.set i ty0)) := by simp [Ty.put, hu]
    obtain ⟨x', k1, k2, k3⟩ := Rep.put [i] hat hput hsz hr (by rw [Nat.zero_add]; exact g4)
    obtain ⟨_, _, _, k4⟩ := Rep.part [i] hat hr
    have hlen := Rep.length hr
    simp only [Array.length_toList] at hlen
    have hcs : cs.length = u.size := by rw [Rep.length g4, hsz]
    have hx' : x' = .agg (zs.set i pv0) := by
      simp [setP, List.getElem?_eq_getElem hc2] at k1
      exact k1.symm
    subst hx'
    have hsp : (splice c (Ty.sizes (l.take i)) cs).toList = c.toList.take (Ty.sizes (l.take i)) ++ (cs ++ c.toList.drop (Ty.sizes (l.take i) + u.size)) := by simp [splice, hcs]
    rw [← hsp] at k2
    have hfill := fill_cons (place := place) (c := c) (rest := ps) (by rw [hp i u hu, hcs]) (g3.cells (Rep.one g5 g4)) (by rw [hcs]; omega)
    rw [hfill]
    refine fill_rep ps (l.set i ty0) (zs.set i pv0) _ ts l' pvs zs' ?_ k2 (by simpa using hl) (by simpa using hl') ?_ h1 h2
    · intro j t hj
      rw [sizes_set hu hsz]
      by_cases hij : j = i
      · subst hij
        have hlt := (List.getElem?_eq_some_iff.1 hu).1
        simp [hlt] at hj; subst hj
        rw [hp j u hu, hsz]
      · rw [List.getElem?_set_ne (fun e => hij e.symm)] at hj
        exact hp j t hj
    · intro k i' v' hk
      obtain ⟨ty2, pv2, cs2, q1, q2, q3, q4, q5⟩ := hall (k + 1) i' v' (by simpa using hk)
      exact ⟨ty2, pv2, cs2, by simpa using q1, by simpa using q2, q3, by rw [sizes_set hu hsz]; exact q4, q5⟩

end
end Go.Vm

/-
  Literals of structs, arrays and slices; slices that are made.
  Conditions: none.
-/
set_option linter.unusedVariables false
set_option linter.unusedSimpArgs false
namespace Go.Vm

section
variable {P : Program} {S0 S : Vw} {s s' : St} {n : Nat} {w0 : World} {O0 : OMap} {a : Act} {w : World} {O : OMap} {C : Env} {o : Oper} {d : Nat}

theorem mapM_some {α β : Type} {f : α → Option β} : ∀ {l : List α}, (∀ (i : Nat) (x : α), l[i]? = some x → ∃ y, f x = some y) → ∃ ys, l.mapM f = some ys ∧ ∀ (i : Nat) (x : α), l[i]? = some x → ∃ y, f x = some y ∧ ys[i]? = some y
  | [], h => ⟨[], by simp, fun i x hi => by simp at hi⟩
  | x :: l, h => by
    obtain ⟨y, hy⟩ := h 0 x rfl
    obtain ⟨ys, h1, h2⟩ := mapM_some (f := f) (l := l) fun i z hz => h (i + 1) z (by simpa using hz)
    refine ⟨y :: ys, by simp [List.mapM_cons, hy, h1], fun i z hz => ?_⟩
    cases i with
    | zero => simp at hz; subst hz; exact ⟨y, hy, rfl⟩
    | succ i => obtain ⟨y', g1, g2⟩ := h2 i z (by simpa using hz); exact ⟨y', g1, by simpa using g2⟩

/-- the places of an aggregate's parts -/
theorem built_place {k : Nat} {t : TypeId} {l : List Ty} {z : PV} (h : tyz P k t = some (.agg l, z)) : ∃ (place : Nat → Option (Nat × Nat)) (v0 : Value), P.info? t = P.info? t ∧ (∀ parts, P.built t parts = Instr.fill place v0.cells parts) ∧
    (∀ (i : Nat) (u : Ty), l[i]? = some u → place i = some (Ty.sizes (l.take i), u.size)) ∧ ∀ (w : World) (O : OMap) (ρ : Option Nat) (p : Nat), Rep w O ρ (.agg l) p z v0.cells.toList := by
  cases k with
  | zero => simp [tyz] at h
  | succ k =>
    obtain ⟨it, v0, hi, hs, hz, hm, hat⟩ := tyz_succ h
    have hrep : ∀ (w : World) (O : OMap) (ρ : Option Nat) (p : Nat), Rep w O ρ (.agg l) p z v0.cells.toList := fun w O ρ p => by
      obtain ⟨c, h1, h2⟩ := matchCells_rep (w := w) (O := O) (ρ := ρ) (p := p) h hm
      simp at h1; rw [h1]; exact h2
    cases hat with
    | array m e te z' hu h1 =>
      obtain ⟨ie, hie, hse⟩ : ∃ ie, P.info? e = some ie ∧ ie.size = te.size := by
        cases k with
        | zero => simp [tyz] at h1
        | succ k => obtain ⟨ie, _, h2, h3, _⟩ := tyz_succ h1; exact ⟨ie, h2, h3⟩
      refine ⟨fun i => some (i * ie.size, ie.size), v0, rfl, fun parts => by simp [Program.built, hi, hu, hz, hie], fun i u hu' => ?_, hrep⟩
      have him : i < m := by
        have := (List.getElem?_eq_some_iff.1 hu').1
        simpa using this
      simp [List.getElem?_replicate, him] at hu'
      subst hu'
      rw [hse, List.take_replicate, Nat.min_eq_left (by omega), sizes_rep]
    | struct fs ts zs hu h1 =>
      obtain ⟨t2, z2, rfl, rfl, h2, h3, h4⟩ := fold_struct _ _ _ _ _ h1
      obtain ⟨places, q1, q2⟩ := mapM_some (f := fun f : Field => (P.info? f.type).map fun i => (f.offset, i.size)) (l := fs.toList) fun i f hf => by
        obtain ⟨tf, zf, g1, _⟩ := h4 i f hf
        obtain ⟨ii, hii, _⟩ := tyz_info g1
        exact ⟨(f.offset, ii.size), by simp [hii]⟩
      refine ⟨(places.toArray[·]?), v0, rfl, fun parts => by simp [Program.built, hi, hu, hz, q1], fun i u hu' => ?_, hrep⟩
      have hlt : i < fs.toList.length := by rw [← h2]; exact (List.getElem?_eq_some_iff.1 hu').1
      obtain ⟨tf, zf, g1, g2, g3, g4⟩ := h4 i fs.toList[i] (by simp)
      obtain ⟨y, q3, q4⟩ := q2 i fs.toList[i] (by simp)
      obtain ⟨ii, hii, his⟩ := tyz_info g1
      simp only [hii, Option.map_some, Option.some.injEq] at q3
      subst q3
      have : u = tf := by
        have hu2 := hu'
        rw [g2] at hu2; exact (Option.some.inj hu2).symm
      subst this
      simp only [List.getElem?_toArray, q4, his, g4, Ty.sizes]
      simp
where
  sizes_rep {te : Ty} : ∀ (m : Nat), Ty.sizes (List.replicate m te) = m * te.size
    | 0 => by simp [Ty.sizes]
    | m + 1 => by simp only [List.replicate_succ, Ty.sizes]; rw [sizes_rep m, Nat.succ_mul]; omega
  tyz_info {k : Nat} {t : TypeId} {ty : Ty} {z : PV} (h : tyz P k t = some (ty, z)) : ∃ i, P.info? t = some i ∧ i.size = ty.size := by
    cases k with
    | zero => simp [tyz] at h
    | succ k => obtain ⟨ie, _, h2, h3, _⟩ := tyz_succ h; exact ⟨ie, h2, h3⟩

theorem partTypes_get {t : TypeId} {ps : List (Nat × Operand)} {xs : List (Operand × TypeId)} (h : partTypes P t ps = some xs) : xs.length = ps.length ∧ ∀ (k i : Nat) (x : Operand), ps[k]? = some (i, x) → ∃ t', xs[k]? = some (x, t') := by
  unfold partTypes at h
  split at h
  · cases h
    exact ⟨by simp, fun k i x hk => by simp [hk]⟩
  · cases h
    exact ⟨by simp, fun k i x hk => by simp [hk]⟩
  · cases h

theorem build_sound (hS : Sub S0 S) (inv : Inv S s n w0 O0 a w O) (hd : d < n) {keep : Nat → Bool} {t : TypeId} {ps : Array (Nat × Operand)} (ho : o.op = .build t ps) {rhs : VRhs} {av : AV} {us : List Up}
    (h : chkBuild P S0 keep (some d) t ps.toList = some (rhs, av, us)) (hr : rhs.run C s (some d) = some s') : Defd P (putUps S us) s' n w0 O0 a w o d av := by
  unfold chkBuild at h
  simp only [Option.bind_eq_some_iff] at h
  obtain ⟨⟨ty, z⟩, hz, h⟩ := h
  cases ty with
  | sc => cases h
  | sl m e => cases h
  | agg l =>
  cases z with
  | agg zs =>
    simp only [Option.bind_eq_some_iff] at h
    obtain ⟨xs, hxs, ⟨vs, ts, e⟩, hp, h⟩ := h
    obtain ⟨hroots, h⟩ := if_some h
    simp only [Option.map_eq_some_iff] at h
    obtain ⟨l', hl', h⟩ := h
    cases h
    obtain ⟨pvs, r, hev, hrun, rfl⟩ := prim_run hr
    simp only [Prim.run] at hrun
    obtain ⟨hlen, hrun⟩ := if_some hrun
    simp only [Option.map_eq_some_iff] at hrun
    obtain ⟨zs', hzs', rfl⟩ := hrun
    obtain ⟨hxl, hxget⟩ := partTypes_get hxs
    obtain ⟨O', inv', _, _, k1, k2, k3⟩ := parts_taken (a := a) (w := w) d (fun k => Ty.sizes (l.take ((ps.toList.map (·.1)).getD k 0))) hS inv hp hev (fun u hu => by
      have := List.all_eq_true.1 hroots u hu
      simpa using this)
    obtain ⟨place, v0, _, hb1, hb2, hb3⟩ := built_place hz
    obtain ⟨c', hc1, hc2⟩ := fill_rep (ρ := some d) (ps.toList.map fun p => (p.1, a.eval p.2)) l zs v0.cells ts l' pvs zs' hb2 (hb3 w O' (some d) 0) (by simp [k1, hxl]) (by simp [k2, hxl]) (by
      intro k i v hk
      simp only [List.getElem?_map, Option.map_eq_some_iff] at hk
      obtain ⟨⟨i', x⟩, hk, he⟩ := hk
      simp only [Prod.mk.injEq] at he
      obtain ⟨rfl, rfl⟩ := he
      obtain ⟨t', hx⟩ := hxget k i' x hk
      obtain ⟨ty, pv, cs, g1, g2, g3, g4, g5⟩ := k3 k x t' hx
      refine ⟨ty, pv, cs, g1, g2, g3, ?_, g5⟩
      simpa [List.getElem?_map, hk] using g4) (by simpa [List.map_map, Function.comp_def] using hl') (by simpa [List.map_map, Function.comp_def] using hzs')
    have hbuilt := run_build (P := P) w t (ps.map fun (i, x) => (i, a.eval x)) c' (by rw [hb1]; simpa using hc1)
    refine ⟨_, w, O', .inl ?_, define_val inv' hd (Grown.refl d inv'.frame.alloc) (ty := .agg l') (v := .agg c') (cs := c'.toList) (by simp [Wrap]) hc2⟩
    simp [execOp, ho, hbuilt]
  | _ => cases h

theorem replicate_set {α : Type} (m i : Nat) (x : α) : (List.replicate m x).set i x = List.replicate m x := by
  apply List.ext_getElem?
  intro j
  by_cases h : i = j
  · subst h
    by_cases hi : i < m
    · simp [hi]
    · rw [List.set_eq_of_length_le (by simp; omega)]
  · rw [List.getElem?_set_ne h]

theorem setPos_rep {te : Ty} (m : Nat) : ∀ (is : List Nat) (ts : List Ty), (∀ t ∈ ts, t = te) → (∀ i ∈ is, i < m) → setPos (List.replicate m te) (is.zip ts) = some (List.replicate m te)
  | [], ts, _, _ => by simp [setPos]
  | i :: is, [], _, _ => by simp [setPos]
  | i :: is, t :: ts, h, hi => by
    have := h t (by simp)
    subst this
    have hlt := hi i (by simp)
    simp only [List.zip_cons_cons, setPos, List.getElem?_replicate, if_pos hlt, Option.map_some]
    rw [if_pos (by simp [Ty.beq_refl]), replicate_set]
    exact setPos_rep m is ts (fun t ht => h t (by simp [ht])) (fun i hi' => hi i (by simp [hi']))
where
  Ty.beq_refl : ∀ (t : Ty), t.beq t = true
    | .sc => rfl
    | .agg l => by simp only [Ty.beq]; exact Ty.beqs_refl l
    | .sl m e => by simp [Ty.beq, Ty.beq_refl e]
  Ty.beqs_refl : ∀ (l : List Ty), Ty.beqs l l = true
    | [] => rfl
    | t :: l => by simp [Ty.beqs, Ty.beq_refl t, Ty.beqs_refl l]

/-- rows of one value -/
theorem made_rep {te : Ty} {z : PV} {zc : Array Value} (hz : RepSh w O te z zc.toList) (m i : Nat) (hi : i < m) : cellsAt (madeCells zc (m * te.size)) (i * te.size) te.size = zc.toList := by
  have hl := RepSh.length hz
  simp only [Array.length_toList] at hl
  have hm : (i + 1) * te.size ≤ m * te.size := Nat.mul_le_mul_right _ hi
  rw [Nat.succ_mul] at hm
  apply List.ext_getElem?
  intro j
  by_cases hj : j < te.size
  · rw [cellsAt_get hj]
    simp only [madeCells]
    rw [Array.getElem?_map, Array.getElem?_range, if_pos (by omega)]
    simp only [Option.map_some]
    have : (i * te.size + j) % zc.size = j := by rw [hl, Nat.mul_comm, Nat.mul_add_mod, Nat.mod_eq_of_lt hj]
    rw [this]
    simp [hl, hj]
  · rw [List.getElem?_eq_none (by rw [cellsAt_length (by rw [size_madeCells]; exact hm)]; omega), List.getElem?_eq_none (by simp; omega)]

theorem zero_sh {k : Nat} {t : TypeId} {ty : Ty} {z : PV} (h : tyz P k t = some (ty, z)) : ∃ i v, P.info? t = some i ∧ i.size = ty.size ∧ i.zero = some v ∧ ∀ (w : World) (O : OMap), RepSh w O ty z v.cells.toList := by
  cases k with
  | zero => simp [tyz] at h
  | succ k =>
    have hsh := tyz_isSh h
    obtain ⟨it, v0, hi, hs, hz, hm, hat⟩ := tyz_succ h
    refine ⟨it, v0, hi, hs, hz, fun w O => ?_⟩
    obtain ⟨c, h1, h2⟩ := matchCells_rep (w := w) (O := O) (ρ := none) (p := 0) h hm
    simp at h1; rw [h1]; exact (RepSh.rep none 0 hsh).2 h2

theorem makeSlice_sound (hS : Sub S0 S) (inv : Inv S s n w0 O0 a w O) (hd : d < n) {t e : TypeId} {l c : Operand} (ho : o.op = .makeSlice t l c) (he : isSlice P t = some e) {te : Ty} {z : PV} (hz : tyz P depth e = some (te, z)) {bytes : Nat} (hb : bytesOf P e = some bytes) (hpos : 0 < te.size)
    {v u : VX} {t1 t2 : Ty} {o1 o2 : Org} (h1 : rd P S0 0 l = some (v, t1, o1)) (h2 : rd P S0 0 c = some (u, t2, o2)) (hr : (VRhs.prim (.mkSl z bytes) [v, u]).run C s (some d) = some s') :
    Defd P S s' n w0 O0 a w o d (.val (.sl .own te)) := by
  obtain ⟨vs, r, hev, hp, rfl⟩ := prim_run hr
  obtain ⟨p, q, e1, e2, rfl⟩ := evals_two hev
  simp only [Prim.run, two] at hp
  cases p <;> cases q <;> simp [mkSlV] at hp
  case int.int k1 x k2 y =>
    obtain ⟨⟨g1, g2, g3, g4⟩, rfl⟩ := hp
    have j1 := rd_int hS inv h1 e1
    have j2 := rd_int hS inv h2 e2
    obtain ⟨it, v0, hi, hs, hzz, hrep⟩ := zero_sh hz
    have hbytes : it.bytes = bytes := by simp [bytesOf, hi] at hb; exact hb
    have hbb : (it.bytes : Int) * y ≤ 281474976710656 := by
      rw [hbytes]
      have h5 : (bytes : Int) * y = ((y.toNat * bytes : Nat) : Int) := by
        rw [Int.natCast_mul, Int.toNat_of_nonneg (by omega), Int.mul_comm]
      rw [h5]; omega
    have hrun := run_make (P := P) w t e it v0 (isSlice_some he) hi hzz k1 k2 x y g1 g2 hbb (by omega)
    rw [hs] at hrun
    have hxy : x.toNat ≤ y.toNat := by omega
    have := define_ownblock inv hd (w1 := w) rfl rfl rfl rfl (c := madeCells v0.cells (y.toNat * te.size)) (el := e) (te := te) (zs := List.replicate x.toNat z) (cap := y.toNat) (fr := (0, 0)) (fun j _ hj => by simp at hj) (by simpa using hxy)
      (by rw [size_madeCells]; exact Nat.le_refl _) (fun i zv hi' => by
        have him := (List.getElem?_eq_some_iff.1 hi').1
        simp only [List.length_replicate] at him
        simp [List.getElem?_replicate, him] at hi'
        subst hi'
        rw [made_rep (hrep w O) _ _ (by omega)]
        exact hrep w O)
    rw [List.length_replicate] at this
    refine ⟨_, _, _, .inl ?_, this⟩
    simp [execOp, ho, j1, j2, hrun]

theorem buildSlice_sound (hS : Sub S0 S) (inv : Inv S s n w0 O0 a w O) (hd : d < n) {keep : Nat → Bool} {t : TypeId} {m : Nat} {ps : Array (Nat × Operand)} (ho : o.op = .buildSlice t m ps) {rhs : VRhs} {av : AV} {us : List Up}
    (h : chkBuildSlice P S0 keep t m ps.toList = some (rhs, av, us)) (hr : rhs.run C s (some d) = some s') : Defd P (putUps S us) s' n w0 O0 a w o d av := by
  unfold chkBuildSlice at h
  simp only [Option.bind_eq_some_iff] at h
  obtain ⟨e, he, ⟨te, z⟩, hz, h⟩ := h
  obtain ⟨hcond, h⟩ := if_some h
  simp only [Bool.and_eq_true, decide_eq_true_eq, List.all_eq_true] at hcond
  obtain ⟨⟨hmax, hlt⟩, hpos⟩ := hcond
  simp only [Option.bind_eq_some_iff] at h
  obtain ⟨⟨vs, ts, ef⟩, hp, h⟩ := h
  obtain ⟨hts, h⟩ := if_some h
  cases h
  obtain ⟨pvs, r, hev, hrun, rfl⟩ := prim_run hr
  simp only [Prim.run] at hrun
  obtain ⟨hlen, hrun⟩ := if_some hrun
  simp only [Option.map_eq_some_iff] at hrun
  obtain ⟨zs', hzs', rfl⟩ := hrun
  obtain ⟨O', inv', _, _, k1, k2, k3⟩ := parts_shared (a := a) (w := w) hS inv hp hev
  obtain ⟨it, v0, hi, hs, hzz, hrep⟩ := zero_sh hz
  have hsh := tyz_isSh hz
  have hall : ∀ u ∈ ts, u = te := by
    intro u hu
    have h5 := Ty.beq_eq (List.all_eq_true.1 hts u hu)
    obtain ⟨k, hk⟩ := List.getElem?_of_mem hu
    have hkl : k < ps.toList.length := by
      have := (List.getElem?_eq_some_iff.1 hk).1
      rw [k1] at this; simpa using this
    obtain ⟨ty, pv, cs, g1, _, _, _, g5⟩ := k3 k ps.toList[k].2 e (by rw [List.getElem?_map, List.getElem?_eq_getElem hkl]; rfl)
    rw [hk] at g1; cases g1
    rw [← h5]
    have := Ty.sh_of_isSh g5
    exact this.symm
  have hzrep : Rep w O' none (.agg (List.replicate m te)) 0 (.agg (List.replicate m z)) (madeCells v0.cells (m * te.size)).toList := by
    simp only [Rep]
    refine ⟨_, rfl, ?_⟩
    have hcells : ∀ (j p : Nat), j ≤ m → Reps w O' none (List.replicate j te) p (List.replicate j z) ((madeCells v0.cells (m * te.size)).toList.drop ((m - j) * te.size)) := by
      intro j
      induction j with
      | zero =>
        intro p _
        simp only [List.replicate_zero, Reps, Nat.sub_zero, true_and]
        exact List.drop_eq_nil_of_le (by simp [size_madeCells])
      | succ j ih =>
        intro p hj
        simp only [List.replicate_succ, Reps]
        have hm1 : (m - (j + 1) + 1) * te.size ≤ m * te.size := Nat.mul_le_mul_right _ (by omega)
        rw [Nat.succ_mul] at hm1
        refine ⟨z, _, cellsAt (madeCells v0.cells (m * te.size)) ((m - (j + 1)) * te.size) te.size, _, rfl, ?_, ?_, ih _ (by omega)⟩
        · have e1 : (m - j) * te.size = (m - (j + 1)) * te.size + te.size := by rw [← Nat.succ_mul]; congr 1; omega
          rw [e1]
          unfold cellsAt
          rw [← List.drop_drop, List.take_append_drop]
        · rw [made_rep (hrep w O') m _ (by omega)]
          exact (RepSh.rep none p hsh).1 (hrep w O')
    have := hcells m 0 (Nat.le_refl _)
    simpa using this
  obtain ⟨c', hc1, hc2⟩ := fill_rep (ρ := none) (place := fun i => some (i * te.size, te.size)) (ps.toList.map fun p => (p.1, a.eval p.2)) (List.replicate m te) (List.replicate m z) (madeCells v0.cells (m * te.size)) ts (List.replicate m te) pvs zs'
    (fun i u hu => by
      have him : i < m := by
        have := (List.getElem?_eq_some_iff.1 hu).1
        simpa using this
      simp [List.getElem?_replicate, him] at hu
      subst hu
      rw [List.take_replicate, Nat.min_eq_left (by omega), built_place.sizes_rep]) hzrep (by simp [k1]) (by simp [k2]) (by
      intro k i v hk
      simp only [List.getElem?_map, Option.map_eq_some_iff] at hk
      obtain ⟨⟨i', x⟩, hk, he⟩ := hk
      simp only [Prod.mk.injEq] at he
      obtain ⟨rfl, rfl⟩ := he
      obtain ⟨ty, pv, cs, g1, g2, g3, g4, g5⟩ := k3 k x e (by simp [hk])
      exact ⟨ty, pv, cs, g1, g2, g3, (RepSh.rep none _ g5).1 g4, noDead_of_isSh g5⟩) (by
      rw [List.map_map]
      exact setPos_rep m _ ts hall (fun i hi' => by
        simp only [List.mem_map, Function.comp_apply] at hi'
        obtain ⟨p, hp1, rfl⟩ := hi'
        exact hlt p hp1)) (by simpa [List.map_map, Function.comp_def] using hzs')
  have hfl : zs'.length = m := by
    simp only [Rep] at hc2
    obtain ⟨_, hx, hc2⟩ := hc2
    cases hx
    simpa using index_sound.Reps.len hc2
  have hsz := Rep.length hc2
  simp only [Array.length_toList, Ty.size] at hsz
  rw [built_place.sizes_rep] at hsz
  have hwrow := define_ownblock inv' hd (w1 := w) rfl rfl rfl rfl (c := c') (el := e) (te := te) (zs := zs') (cap := m) (fr := (0, 0)) (fun j _ hj => by simp at hj) (by omega) (by omega) (fun i zv hiz => by
    have him : i < m := by rw [← hfl]; exact (List.getElem?_eq_some_iff.1 hiz).1
    obtain ⟨y, hy, hr', hle⟩ := Rep.part [i] (t := .agg (List.replicate m te)) (u := te) (o := i * te.size) (by
      simp [Ty.at, List.getElem?_replicate, him, List.take_replicate, Nat.min_eq_left (Nat.le_of_lt him), built_place.sizes_rep]) hc2
    have : y = zv := by simp [getP, hiz] at hy; exact hy.symm
    subst this
    exact (RepSh.rep none _ hsh).2 hr')
  rw [hfl] at hwrow
  refine ⟨_, _, _, .inl ?_, hwrow⟩
  have hu := isSlice_some he
  have hfill : Instr.fill (fun i => some (i * te.size, te.size)) ((Array.range (m * te.size)).map (v0.cells[· % v0.cells.size]!)) (ps.map fun (i, x) => (i, a.eval x)).toList = some c' := by simpa [madeCells] using hc1
  by_cases h0 : m * te.size = 0
  · have hm0 : m = 0 := by
      rcases Nat.mul_eq_zero.1 h0 with h | h
      · exact h
      · omega
    subst hm0
    have hps : ps.toList = [] := by
      cases hps : ps.toList with
      | nil => rfl
      | cons p l => exact absurd (hlt p (by simp [hps])) (by simp)
    have hps' : ps = #[] := by rw [← Array.toArray_toList (xs := ps), hps]
    subst hps'
    simp [Instr.fill] at hfill
    subst hfill
    simp [execOp, ho, Instr.buildSlice, run_underlying hu, sizeOf, typeInfo, hi, newRow, Instr.fill, Array.range_zero']
  · have hmax' : ¬ 16777216 < m * te.size := by omega
    have hfill' : Instr.fill (fun i => some (i * te.size, te.size)) ((Array.range (m * te.size)).map (v0.cells[· % v0.cells.size]!)) (List.map (fun x => (x.1, a.eval x.2)) ps.toList) = some c' := by simpa using hfill
    simp [execOp, ho, Instr.buildSlice, run_underlying hu, sizeOf, typeInfo, hi, zeroValue, hzz, hs, newRow, h0, hmax', hfill']

end
end Go.Vm

/-
  Writes: the content of a root changes.
  Conditions: none.
-/
set_option linter.unusedVariables false
set_option linter.unusedSimpArgs false
namespace Go.Vm

/-! ### types -/
theorem at_le : ∀ (q : List Nat) {t u : Ty} {o : Nat}, Ty.at q t = some (u, o) → o + u.size ≤ t.size
  | [], t, u, o, h => by simp [Ty.at] at h; obtain ⟨rfl, rfl⟩ := h; omega
  | i :: q, .agg l, u, o, h => by
    simp only [Ty.at, Option.bind_eq_some_iff, Option.map_eq_some_iff] at h
    obtain ⟨t, ht, ⟨u2, o2⟩, h1, h2⟩ := h
    cases h2
    have h3 := at_le q h1
    have h4 := sizes_get ht
    simp only [Ty.size]; omega
  | _ :: _, .sc, _, _, h => by simp [Ty.at] at h
  | _ :: _, .sl _ _, _, _, h => by simp [Ty.at] at h
where
  sizes_get : ∀ {l : List Ty} {i : Nat} {t : Ty}, l[i]? = some t → Ty.sizes (l.take i) + t.size ≤ Ty.sizes l
    | [], i, t, h => by simp at h
    | x :: l, 0, t, h => by simp at h; subst h; simp [Ty.sizes]
    | x :: l, i + 1, t, h => by
      have := sizes_get (l := l) (i := i) (by simpa using h)
      simp only [List.take_succ_cons, Ty.sizes]; omega

theorem at_le_after : ∀ {l : List Ty} {i j : Nat} {t : Ty}, l[i]? = some t → i < j → j ≤ l.length → Ty.sizes (l.take i) + t.size ≤ Ty.sizes (l.take j)
  | [], i, j, t, h, _, _ => by simp at h
  | x :: l, 0, j + 1, t, h, _, _ => by simp at h; subst h; simp [Ty.sizes]
  | x :: l, i + 1, j + 1, t, h, hij, hj => by
    have := at_le_after (l := l) (i := i) (j := j) (by simpa using h) (by omega) (by simpa using hj)
    simp only [List.take_succ_cons, Ty.sizes]; omega

mutual
theorem modAt_out (f : Nat → Md → Md) : ∀ (t : Ty) (p : Nat), (∀ q m, p ≤ q → q < p + t.size → f q m = m) → t.modAt f p = t
  | .sc, p, _ => rfl
  | .agg l, p, h => by simp only [Ty.modAt]; rw [modsAt_out f l p (by simpa only [Ty.size] using h)]
  | .sl m e, p, h => by simp only [Ty.modAt]; rw [h p m (Nat.le_refl _) (by simp [Ty.size])]
theorem modsAt_out (f : Nat → Md → Md) : ∀ (l : List Ty) (p : Nat), (∀ q m, p ≤ q → q < p + Ty.sizes l → f q m = m) → Ty.modsAt f p l = l
  | [], p, _ => rfl
  | t :: ts, p, h => by
    simp only [Ty.sizes] at h
    simp only [Ty.modsAt]
    rw [modAt_out f t p fun q m h1 h2 => h q m h1 (by omega), modsAt_out f ts _ fun q m h1 h2 => h q m (by omega) (by omega)]
end

theorem modsAt_get (f : Nat → Md → Md) : ∀ (l : List Ty) (p i : Nat), (Ty.modsAt f p l)[i]? = (l[i]?).map fun t => t.modAt f (p + Ty.sizes (l.take i))
  | [], p, i => by simp [Ty.modsAt]
  | t :: ts, p, 0 => by simp [Ty.modsAt, Ty.sizes]
  | t :: ts, p, i + 1 => by
    simp only [Ty.modsAt, List.getElem?_cons_succ, List.take_succ_cons, Ty.sizes]
    rw [modsAt_get f ts (p + t.size) i]
    congr 1; funext u; congr 1; omega

theorem modsAt_length (f : Nat → Md → Md) (l : List Ty) (p : Nat) : (Ty.modsAt f p l).length = l.length := by
  induction l generalizing p with
  | nil => rfl
  | cons t ts ih => simp [Ty.modsAt, ih]

/-- the mode of one place -/
def killAt (pos : Nat) : Nat → Md → Md := fun q m => if q = pos then .dead else m

theorem put_kill : ∀ (hp : List Nat) {t : Ty} {m : Md} {e : Ty} {off : Nat} (p : Nat), Ty.at hp t = some (.sl m e, off) → Ty.put hp (t.modAt (killAt (p + off)) p) (.sl m e) = some t
  | [], t, m, e, off, p, h => by simp [Ty.at] at h; simp [Ty.put, h.1]
  | i :: hp, .agg l, m, e, off, p, h => by
    simp only [Ty.at, Option.bind_eq_some_iff, Option.map_eq_some_iff] at h
    obtain ⟨t, ht, ⟨u2, o2⟩, h1, h2⟩ := h
    cases h2
    have hle := at_le hp h1
    simp only [Ty.size] at hle
    have hil := (List.getElem?_eq_some_iff.1 ht).1
    simp only [Ty.modAt, Ty.put, modsAt_get, ht, Option.map_some, Option.bind_some]
    have ih := put_kill hp (p + Ty.sizes (l.take i)) h1
    rw [Nat.add_assoc] at ih
    rw [ih]
    simp only [Option.map_some, Option.some.injEq, Ty.agg.injEq]
    apply List.ext_getElem?
    intro j
    by_cases hj : i = j
    · subst hj
      rw [List.getElem?_set_self (by rw [modsAt_length]; exact hil)]
      exact ht.symm
    · rw [List.getElem?_set_ne hj, modsAt_get]
      cases hlj : l[j]? with
      | none => rfl
      | some u =>
        simp only [Option.map_some, Option.some.injEq]
        have hjl := (List.getElem?_eq_some_iff.1 hlj).1
        refine modAt_out _ _ _ fun q m h3 h4 => ?_
        unfold killAt
        rw [if_neg]
        rcases Nat.lt_or_gt_of_ne hj with hj | hj
        · have := at_le_after ht hj (by omega)
          omega
        · have := at_le_after hlj hj (by omega)
          omega
  | _ :: _, .sc, _, _, _, _, h => by simp [Ty.at] at h
  | _ :: _, .sl _ _, _, _, _, _, h => by simp [Ty.at] at h

theorem put_self : ∀ (q : List Nat) {t u : Ty} {o : Nat}, Ty.at q t = some (u, o) → Ty.put q t u = some t
  | [], t, u, o, h => by simp [Ty.at] at h; simp [Ty.put, h.1]
  | i :: q, .agg l, u, o, h => by
    simp only [Ty.at, Option.bind_eq_some_iff, Option.map_eq_some_iff] at h
    obtain ⟨t, ht, ⟨u2, o2⟩, h1, h2⟩ := h
    cases h2
    simp only [Ty.put, ht, Option.bind_some, put_self q h1, Option.map_some, Option.some.injEq, Ty.agg.injEq]
    obtain ⟨hlt, hv⟩ := List.getElem?_eq_some_iff.1 ht
    rw [← hv]; simp
  | _ :: _, .sc, _, _, h => by simp [Ty.at] at h
  | _ :: _, .sl _ _, _, _, h => by simp [Ty.at] at h

theorem put_er : ∀ (q : List Nat) {t u u' t' : Ty} {o : Nat}, Ty.at q t = some (u, o) → Ty.put q t u' = some t' → u.er = u'.er → t.er = t'.er
  | [], t, u, u', t', o, h, hp, he => by simp [Ty.at] at h; simp [Ty.put] at hp; rw [h.1, ← hp]; exact he
  | i :: q, .agg l, u, u', t', o, h, hp, he => by
    simp only [Ty.at, Option.bind_eq_some_iff, Option.map_eq_some_iff] at h
    obtain ⟨t, ht, ⟨u2, o2⟩, h1, h2⟩ := h
    cases h2
    simp only [Ty.put, Option.bind_eq_some_iff, Option.map_eq_some_iff] at hp
    obtain ⟨t2, ht2, t3, h3, rfl⟩ := hp
    rw [ht] at ht2; cases ht2
    have ih := put_er q h1 h3 he
    rw [Ty.er_agg, Ty.er_agg]
    congr 1
    obtain ⟨hlt, hv⟩ := List.getElem?_eq_some_iff.1 ht
    simp only [ers, List.map_set]
    rw [← ih, ← hv]
    apply List.ext_getElem?
    intro j
    by_cases hj : i = j
    · subst hj; rw [List.getElem?_set_self (by simpa using hlt)]; simp [hlt]
    · rw [List.getElem?_set_ne hj]
  | _ :: _, .sc, _, _, _, _, h, _, _ => by simp [Ty.at] at h
  | _ :: _, .sl _ _, _, _, _, _, h, _, _ => by simp [Ty.at] at h

section
variable {P : Program} {S0 S : Vw} {s s' : St} {n : Nat} {w0 : World} {O0 : OMap} {a : Act} {w : World} {O : OMap} {C : Env} {o : Oper} {d : Nat}

/-- **A block of a root is written.** -/
theorem Inv.write (inv : Inv S s n w0 O0 a w O) {r B : Nat} {ob : Obj} (hr : r < n) (hB : O B = some (.box r) ∨ ∃ p, O B = some (.own (some r) p)) {av' : AV} {hd : Bool} {x' : PV} (hx : x' ≠ .undef)
    (hv : VersOK (putUp S ⟨r, av', hd⟩) r) (hbp : ∀ ty, (S r).av = .box ty → ∃ ty', av' = .box ty' ∧ ty.er = ty'.er)
    (hep : hd = false → ∀ csr tyr, CellsOf a w S r csr → rootTy S r = some tyr → ∃ tyr', CellsOf a (putBlk w B ob) (putUp S ⟨r, av', hd⟩) r csr ∧ rootTy (putUp S ⟨r, av', hd⟩) r = some tyr' ∧ tyr.er = tyr'.er)
    (hok : CellOK (putUp S ⟨r, av', hd⟩) (s.set r x') O a (putBlk w B ob) r) : Inv (putUp S ⟨r, av', hd⟩) (s.set r x') n w0 O0 a (putBlk w B ob) O := by
  have hne : ∀ b, O b = none → b ≠ B := fun b hb e => by subst e; rcases hB with h | ⟨p, h⟩ <;> rw [hb] at h <;> cases h
  have hget : get (s.set r x') r = x' := by rw [get_set _ _ _ _ (by rw [inv.slen]; exact hr), if_pos rfl]
  have heq : putUp S ⟨r, av', hd⟩ r = ⟨av', (S r).c + 1, (if hd then (S r).h + 1 else (S r).h), (S r).d⟩ := by simp [putUp]
  have ch : Ch S (putUp S ⟨r, av', hd⟩) s (s.set r x') O O a a w (putBlk w B ob) (· = r) := by
    refine ⟨fun b hb => ⟨hb, putBlk_other (hne b hb)⟩, fun b r' p hb hr' => ⟨rfl, putBlk_other fun e => ?_⟩, fun b r' hb hr' => ⟨rfl, putBlk_other fun e => ?_⟩, fun i hi => ?_, fun i hi => ?_, fun i hi h ty hty hgi => ?_, fun i hi h csr tyr hc ht hg => ?_⟩
    · subst e
      rcases hB with h | ⟨q, h⟩ <;> rw [hb] at h <;> cases h
      exact hr' rfl
    · subst e
      rcases hB with h | ⟨q, h⟩ <;> rw [hb] at h <;> cases h
      exact hr' rfl
    · refine ⟨putUp_ne hi, ?_, rfl⟩
      rw [get_set _ _ _ _ (by rw [inv.slen]; exact hr), if_neg hi]
    · subst hi
      rw [heq]
      refine ⟨by simp, ?_, by simp⟩
      cases hd <;> simp
    · subst hi
      obtain ⟨ty', h1, h2⟩ := hbp ty hty
      exact ⟨ty', by rw [heq]; exact h1, h2, by rw [hget]; exact hx, rfl⟩
    · subst hi
      have hf : hd = false := by
        cases hd with
        | false => rfl
        | true => rw [heq] at h; simp at h
      obtain ⟨tyr', h1, h2, h3⟩ := hep hf csr tyr hc ht
      exact ⟨by rw [hget]; exact hx, tyr', h1, h2, h3⟩
  refine ch.inv inv (fun i hi => by subst hi; exact hr) inv.size (by simp [inv.slen]) inv.defers ?_ (fun i hi => by subst hi; exact hv) (fun i hi ty _ => by subst hi; rw [hget]; exact hx) (fun i hi => by subst hi; exact .inr hok) (fun i hi _ _ h => by subst hi; rw [hget] at h; exact absurd h hx)
  exact {
    os := inv.frame.os
    output := inv.frame.output
    tape := inv.frame.tape
    size := by rw [putBlk_size]; exact inv.frame.size
    heap := fun b hb ho => by
      have h1 := inv.frame.heap b hb ho
      refine ⟨?_, h1.2⟩
      rw [putBlk_other]
      · exact h1.1
      · intro e; subst e
        rw [h1.2] at hB
        rcases hB with h | ⟨q, h⟩ <;> rcases ho with ho | ho <;> rw [ho] at h <;> cases h
    alloc := fun b hb => inv.frame.alloc b (by rw [putBlk_size] at hb; exact hb) }

/-- the content of a root that is a value or a box -/
theorem content_rep (inv : Inv S s n w0 O0 a w O) {r : Nat} {tv : Ty} (hav : (S r).av = .val tv ∨ (S r).av = .box tv) (hne : get s r ≠ .undef) {csr : List Value} (hc : CellsOf a w S r csr) : r < n ∧ Rep w O (some r) tv 0 (get s r) csr := by
  have hlt : r < n := lt_of_alive inv (by rcases hav with h | h <;> rw [h] <;> simp)
  refine ⟨hlt, ?_⟩
  have hok := (inv.cell r hlt).resolve_left hne
  unfold CellsOf at hc
  unfold CellOK at hok
  rcases hav with h | h <;> rw [h] at hc hok <;> simp only [] at hc hok
  · obtain ⟨cs, h1, h2⟩ := hok
    have := Wrap.unique h1 hc; subst this; exact h2
  · obtain ⟨b, o', cs, q1, q2, q3, q4⟩ := hok
    obtain ⟨b', o2, q5, q6⟩ := hc
    rw [q1] at q5; cases q5
    obtain ⟨c, el, fr, z1, z2, z3, z4⟩ := q3
    obtain ⟨c', el', fr', z1', z2', z3', z4'⟩ := q6
    rw [z1] at z1'; cases z1'
    rw [z4', ← z4]; exact q4

/-- **An owned row is written**: its header stays. -/
theorem write_row (inv : Inv S s n w0 O0 a w O) {r : Nat} {hp : List Nat} {tv e : Ty} {pos : Nat} (hav : (S r).av = .val tv ∨ (S r).av = .box tv) (hat : Ty.at hp tv = some (.sl .own e, pos)) {csr : List Value} (hcs : CellsOf a w S r csr) (hne : get s r ≠ .undef)
    {b off len cap : Nat} (hc : csr[pos]? = some (.slice (some ⟨b, off, none⟩) len cap)) (hlc : len ≤ cap)
    {c c' : Array Value} {el : TypeId} {fr : Nat × Nat} (hb : w.heap[b]? = some (.cells c el fr)) (hO : O b = some (.own (some r) pos)) (hbd : off + cap * e.size ≤ c.size) (hf : Free fr c.size)
    {ys : List PV} (hsz : c'.size = c.size) (hlen : ys.length = len) (hrow : ∀ i y, ys[i]? = some y → RepSh w O e y (cellsAt c' (off + i * e.size) e.size)) :
    ∃ x', setP hp (get s r) (.slice false ys) = some x' ∧ Inv (putUp S ⟨r, (S r).av, false⟩) (s.set r x') n w0 O0 a (putBlk w b (.cells c' el fr)) O := by
  obtain ⟨hrn, hrep⟩ := content_rep inv hav hne hcs
  have hlt := (Array.getElem?_eq_some_iff.1 hb).1
  have hk : Keeps w O (putBlk w b (.cells c' el fr)) O := fun k hk => ⟨hk, putBlk_other fun e => by subst e; rw [hO] at hk; cases hk⟩
  have hpl : pos < tv.size := by have := at_le hp hat; simp only [Ty.size] at this; omega
  have hdead : Rep (putBlk w b (.cells c' el fr)) O (some r) (tv.modAt (killAt pos) 0) 0 (get s r) csr := by
    refine Rep.turnAt hk (killAt pos) (fun q m => ?_) (fun q hq => ?_) hrep
    · unfold killAt; split
      · cases m <;> rfl
      · exact leMd_refl m
    · unfold killAt
      split
      · trivial
      · rename_i hqp
        intro k hk2
        refine ⟨hk2, putBlk_other fun e => ?_⟩
        subst e
        have hk2 : O _ = _ := hk2
        rw [hO] at hk2
        injection hk2 with hk2; injection hk2 with _ hk2
        omega
  obtain ⟨u', hat', hue⟩ := Ty.at_er hp (Ty.er_modAt (killAt pos) tv).symm hat
  obtain ⟨m', rfl⟩ := Ty.er_sl (m' := .own) hue
  have hput := put_kill hp 0 hat
  rw [Nat.zero_add] at hput
  have hnew : Rep (putBlk w b (.cells c' el fr)) O (some r) (.sl .own e) (0 + pos) (.slice false ys) [.slice (some ⟨b, off, none⟩) len cap] := by
    simp only [Rep, SlRep, OwnSl]
    refine ⟨false, ys, rfl, .inr ⟨rfl, ⟨b, off, none⟩, cap, by rw [hlen], rfl, by omega, .inr ⟨by rw [Nat.zero_add]; exact hO, c', el, fr, putBlk_heap hlt, by rw [hsz]; exact hbd, by rw [hsz]; exact hf, fun i y hy => ?_⟩⟩⟩
    exact RepSh.keep hk (hrow i y hy)
  obtain ⟨x', h1, h2, _⟩ := Rep.put hp hat' hput (by simp [Ty.size]) hdead hnew
  have hcsr : csr.take pos ++ ([.slice (some ⟨b, off, none⟩) len cap] ++ csr.drop (pos + Ty.size (.sl m' e))) = csr := by
    obtain ⟨hlt', hv⟩ := List.getElem?_eq_some_iff.1 hc
    simp only [Ty.size]
    rw [← hv]
    have := List.take_append_drop pos csr
    rw [List.drop_eq_getElem_cons hlt'] at this
    first | exact this | (simp at this; exact this)
  rw [hcsr] at h2
  have hx' : x' ≠ .undef := fun he => by
    subst he
    cases tv with
    | sc => simp [Rep, ScRep] at h2
    | agg l => simp only [Rep] at h2; obtain ⟨xs, h, _⟩ := h2; cases h
    | sl m2 e2 =>
      cases hp with
      | nil => simp [Ty.at] at hat; obtain ⟨⟨rfl, rfl⟩, _⟩ := hat; simp [Rep, SlRep, OwnSl] at h2
      | cons i hp => simp [Ty.at] at hat
  refine ⟨x', h1, inv.write hrn (.inr ⟨pos, hO⟩) hx' ?_ ?_ ?_ ?_⟩
  · unfold VersOK; rw [show (putUp S ⟨r, (S r).av, false⟩ r).av = (S r).av from by simp [putUp]]
    rcases hav with h | h <;> rw [h] <;> trivial
  · intro ty hty; exact ⟨ty, hty, rfl⟩
  · intro _ csr2 tyr hc2 ht2
    refine ⟨tyr, ?_, ?_, rfl⟩
    · unfold CellsOf at hc2 ⊢
      rw [show (putUp S ⟨r, (S r).av, false⟩ r).av = (S r).av from by simp [putUp]]
      rcases hav with h | h <;> rw [h] at hc2 ⊢ <;> simp only [] at hc2 ⊢
      · exact hc2
      · obtain ⟨b2, o2, q1, q2⟩ := hc2
        refine ⟨b2, o2, q1, q2.keep (putBlk_other fun e => ?_)⟩
        have hok := (inv.cell r hrn).resolve_left hne
        unfold CellOK at hok
        rw [h] at hok
        obtain ⟨b3, o3, cs3, z1, z2, _⟩ := hok
        rw [q1] at z1; cases z1
        rw [e, hO] at z2; cases z2
    · unfold rootTy at ht2 ⊢
      rw [show (putUp S ⟨r, (S r).av, false⟩ r).av = (S r).av from by simp [putUp]]
      exact ht2
  · unfold CellOK
    rw [show (putUp S ⟨r, (S r).av, false⟩ r).av = (S r).av from by simp [putUp]]
    have hget : get (s.set r x') r = x' := by rw [get_set _ _ _ _ (by rw [inv.slen]; exact hrn), if_pos rfl]
    unfold CellsOf at hcs
    rcases hav with h | h <;> rw [h] at hcs ⊢ <;> simp only [] at hcs ⊢
    · exact ⟨csr, hcs, by rw [hget]; exact h2⟩
    · obtain ⟨b2, o2, q1, q2⟩ := hcs
      have hok := (inv.cell r hrn).resolve_left hne
      unfold CellOK at hok
      rw [h] at hok
      obtain ⟨b3, o3, cs3, z1, z2, _⟩ := hok
      rw [q1] at z1; cases z1
      refine ⟨b2, o2, csr, q1, z2, q2.keep (putBlk_other fun e => ?_), by rw [hget]; exact h2⟩
      rw [e, hO] at z2; cases z2

/-- what a change of modes leaves -/
inductive Shp : AV → AV → Prop
  | refl (x : AV) : Shp x x
  | box (t t' : Ty) : t.er = t'.er → Shp (.box t) (.box t')
  | val (t t' : Ty) : t.er = t'.er → Shp (.val t) (.val t')
  | tup (x y : List Ty) : Shp (.tup x) (.tup y)

theorem setOwn_shp {r0 pos k : Nat} {m : Md} {u : Up} (h : setOwn S r0 pos k m = some u) (r : Nat) : Shp (S r).av (putUps S [u] r).av := by
  obtain ⟨hr, _, hc⟩ := setOwn_cases h
  simp only [putUps]
  by_cases hi : r = u.root
  · subst hi
    rw [putUp_eq]
    simp only []
    rw [hr]
    rcases hc with ⟨ty, h1, h2⟩ | ⟨ty, h1, h2⟩ | ⟨ty, h1, h2⟩ <;> rw [h1, h2]
    · exact .val _ _ (Ty.er_modAt _ _).symm
    · exact .box _ _ (Ty.er_modAt _ _).symm
    · exact .tup _ _
  · rw [putUp_ne hi]; exact .refl _

theorem share_shp (hS : Sub S0 S) {ty : Ty} {org : Org} {us : List Up} (h : share S0 ty org = some us) (r : Nat) : Shp (S r).av (putUps S us r).av := by
  unfold share at h
  split at h
  · cases h; exact .refl _
  · split at h
    · cases h; exact .refl _
    · simp only [Option.map_eq_some_iff] at h
      obtain ⟨u, hu, rfl⟩ := h
      exact setOwn_shp (take_sound'.setOwn_view hS hu).1 r

theorem take_shp (hS : Sub S0 S) {d : Option Nat} {keep : Nat → Bool} {ty ty' : Ty} {org : Org} {us : List Up} (h : take S0 d keep ty org = some (us, ty')) (r : Nat) : Shp (S r).av (putUps S us r).av := by
  unfold take at h
  split at h
  · cases h; exact .refl _
  · split at h
    · cases h; exact .refl _
    · split at h
      · cases h; exact .refl _
      · split at h <;>
        · simp only [Option.map_eq_some_iff] at h
          obtain ⟨u, hu, h⟩ := h
          cases h
          exact setOwn_shp (take_sound'.setOwn_view hS hu).1 r

/-- a part of a box is written -/
theorem store_box (inv : Inv S s n w0 O0 a w O) {r : Nat} {tb tb' u1 ty ty1 : Ty} {q : List Nat} {b o' off : Nat} (hav : (S r).av = .box tb) (hne : get s r ≠ .undef) (hval : val a r = .pointer (some ⟨b, o', none⟩)) (hat : Ty.at q tb = some (u1, off)) (hput : Ty.put q tb ty1 = some tb')
    (he : u1.er = ty1.er) (hnd : ty1.noDead = true) {pv z : PV} {cs : List Value} (hrep : Rep w O (some r) ty1 off pv cs) (hz : setP q (get s r) pv = some z) {t : TypeId} (ht : tyOf P t = some ty.sh) (hte : ty.er = ty1.er) {v : Value} (hw : Wrap ty v cs) (hone : ∀ u ∈ cs, oneCell u) :
    ∃ w', (storeVar t ⟨b, o' + off, none⟩ v).run P w = .ok () w' ∧ Inv (putUp S ⟨r, .box tb', true⟩) (s.set r z) n w0 O0 a w' O := by
  have hrn : r < n := lt_of_alive inv (by rw [hav]; simp)
  have hok := (inv.cell r hrn).resolve_left hne
  unfold CellOK at hok
  rw [hav] at hok
  obtain ⟨b2, o2, cs0, q1, q2, ⟨c, el, fr, c1, c2, c3, c4⟩, q4⟩ := hok
  rw [hval] at q1; cases q1
  have hszu : ty1.size = u1.size := (Ty.size_of_er he).symm
  have hszt : ty.sh.size = u1.size := by rw [← hszu]; exact Ty.size_of_er (by rw [sh_er]; exact hte)
  have hle := at_le q hat
  have hcl : cs.length = u1.size := by rw [Rep.length hrep, hszu]
  obtain ⟨x', h1, h2, h3⟩ := Rep.put q hat hput hszu q4 (by rw [Nat.zero_add]; exact hrep)
  rw [hz] at h1; cases h1
  have hrun := run_storeVar_ty (P := P) ht (by rw [sh_er]) c1 (o := o' + off) hw (by rw [hcl, hszt]) (by rw [hszt]; omega) c3 hone
  have hlt := (Array.getElem?_eq_some_iff.1 c1).1
  refine ⟨_, hrun, inv.write hrn (.inl q2) ?_ ?_ ?_ (fun h => by cases h) ?_⟩
  · intro hu; subst hu
    cases q with
    | nil => simp only [setP, Option.some.injEq] at hz; subst hz; exact Rep.noUndef hnd hrep
    | cons i q => cases hg : get s r <;> rw [hg] at hz <;> simp [setP, Option.bind_eq_some_iff, Option.map_eq_some_iff] at hz
  · unfold VersOK; rw [show (putUp S ⟨r, .box tb', true⟩ r).av = .box tb' from by simp [putUp]]; trivial
  · intro ty0 hty0
    rw [hav] at hty0; cases hty0
    exact ⟨tb', rfl, put_er q hat hput he⟩
  · unfold CellOK
    rw [show (putUp S ⟨r, .box tb', true⟩ r).av = .box tb' from by simp [putUp]]
    have hget : get (s.set r z) r = z := by rw [get_set _ _ _ _ (by rw [inv.slen]; exact hrn), if_pos rfl]
    refine ⟨b, o', cs0.take off ++ (cs ++ cs0.drop (off + u1.size)), hval, q2, ⟨splice c (o' + off) cs, el, fr, putBlk_heap hlt, ?_, ?_, ?_⟩, ?_⟩
    · rw [splice_size (by omega), h3]; exact c2
    · rw [splice_size (by omega)]; exact c3
    · rw [h3, cellsAt_splice_in c2 (by omega), ← c4, hcl]
    · rw [hget]
      exact Rep.move (fun k hk => ⟨hk, putBlk_other fun e => by subst e; rw [q2] at hk; cases hk⟩) (fun p k _ hk => ⟨hk, putBlk_other fun e => by subst e; rw [q2] at hk; cases hk⟩) h2

end
end Go.Vm
