/-
  A verified evaluator of the program's functions by value, part 4.
  Conditions: none.
-/
import Derived.Test.YtaldhebldjphbaaVmC

/-
  Stores and copies.
  Conditions: none.
-/
set_option linter.unusedVariables false
set_option linter.unusedSimpArgs false
namespace Go.Vm

section
variable {P : Program} {S0 S : Vw} {s s' : St} {n : Nat} {w0 : World} {O0 : OMap} {a : Act} {w : World} {O : OMap} {C : Env} {o : Oper} {d : Nat}

theorem store_run {r : Nat} {p : Option Nat} {x : VX} {dd : Option Nat} (h : (VRhs.store r p x).run C s dd = some s') : ∃ v q z, x.eval s = some v ∧ pathAt s p = some q ∧ get s r ≠ .undef ∧ setP q (get s r) v = some z ∧ s' = s.set r z := by
  simp only [VRhs.run, Option.bind_eq_some_iff, Option.map_eq_some_iff] at h
  obtain ⟨v, h1, q, h2, y, h3, z, h4, rfl⟩ := h
  obtain ⟨g1, g2⟩ := have_some h3
  subst g2
  exact ⟨v, q, z, h1, h2, g1, h4, rfl⟩

theorem putUps_one (S : Vw) (us : List Up) (u : Up) : putUps S (us ++ [u]) = putUp (putUps S us) u := by
  rw [putUps_append]; rfl

theorem store_exec {t : TypeId} {x y : Operand} (ho : o.op = .store t x y) {ad : Addr} (hx : a.eval x = .pointer (some ad)) {w' : World} (h : (storeVar t ad (a.eval y)).run P w = .ok () w') : (execOp a.eval o).run P w = .ok .skip w' := by
  simp [execOp, ho, Instr.storeAt, Instr.sureAddr, hx, h]

theorem store_b_fin (inv : Inv S s n w0 O0 a w O) {S1 : Vw} {O1 : OMap} {us : List Up} (inv1 : Inv (putUps S us) s n w0 O0 a w O1) (hS1 : Sub (putUps S0 us) (putUps S us)) {t : TypeId} {x y : Operand} (ho : o.op = .store t x y) {r : Nat} {tb tb' u1 ty ty1 : Ty} {q : List Nat} {b o' off : Nat}
    (hx : a.eval x = .pointer (some ⟨b, o' + off, none⟩)) (hav0 : (putUps S0 us r).av = .box tb) (hne : get s r ≠ .undef) (hval : val a r = .pointer (some ⟨b, o', none⟩)) (hat : Ty.at q tb = some (u1, off)) (hput : Ty.put q tb ty1 = some tb') (he : u1.er = ty1.er) (hnd : ty1.noDead = true)
    {pv z : PV} {cs : List Value} (hrep : Rep w O1 (some r) ty1 off pv cs) (hz : setP q (get s r) pv = some z) (ht : tyOf P t = some ty.sh) (hte : ty.er = ty1.er) (hw : Wrap ty (a.eval y) cs) :
    ∃ w' O', Done P o a w undef w' ∧ Inv (putUps S (us ++ [⟨r, .box tb', true⟩])) (s.set r z) n w0 O0 a w' O' := by
  have hav : (putUps S us r).av = .box tb := by rw [← hS1.alive (by rw [hav0]; simp)]; exact hav0
  obtain ⟨w', h1, h2⟩ := store_box (P := P) inv1 hav hne hval hat hput he hnd hrep hz ht hte hw (Rep.one hnd hrep)
  rw [putUps_one]
  exact ⟨w', O1, .inr ⟨store_exec ho hx h1, rfl⟩, h2⟩

theorem RepSh.put {q : List Nat} {t u : Ty} {off : Nat} {x y : PV} {cs c' : List Value} (ha : Ty.at q t = some (u, off)) (h : RepSh w O t x cs) (h' : RepSh w O u y c') :
    ∃ x', setP q x y = some x' ∧ RepSh w O t x' (cs.take off ++ (c' ++ cs.drop (off + u.size))) := by
  have h1 := (RepSh.rep (w := w) (O := O) none 0 (Ty.er_isSh t)).1 ((RepSh.er 0).1 h)
  obtain ⟨u', ha', he⟩ := Ty.at_er (t' := t.er) q (isSh_er (Ty.er_isSh t)).symm ha
  have hu' : u'.isSh = true := at_isSh q (Ty.er_isSh t) ha'
  have h2 : RepSh w O u' y c' := by
    have h5 := (RepSh.er (t := u) 0).1 h'
    have h6 : u.modAt (fun _ _ => .sh) 0 = u'.modAt (fun _ _ => .sh) 0 := he
    rw [h6] at h5
    exact (RepSh.er 0).2 h5
  obtain ⟨x', g1, g2, _⟩ := Rep.put q ha' (put_self q ha') rfl h1 ((RepSh.rep none _ hu').1 h2)
  refine ⟨x', g1, (RepSh.er 0).2 ((RepSh.rep none 0 (Ty.er_isSh t)).2 ?_)⟩
  rw [Ty.size_of_er he]; exact g2
where
  at_isSh : ∀ (q : List Nat) {t u : Ty} {o : Nat}, t.isSh = true → Ty.at q t = some (u, o) → u.isSh = true
    | [], t, u, o, hs, h => by simp [Ty.at] at h; rw [← h.1]; exact hs
    | i :: q, .agg l, u, o, hs, h => by
      simp only [Ty.at, Option.bind_eq_some_iff, Option.map_eq_some_iff] at h
      obtain ⟨t, ht, ⟨u2, o2⟩, h1, h2⟩ := h
      cases h2
      exact at_isSh q (alls_get (by simpa only [Ty.isSh, Ty.all] using hs) ht) h1
    | _ :: _, .sc, _, _, _, h => by simp [Ty.at] at h
    | _ :: _, .sl _ _, _, _, _, h => by simp [Ty.at] at h
  alls_get {f : Md → Bool} : ∀ {l : List Ty} {i : Nat} {t : Ty}, Ty.alls f l = true → l[i]? = some t → t.all f = true
    | [], i, t, _, h => by simp at h
    | x :: l, 0, t, hs, h => by simp at h; subst h; simp only [Ty.alls, Bool.and_eq_true] at hs; exact hs.1
    | x :: l, i + 1, t, hs, h => by simp only [Ty.alls, Bool.and_eq_true] at hs; exact alls_get hs.2 (by simpa using h)

theorem store_sound (hS : Sub S0 S) (inv : Inv S s n w0 O0 a w O) {keep : Nat → Bool} {t : TypeId} {x y : Operand} (ho : o.op = .store t x y) {rhs : VRhs} {av : AV} {us : List Up} (h : chkStore P S0 keep t x y = some (rhs, av, us)) {dd : Option Nat} (hr : rhs.run C s dd = some s') :
    ∃ w' O', Done P o a w undef w' ∧ Inv (putUps S us) s' n w0 O0 a w' O' := by
  unfold chkStore at h
  simp only [Option.bind_eq_some_iff] at h
  obtain ⟨⟨r, k, i⟩, h1, ⟨v, ty, org⟩, h2, h⟩ := h
  simp only [] at h
  obtain ⟨hc, h⟩ := if_some h
  simp only [Bool.and_eq_true, beq_iff_eq] at hc
  obtain ⟨hm, hpt⟩ := hc
  have hm := matchesTy_some hm
  simp only [Option.map_eq_some_iff] at hpt
  obtain ⟨tp, hpt, hpe⟩ := hpt
  have hpe := Ty.beq_eq hpe
  cases k with
  | b p =>
    simp only [] at h
    cases hst : static p with
    | some p' =>
      rw [hst] at h
      simp only [Option.bind_eq_some_iff] at h
      obtain ⟨⟨e, ty'⟩, htk, h⟩ := h
      simp only [] at h
      split at h
      case h_2 => cases h
      case h_1 tb hav0 =>
      simp only [Option.map_eq_some_iff] at h
      obtain ⟨tb', hput, h⟩ := h
      cases h
      obtain ⟨pv, q, z, e1, hq, hne, hz, rfl⟩ := store_run hr
      obtain ⟨ty0, b, o', u, off, hSr, hav, hx, hval, hmp, hat⟩ := rdP_b hS inv h1 hq hne
      have := static_match hst hmp
      subst this
      obtain ⟨cs, g1, g2, g3⟩ := rd_sound hS inv h2 e1
      obtain ⟨O1, inv1, k1, k2, k3, k4, _⟩ := take_sound' hS inv htk g3 g2 r off (fun d' hd' => by cases hd')
      have hshp := take_shp hS htk r
      have hav1 : (putUps S e r).av = .box tb := by rw [← k3.alive (by rw [hav0]; simp)]; exact hav0
      rw [hav, hav1] at hshp
      have her : ty0.er = tb.er := by cases hshp with
        | refl => rfl
        | box _ _ h => exact h
      obtain ⟨u1, hat1, hu1⟩ := Ty.at_er p' her hat
      simp only [ptrTy, hSr, hav] at hpt
      have := atAny_at hmp hpt hat
      subst this
      exact store_b_fin inv (S1 := S) inv1 k3 ho hx hav0 hne hval hat1 hput (by rw [← hu1, hpe, k2]) k4 k1 hz hm k2 g1
    | none =>
      rw [hst] at h
      simp only [Option.bind_eq_some_iff] at h
      obtain ⟨e, hsh, h⟩ := h
      split at h
      case h_2 => cases h
      case h_1 tb hav0 =>
      obtain ⟨hany, h⟩ := if_some h
      cases h
      cases hta : Ty.atAny p tb with
      | none => rw [hta] at hany; simp at hany
      | some ta =>
      rw [hta] at hany
      simp only [Option.any_some] at hany
      obtain ⟨pv, q, z, e1, hq, hne, hz, rfl⟩ := store_run hr
      obtain ⟨ty0, b, o', u, off, hSr, hav, hx, hval, hmp, hat⟩ := rdP_b hS inv h1 hq hne
      obtain ⟨cs, g1, g2, g3⟩ := rd_sound hS inv h2 e1
      obtain ⟨O1, inv1, k1, k3, _⟩ := share_sound hS inv hsh g3 g2
      have hshp := share_shp hS hsh r
      have hav1 : (putUps S e r).av = .box tb := by rw [← k3.alive (by rw [hav0]; simp)]; exact hav0
      rw [hav, hav1] at hshp
      have her : ty0.er = tb.er := by cases hshp with
        | refl => rfl
        | box _ _ h => exact h
      obtain ⟨u1, hat1, hu1⟩ := Ty.at_er q her hat
      simp only [ptrTy, hSr, hav] at hpt
      have := atAny_at hmp hpt hat
      subst this
      have := atAny_at hmp hta hat1
      subst this
      have hue : u1.er = ty.er := by rw [← hu1, hpe]
      have hrep : Rep w O1 (some r) u1 off pv cs := by
        refine (RepSh.rep (some r) off hany).1 ?_
        have h5 := (RepSh.er (t := ty) 0).1 k1
        have h6 : ty.modAt (fun _ _ => .sh) 0 = u1.modAt (fun _ _ => .sh) 0 := hue.symm
        rw [h6] at h5
        exact (RepSh.er 0).2 h5
      exact store_b_fin inv (S1 := S) inv1 k3 ho hx hav0 hne hval hat1 (put_self q hat1) rfl (noDead_of_isSh hany) hrep hz hm hue.symm g1
  | e hp p =>
    simp only [Option.bind_eq_some_iff] at h
    obtain ⟨e, hsh, tr, htr, h⟩ := h
    have hmain : ∃ te pos tv, Ty.at hp tv = some (.sl .own te, pos) ∧ ((putUps S0 e r).av = .val tv ∨ (putUps S0 e r).av = .box tv) ∧ rhs = .store r i v ∧ us = e ++ [⟨r, (putUps S0 e r).av, false⟩] := by
      split at h
      · rename_i te pos tv hat hav0
        cases h
        simp only [rootTy, hav0, Option.some.injEq] at htr; subst htr
        exact ⟨te, pos, tv, hat, .inl hav0, rfl, by rw [hav0]⟩
      · rename_i te pos tv hat hav0
        cases h
        simp only [rootTy, hav0, Option.some.injEq] at htr; subst htr
        exact ⟨te, pos, tv, hat, .inr hav0, rfl, by rw [hav0]⟩
      · cases h
    obtain ⟨te, pos, tv, hat, hav0, rfl, rfl⟩ := hmain
    obtain ⟨pv, q, z, e1, hq, hne, hz, rfl⟩ := store_run hr
    obtain ⟨j, ip, tyr, csr, m', e', pos', ad, len, cap, u', off, k0, rfl, k2, k3, k4, k5, k6, k7, k8, k9, k10, k11⟩ := rdP_e hS inv h1 hq
    obtain ⟨cs, g1, g2, g3⟩ := rd_sound hS inv h2 e1
    obtain ⟨O1, inv1, j1, j3, _⟩ := share_sound hS inv hsh g3 g2
    have hshp := share_shp hS hsh r
    have hal : (putUps S0 e r).av ≠ .dead := by rcases hav0 with h | h <;> rw [h] <;> simp
    have hSe := j3.alive hal
    rw [hSe] at hav0
    rw [hSe]
    -- the cells of the root, in the new state
    have hcells : CellsOf a w (putUps S e) r csr ∧ tyr.er = tv.er := by
      unfold CellsOf at k5 ⊢
      unfold rootTy at k4
      rcases hav0 with h | h <;> rw [h] at hshp ⊢ <;> generalize hsr : (S r).av = avr at hshp k4 k5 <;> cases hshp
      · simp only [Option.some.injEq] at k4; subst k4; exact ⟨k5, rfl⟩
      · rename_i t0 he; simp only [Option.some.injEq] at k4; subst k4; exact ⟨k5.er he, he⟩
      · simp only [Option.some.injEq] at k4; subst k4; exact ⟨k5, rfl⟩
      · rename_i t0 he
        simp only [Option.some.injEq] at k4; subst k4
        simp only [] at k5 ⊢
        rw [← Ty.size_of_er he]
        exact ⟨k5, he⟩
    obtain ⟨hcs1, her⟩ := hcells
    obtain ⟨t2, hat2, hte⟩ := Ty.at_er hp her k6
    rw [hat] at hat2
    cases hat2
    have hee : e' = te := by simp [Ty.er, Ty.modAt] at hte; exact hte
    subst hee
    obtain ⟨hrn, hroot⟩ := content_rep inv1 hav0 hne hcs1
    obtain ⟨xs, z1, z2, z3, z4⟩ := header_rep hroot hat (by simp) k7
    simp only [Rep, SlRep, OwnSl] at z4
    obtain ⟨nl', xs', hxx, hcase⟩ := z4
    cases hxx
    rcases hcase with ⟨h, _⟩ | ⟨_, ad2, cap2, y1, y2, y3, y4⟩
    · cases h
    simp only [List.cons.injEq, and_true, Value.slice.injEq, Option.some.injEq] at y1
    obtain ⟨y1a, y1b, y1c⟩ := y1
    subst y1a; subst y1c
    rcases y4 with y4 | ⟨y5, c, el, fr, c1, c2, c3, c4⟩
    · omega
    rw [Nat.zero_add] at y5
    -- the element
    have hjx : j < xs.length := by omega
    have hz' := hz
    rw [setP_append _ _ _ _ _ z1] at hz'
    simp only [setP, Option.map_eq_some_iff, Option.bind_eq_some_iff] at hz'
    obtain ⟨zr, ⟨xj, hxj, zj, hzj, rfl⟩, hzz⟩ := hz'
    obtain ⟨b, off0, sp⟩ := ad
    simp only at k8; subst k8
    simp only at c1 c2 c4 y5
    have hrow := c4 j xj hxj
    have hle := at_le ip k10
    have hmul : (j + 1) * e'.size ≤ cap * e'.size := Nat.mul_le_mul_right _ (by omega)
    rw [Nat.succ_mul] at hmul
    -- types
    have hpt' := hpt
    obtain ⟨hfr, hpt'⟩ := ptrTy_e hpt'
    have hrt : rootTy S0 r = some tyr := by rw [rootTy_eq k0]; exact k4
    simp only [hrt, Option.bind_some, k6] at hpt'
    split at hpt'
    case isTrue => cases hpt'
    case isFalse hmd =>
    have := atAny_at k2 hpt' k10
    subst this
    have hcl : cs.length = u'.size := by rw [RepSh.length j1]; exact Ty.size_of_er hpe.symm
    have hels : RepSh w O1 u' pv cs := by
      have h5 := (RepSh.er (t := ty) 0).1 j1
      have h6 : ty.modAt (fun _ _ => .sh) 0 = u'.modAt (fun _ _ => .sh) 0 := hpe.symm
      rw [h6] at h5
      exact (RepSh.er 0).2 h5
    obtain ⟨x2, q1, q2⟩ := RepSh.put k10 hrow hels
    rw [hzj] at q1; cases q1
    have hszt : ty.sh.size = u'.size := Ty.size_of_er (by rw [sh_er]; exact hpe.symm)
    have hone : ∀ u ∈ cs, oneCell u := by
      have h7 := (RepSh.rep (w := w) (O := O1) none 0 (Ty.er_isSh ty)).1 ((RepSh.er 0).1 j1)
      exact Rep.one (noDead_of_isSh (Ty.er_isSh ty)) h7
    have hin : off0 + (j * e'.size + off) + cs.length ≤ c.size := by omega
    have hrun := run_storeVar_ty (P := P) (w := w) hm (sh_er ty) c1 (o := off0 + (j * e'.size + off)) g1 (by rw [hcl, hszt]) (by rw [hszt, ← hcl]; exact hin) c3 hone
    obtain ⟨x', w1, w2⟩ := write_row inv1 hav0 hat hcs1 hne k7 (by omega) c1 y5 c2 c3 (c' := splice c (off0 + (j * e'.size + off)) cs) (ys := xs.set j zj) (splice_size hin) (by simpa using z2) (fun i y hy => by
      by_cases hij : j = i
      · subst hij
        rw [List.getElem?_set_self hjx] at hy
        cases hy
        have : off0 + (j * e'.size + off) = off0 + j * e'.size + off := by omega
        rw [this, cellsAt_splice_in (by omega) (by omega)]
        rw [hcl]
        exact q2
      · rw [List.getElem?_set_ne hij] at hy
        have hil := (List.getElem?_eq_some_iff.1 hy).1
        rw [cellsAt_splice_other hin]
        · exact c4 i y hy
        · rcases Nat.lt_or_gt_of_ne hij with h | h
          · right
            have : (j + 1) * e'.size ≤ i * e'.size := Nat.mul_le_mul_right _ h
            rw [Nat.succ_mul] at this; omega
          · left
            have : (i + 1) * e'.size ≤ j * e'.size := Nat.mul_le_mul_right _ h
            rw [Nat.succ_mul] at this; omega)
    rw [hzz] at w1; cases w1
    rw [putUps_one]
    exact ⟨_, O1, .inr ⟨store_exec ho k11 hrun, rfl⟩, w2⟩
where
  setP_append : ∀ (p q : List Nat) (x y v : PV), getP p x = some y → setP (p ++ q) x v = (setP q y v).bind fun z => setP p x z
    | [], q, x, y, v, h => by simp [getP] at h; subst h; simp [setP]
    | i :: p, q, .agg xs, y, v, h => by
      simp only [getP, Option.bind_eq_some_iff] at h
      obtain ⟨z, h1, h2⟩ := h
      simp only [List.cons_append, setP, h1, Option.bind_some, setP_append p q z y v h2]
      cases setP q y v <;> simp
    | i :: p, q, .slice nl xs, y, v, h => by
      simp only [getP, Option.bind_eq_some_iff] at h
      obtain ⟨z, h1, h2⟩ := h
      simp only [List.cons_append, setP, h1, Option.bind_some, setP_append p q z y v h2]
      cases setP q y v <;> simp
    | _ :: _, _, .undef, _, _, h => by simp [getP] at h
    | _ :: _, _, .bool _, _, _, h => by simp [getP] at h
    | _ :: _, _, .int _ _, _, _, h => by simp [getP] at h
    | _ :: _, _, .str _, _, _, h => by simp [getP] at h
    | _ :: _, _, .tup _, _, _, h => by simp [getP] at h
    | _ :: _, _, .ptr _, _, _, h => by simp [getP] at h

end
end Go.Vm

/-
  Copies; and every operation but a call of a function.
  Conditions: none.
-/
set_option linter.unusedVariables false
set_option linter.unusedSimpArgs false
namespace Go.Vm

def defO (S : Vw) (d : Option Nat) (av : AV) : Vw := match d with
  | some d => defV S d av
  | none => S

def DefdO (P : Program) (S : Vw) (s' : St) (n : Nat) (w0 : World) (O0 : OMap) (a : Act) (w : World) (o : Oper) (d : Option Nat) (av : AV) : Prop :=
  ∃ v w' O', Done P o a w v w' ∧ Inv (defO S d av) s' n w0 O0 (a.put d v) w' O'

section
variable {P : Program} {S0 S : Vw} {s s' : St} {n : Nat} {w0 : World} {O0 : OMap} {a : Act} {w : World} {O : OMap} {C : Env} {o : Oper} {d : Nat}

theorem ownTo_zero {pos : Nat} {m : Md} (q : Nat) (x : Md) : ownTo pos 0 m q x = x := by
  have : inRange pos 0 q = false := by
    unfold inRange
    rw [Bool.and_eq_false_iff]; simp; omega
  simp [ownTo, this]

/-- nothing but the version changes -/
theorem Inv.bump (inv : Inv S s n w0 O0 a w O) {r : Nat} {tr : Ty} (hav : (S r).av = .val tr) : Inv (putUp S ⟨r, .val tr, false⟩) s n w0 O0 a w O := by
  have hu : setOwn S r 0 0 .sh = some ⟨r, .val tr, false⟩ := by
    unfold setOwn; rw [hav]
    simp only [Option.some.injEq, Up.mk.injEq, true_and, AV.val.injEq]
    exact ⟨modAt_out _ _ _ fun q m _ _ => ownTo_zero q m, rfl⟩
  have := inv.ghost (.inl rfl) hu (shareLab_relab O r 0 0)
  have he : shareLab O r 0 0 = O := by
    funext b
    unfold shareLab
    split
    · rename_i r0 p hb
      rw [if_neg]
      simp [inRange]
    · rfl
  rwa [he] at this

theorem set_same {r : Nat} (h : get s r ≠ .undef) : s.set r (get s r) = s := by
  unfold get at *
  cases hs : s[r]? with
  | none => rw [hs] at h; simp at h
  | some v =>
    obtain ⟨hlt, hv⟩ := List.getElem?_eq_some_iff.1 hs
    simp [← hv]

theorem defO_scalar (inv : Inv S s n w0 O0 a w O) {dd : Option Nat} (hdd : ∀ d, dd = some d → d < n) {x : PV} {v : Value} (h : ScRep x [v]) : Inv (defO S dd (.val .sc)) (setOpt s dd x) n w0 O0 (a.put dd v) w O := by
  cases dd with
  | none => exact inv
  | some d => exact inv.scalar (hdd d rfl) h

theorem copy_exec {c : Call} (ho : o.op = .call c) (hc : c.callee = .builtin .copy) {x y : Operand} {t t' : TypeId} (ha : c.args.toList = [x, y]) (hat : c.argTypes.toList = [t, t']) {r : Value} {w' : World}
    (h : (Builtin.copy_ #[t, t'] o.type #[a.eval x, a.eval y]).run P w = .ok r w') : (execOp a.eval o).run P w = .ok (.value r) w' := by
  have ha : c.args = #[x, y] := by rw [← Array.toArray_toList (xs := c.args), ha]
  have hat : c.argTypes = #[t, t'] := by rw [← Array.toArray_toList (xs := c.argTypes), hat]
  simp [execOp, ho, resolve, hc, invoke, builtin, ha, hat, h]

theorem copy_sound (hS : Sub S0 S) (inv : Inv S s n w0 O0 a w O) {dd : Option Nat} (hdd : ∀ d, dd = some d → d < n) {c : Call} (ho : o.op = .call c) (hcc : c.callee = .builtin .copy) {x y : Operand} {t t' : TypeId} (ha : c.args.toList = [x, y]) (hat : c.argTypes.toList = [t, t'])
    {rhs : VRhs} {av : AV} {us : List Up} (h : chkCopy P S0 x y t t' = some (rhs, av, us)) (hr : rhs.run C s dd = some s') : DefdO P (putUps S us) s' n w0 O0 a w o dd av := by
  unfold chkCopy at h
  simp only [Option.bind_eq_some_iff] at h
  obtain ⟨⟨v, ty, org⟩, h1, ⟨u, ty', org'⟩, h2, h⟩ := h
  obtain ⟨hcond, h⟩ := if_some h
  simp only [Bool.and_eq_true] at hcond
  obtain ⟨⟨⟨⟨hsl', hm⟩, hm'⟩, hown⟩, hsame⟩ := hcond
  simp only [] at h hown hsame hm hm'
  cases org with
  | none => cases h
  | some og =>
  obtain ⟨r, pos, pth⟩ := og
  cases pos with
  | succ k => cases h
  | zero =>
  cases pth with
  | none => cases h
  | some pl =>
  cases pl with
  | cons => cases h
  | nil =>
  simp only [] at h
  split at h
  case h_2 => cases h
  case h_1 tr hav0 =>
  obtain ⟨howntr, h⟩ := if_some h
  cases h
  have hSr := rd_org_view hS h1
  have hav : (S r).av = .val tr := by rw [← hSr]; exact hav0
  obtain ⟨e, rfl⟩ : ∃ e, ty = .sl .own e := by
    cases ty with
    | sl m e => cases m <;> simp [isOwnSl] at hown; exact ⟨e, rfl⟩
    | _ => simp [isOwnSl] at hown
  obtain ⟨e', rfl⟩ : ∃ e, tr = .sl .own e := by
    cases tr with
    | sl m e => cases m <;> simp [isOwnSl] at howntr; exact ⟨e, rfl⟩
    | _ => simp [isOwnSl] at howntr
  obtain ⟨m2, e2, rfl⟩ : ∃ m e, ty' = .sl m e := by
    cases ty' with
    | sl m e => exact ⟨m, e, rfl⟩
    | _ => simp [sameElems] at hsame
  have : e = e2 := Ty.beq_eq (by simpa [sameElems] using hsame)
  subst this
  -- types
  obtain ⟨et, het⟩ : ∃ et, P.underlying t = some (.slice et) := by
    have := matchesTy_some hm
    obtain ⟨i, v0, z, hi, hs0, hz0, hm0, hTy⟩ := tyOf_at this
    simp only [Ty.sh, Ty.modAt] at hTy
    generalize hg : Ty.sl (toSh .own) e = tt at hTy
    cases hTy with
    | slice e te z hu _ _ => exact ⟨_, hu⟩
    | _ => cases hg
  obtain ⟨te, zz, k1, k2, k3⟩ := slice_ty (matchesTy_some hm) het
  have : te = e := by simp [Ty.sh, Ty.modAt] at k1; exact k1.2.symm
  subst this
  have hsz := tyz_size (w := w) k2
  -- values
  simp only [VRhs.run, Option.bind_eq_some_iff, Option.map_eq_some_iff] at hr
  obtain ⟨pu, e1, pw, e3, z, hz, nn, hn, rfl⟩ := hr
  simp only [Prim.run, two] at hz hn
  split at hz
  case h_2 => cases hz
  case h_1 nl xs nl' ys =>
  cases hz
  simp only [Option.some.injEq] at hn
  subst hn
  -- the root
  obtain ⟨hgr, hvr⟩ : get s r = .slice nl xs ∧ val a r = a.eval x ∧ te = e' := by
    cases x with
    | tmp i =>
      obtain ⟨hSi, rfl, hcase⟩ := rd_tmp_av hS h1
      obtain ⟨hne, hg⟩ := undef_ne e1
      rcases hcase with ⟨hvi, ho'⟩ | ⟨r', p', q, c', hvi, ho', hc', hr'⟩
      · injection ho' with ho'; injection ho' with q1 q2; subst q1
        rw [hvi] at hav; cases hav
        exact ⟨hg, rfl, rfl⟩
      · injection ho' with ho'; injection ho' with q1 q2; injection q2 with q2 q3
        subst q1; subst q2; subst q3
        have hok := (inv.cell i (lt_of_alive inv (by rw [hvi]; simp))).resolve_left hne
        simp only [CellOK, hvi] at hok
        obtain ⟨cs', g1, g2, g3⟩ := hok hc'
        obtain ⟨z1, tyr, csr, ty0, z2, z3, z4, z5, z6, z7⟩ := g3 [] rfl
        simp only [rootTy, hav, Option.some.injEq] at z2
        subst z2
        simp [Ty.at] at z5
        subst z5
        simp [getP] at z4
        simp only [CellsOf, hav, Wrap] at z3
        simp only [Wrap] at g1
        subst z3; subst g1
        simp [Ty.size] at z7
        refine ⟨by rw [z4, hg], z7, ?_⟩
        simp [Ty.er, Ty.modAt] at z6
        exact z6.symm
    | const v0 =>
      exfalso
      simp only [rd, Option.bind_eq_some_iff] at h1
      obtain ⟨x0, hx0, h1⟩ := h1
      cases x0 with
      | slice nl xs =>
        simp only [Option.bind_eq_some_iff] at h1
        obtain ⟨ty0, _, h1⟩ := h1
        cases ty0 <;> simp at h1
      | _ => simp at h1
    | _ => simp [rd] at h1
  obtain ⟨hvr, hee⟩ := hvr
  subst hee
  have hne : get s r ≠ .undef := by rw [hgr]; simp
  have hcells : CellsOf a w S r [val a r] := by simp only [CellsOf, hav]; rfl
  obtain ⟨hrn, hrep⟩ := content_rep inv (.inl hav) hne hcells
  rw [hgr] at hrep
  simp only [Rep, SlRep, OwnSl] at hrep
  obtain ⟨nl2, xs2, hxx, hcase⟩ := hrep
  cases hxx
  obtain ⟨m3, e4, hh1, hh2, hy, _⟩ := rd_slice hS inv h2 e3
  cases hh1
  simp only [putUps]
  -- the source's cells
  obtain ⟨yn, hylen, hyn⟩ : ∃ news : List Value, (∀ k : Nat, k ≤ ys.length → (Builtin.firstCells te.size k (a.eval y)).run P w = .ok (news.take (k * te.size)).toArray w) ∧ Src w O te ys news := by
    rcases hy with ⟨_, rfl, hv⟩ | ⟨_, ad, cap, hv, g1, g2, g3⟩
    · exact ⟨[], fun k hk => by rw [hv]; simp [Builtin.firstCells], by simp, fun i y hi => by simp at hi⟩
    · rcases g3 with rfl | ⟨c2, el, fr, q1, q2, q3⟩
      · refine ⟨[], fun k hk => ?_, by simp, fun i y hi => by simp at hi⟩
        have : k = 0 := by simpa using hk
        subst this
        rw [hv]; simp [Builtin.firstCells, loadCells, loadCellsFrom]
      · obtain ⟨b, off, sp⟩ := ad
        simp only at g1; subst g1
        refine ⟨cellsAt c2 off (ys.length * te.size), fun k hk => ?_, cellsAt_length q2, fun i y hi => ?_⟩
        · have hkm : k * te.size ≤ ys.length * te.size := Nat.mul_le_mul_right _ hk
          rw [hv]
          simp only [Builtin.firstCells]
          simp only at q2
          rw [run_loadCells_at q1 (by omega)]
          have := cellsAt_cellsAt (c := c2) (o := off) (n := ys.length * te.size) (o' := 0) (n' := k * te.size) (by omega)
          simp only [List.drop_zero, Nat.add_zero] at this
          rw [this]
        · have hi' := (List.getElem?_eq_some_iff.1 hi).1
          have : (i + 1) * te.size ≤ ys.length * te.size := Nat.mul_le_mul_right _ hi'
          rw [Nat.succ_mul] at this
          rw [cellsAt_cellsAt (by omega)]
          exact q3 i y hi
  have hlen : (Builtin.lenOf (a.eval y)).run P w = .ok ys.length w := by
    rcases hy with ⟨_, rfl, hv⟩ | ⟨_, ad, cap, hv, _⟩ <;> rw [hv] <;> simp [Builtin.lenOf]
  have hmin : Nat.min ys.length xs.length = min ys.length xs.length := rfl
  have hfin : ∀ {w' : World} {O' : OMap} {S' : Vw} {s2 : St}, Inv S' s2 n w0 O0 a w' O' → Inv (defO S' dd (.val .sc)) (setOpt s2 dd (.int .i64 (min ys.length xs.length))) n w0 O0 (a.put dd (goInt ((min ys.length xs.length : Nat) : Int))) w' O' := fun inv' =>
    defO_scalar inv' hdd (by simp [ScRep, goInt]; omega)
  -- nothing to write
  have hnone : ∀ (base : Option Addr) (cap : Nat), xs = [] → a.eval x = .slice base 0 cap → DefdO P (putUp S ⟨r, .val (.sl .own te), false⟩) (setOpt (s.set r (.slice nl (ys.take xs.length ++ xs.drop ys.length))) dd (.int .i64 (min ys.length xs.length))) n w0 O0 a w o dd (.val .sc) := by
    intro base cap hx0 hv
    subst hx0
    have hset : s.set r (.slice nl (ys.take ([] : List PV).length ++ ([] : List PV).drop ys.length)) = s := by
      have : (PV.slice nl (ys.take ([] : List PV).length ++ ([] : List PV).drop ys.length)) = get s r := by rw [hgr]; simp
      rw [this]; exact set_same hne
    rw [hset]
    have h0 := hylen 0 (by omega)
    simp only [Nat.zero_mul, List.take_zero] at h0
    refine ⟨_, w, O, .inl (copy_exec ho hcc ha hat (r := goInt ((min ys.length 0 : Nat) : Int)) ?_), ?_⟩
    · cases base <;> simp [Builtin.copy_, run_underlying het, hv, hlen, hsz, Sem.run_bind, h0, storeCells]
    · have := hfin (inv.bump hav)
      simpa using this
  rcases hcase with ⟨rfl, rfl, hv⟩ | ⟨rfl, ad, cap, hv, g1, g2, g3⟩
  · exact hnone none 0 rfl (by rw [← hvr]; simpa using hv)
  · have hv : val a r = .slice (some ad) xs.length cap := by simpa using hv
    rcases g3 with h0 | ⟨g5, c2, el, fr, q1, q2, q3, q4⟩
    · have : xs = [] := List.length_eq_zero_iff.1 (by omega)
      exact hnone (some ad) cap this (by rw [← hvr, hv, this]; rfl)
    · obtain ⟨b, off, sp⟩ := ad
      simp only at g1; subst g1
      simp only at q1 q2 q4 g5
      have hk := hylen (min ys.length xs.length) (Nat.min_le_left _ _)
      have hm1 : min ys.length xs.length * te.size ≤ cap * te.size := Nat.mul_le_mul_right _ (by omega)
      have hm2 : min ys.length xs.length * te.size ≤ ys.length * te.size := Nat.mul_le_mul_right _ (by omega)
      have hnl : (yn.take (min ys.length xs.length * te.size)).length = min ys.length xs.length * te.size := by
        rw [List.length_take, hyn.1]; omega
      have hone : ∀ u ∈ yn.take (min ys.length xs.length * te.size), oneCell u := fun u hu => hyn.one k3 u (List.mem_of_mem_take hu)
      have hst := run_storeCells_sp (P := P) (yn.take (min ys.length xs.length * te.size)) w b off 0 c2 el fr q1 (by rw [hnl]; omega) q3 hone
      rw [Nat.add_zero] at hst
      obtain ⟨x', w1, w2⟩ := write_row inv (r := r) (hp := []) (tv := .sl .own te) (e := te) (pos := 0) (.inl hav) rfl hcells hne (csr := [val a r]) (len := xs.length) (cap := cap) (b := b) (off := off) (by simp [hv]) g2 q1 g5 q2 q3
        (c' := splice c2 off (yn.take (min ys.length xs.length * te.size))) (ys := ys.take xs.length ++ xs.drop ys.length) (splice_size (by rw [hnl]; omega)) (by simp; omega) (fun i yv hi => by
          by_cases hi1 : i < min ys.length xs.length
          · rw [List.getElem?_append_left (by simp; omega), List.getElem?_take, if_pos (by omega)] at hi
            have hr1 := hyn.2 i yv hi
            have him : (i + 1) * te.size ≤ min ys.length xs.length * te.size := Nat.mul_le_mul_right _ hi1
            rw [Nat.succ_mul] at him
            have e5 : cellsAt (splice c2 off (yn.take (min ys.length xs.length * te.size))) (off + i * te.size) te.size = (yn.drop (i * te.size)).take te.size := by
              have := cellsAt_splice (c := c2) (o := off) (vs := yn.take (min ys.length xs.length * te.size)) (by rw [hnl]; omega)
              have h6 := cellsAt_cellsAt (c := splice c2 off (yn.take (min ys.length xs.length * te.size))) (o := off) (n := min ys.length xs.length * te.size) (o' := i * te.size) (n' := te.size) (by omega)
              rw [hnl] at this
              rw [← h6, this, List.drop_take, List.take_take, Nat.min_eq_left (by omega)]
            rw [e5]; exact hr1
          · have hi2 : ys.length ≤ i := by
              rcases Nat.lt_or_ge i ys.length with h | h
              · exfalso
                have : xs.length ≤ i := by omega
                rw [List.getElem?_append_right (by simp; omega)] at hi
                have := (List.getElem?_eq_some_iff.1 hi).1
                simp at this; omega
              · exact h
            have hxi : xs[i]? = some yv := by
              by_cases hyx : ys.length ≤ xs.length
              · rw [List.getElem?_append_right (by simp; omega), List.getElem?_drop] at hi
                have : ys.length + (i - (ys.take xs.length).length) = i := by simp; omega
                rwa [this] at hi
              · rw [List.getElem?_append_right (by simp; omega)] at hi
                have := (List.getElem?_eq_some_iff.1 hi).1
                simp at this; omega
            have him : min ys.length xs.length * te.size ≤ i * te.size := Nat.mul_le_mul_right _ (by omega)
            rw [cellsAt_splice_other (by rw [hnl]; omega) (.inr (by rw [hnl]; omega))]
            exact q4 i yv hxi)
      simp only [setP, Option.some.injEq] at w1
      subst w1
      rw [hav] at w2
      refine ⟨_, _, O, .inl (copy_exec ho hcc ha hat (r := goInt ((min ys.length xs.length : Nat) : Int)) ?_), hfin w2⟩
      simp [Builtin.copy_, run_underlying het, ← hvr, hv, hlen, hsz, Sem.run_bind, hmin, hk, hst]

end
end Go.Vm

/-
  Slices of pointers: made, looked at, and stored through.
  Conditions: none.
-/
set_option linter.unusedVariables false
set_option linter.unusedSimpArgs false
namespace Go.Vm

section
variable {P : Program} {S0 S : Vw} {s s' : St} {n : Nat} {w0 : World} {O0 : OMap} {a : Act} {w : World} {O : OMap} {C : Env} {o : Oper} {d : Nat}

theorem isPtrTy_some {t : TypeId} (h : isPtrTy P t = true) : ∃ e, P.underlying t = some (.pointer e) := by
  unfold isPtrTy at h
  split at h
  · rename_i e he; exact ⟨e, he⟩
  · cases h

/-- what is known of such a temporary -/
theorem mp_at (hS : Sub S0 S) (inv : Inv S s n w0 O0 a w O) {x : Operand} {i : Nat} {k : MK} {ts : List (Nat × List Nat × Nat)} (h : mpOf S0 x = some (i, k, ts)) {z : PV} (hz : (VX.tmp i).eval s = some z) :
    x = .tmp i ∧ S0 i = S i ∧ (∀ t ∈ ts, t.2.2 ≤ (S t.1).d) ∧ MpOK O w (Tgt S s a) k ts z (a.eval x) := by
  cases x with
  | tmp j =>
    simp only [mpOf] at h
    have hal : (S0 j).av ≠ .dead := by intro hd; simp [hd] at h
    have hSj := hS.alive hal
    rw [hSj] at h
    have hlt := lt_of_alive inv (by rw [← hSj]; exact hal)
    cases hav : (S j).av <;> rw [hav] at h <;> simp at h
    case mp k' ts' =>
      obtain ⟨rfl, rfl, rfl⟩ := h
      obtain ⟨hne, hg⟩ := undef_ne hz
      have hc := (inv.cell j hlt).resolve_left hne
      have hv := inv.vers j
      simp only [CellOK, hav] at hc
      simp only [VersOK, hav] at hv
      rw [hg] at hc
      exact ⟨rfl, hSj, hv, hc⟩
  | _ => simp [mpOf] at h

theorem mp_len (hS : Sub S0 S) (inv : Inv S s n w0 O0 a w O) (hd : d < n) {c : Call} {x : Operand} {t e : TypeId} (ho : o.op = .call c) (hc : c.callee = .builtin .len) (hx : c.args.toList = [x])
    (ht : c.argTypes.toList = [t]) (hu : P.underlying t = some (.slice e)) {i : Nat} {ts : List (Nat × List Nat × Nat)} (hm : mpOf S0 x = some (i, .sl, ts)) (hr : (VRhs.prim .len [.tmp i]).run C s (some d) = some s') : Defd P S s' n w0 O0 a w o d (.val .sc) := by
  obtain ⟨vs, z, he, hp, rfl⟩ := prim_run hr
  obtain ⟨u, e1, rfl⟩ := evals_one he
  simp only [Prim.run, one] at hp
  have ha : c.args = #[x] := by rw [← Array.toArray_toList (xs := c.args), hx]
  have hat : c.argTypes = #[t] := by rw [← Array.toArray_toList (xs := c.argTypes), ht]
  obtain ⟨_, _, _, hk⟩ := mp_at hS inv hm e1
  obtain ⟨rfl, ad, hv, _⟩ := hk
  simp only [lenV, Option.some.injEq] at hp
  subst hp
  have hl : (idxs ts.length).length = ts.length := by simp [idxs]
  rw [hl]
  refine defd_sc inv hd (v := .int .i64 (ts.length : Nat)) (by simp [ScRep]) ?_
  simp [execOp, ho, resolve, hc, invoke, builtin, ha, hat, hv, Builtin.len_, run_underlying hu, goInt]

theorem mp_nil (hS : Sub S0 S) (inv : Inv S s n w0 O0 a w O) (hd : d < n) {x : Operand} (ho : o.op = .nilCheck x) {i : Nat} {ts : List (Nat × List Nat × Nat)} (hm : mpOf S0 x = some (i, .pt, ts)) (hr : (VRhs.prim .mov [.tmp i]).run C s (some d) = some s') :
    Defd P S s' n w0 O0 a w o d (.mp .pt ts) := by
  obtain ⟨vs, z, he, hp, rfl⟩ := prim_run hr
  obtain ⟨u, e1, rfl⟩ := evals_one he
  simp only [Prim.run, one, Option.some.injEq] at hp; subst hp
  obtain ⟨_, _, hv, hk⟩ := mp_at hS inv hm e1
  have hk' := hk
  obtain ⟨j, t, _, _, _, y, hy⟩ := hk'
  refine ⟨_, w, O, .inl ?_, define_mp inv hd (Grown.refl d inv.frame.alloc) hv hk⟩
  simp [execOp, ho, hy]

theorem idxs_get {m j : Nat} {z : PV} (h : (idxs m)[j]? = some z) : j < m ∧ z = idx j := by
  simp only [idxs, List.getElem?_map, Option.map_eq_some_iff] at h
  obtain ⟨a, ha, rfl⟩ := h
  obtain ⟨h1, h2⟩ := List.getElem?_eq_some_iff.1 ha
  simp at h1 h2
  subst h2
  exact ⟨h1, rfl⟩

theorem mp_index (hS : Sub S0 S) (inv : Inv S s n w0 O0 a w O) (hd : d < n) {t : TypeId} {x ix : Operand} (ho : o.op = .indexAddr t x ix) {i : Nat} {ts : List (Nat × List Nat × Nat)} (hm : mpOf S0 x = some (i, .sl, ts)) {rhs : VRhs} {av : AV} {us : List Up}
    (h : chkIndexAddrM P S0 t i ts ix = some (rhs, av, us)) (hr : rhs.run C s (some d) = some s') : us = [] ∧ Defd P S s' n w0 O0 a w o d av := by
  unfold chkIndexAddrM at h
  simp only [Option.bind_eq_some_iff] at h
  obtain ⟨e, he, h⟩ := h
  obtain ⟨hsz, h⟩ := if_some h
  simp only [Option.bind_eq_some_iff] at h
  obtain ⟨⟨u, ti, oi⟩, h1, h⟩ := h
  simp only [] at h
  split at h
  case h_2 => cases h
  case h_1 =>
  simp only [prim1, Option.some.injEq, Prod.mk.injEq] at h
  obtain ⟨rfl, rfl, rfl⟩ := h
  refine ⟨rfl, ?_⟩
  obtain ⟨vs, z, hev, hp, rfl⟩ := prim_run hr
  obtain ⟨zz, yy, e1, e2, rfl⟩ := evals_two hev
  obtain ⟨hxi, _, hv, hk⟩ := mp_at hS inv hm e1
  obtain ⟨rfl, ad, hval, hrow⟩ := hk
  simp only [Prim.run, two] at hp
  cases yy <;> simp [indexV] at hp
  case int ik iv =>
  obtain ⟨h0, hp⟩ := hp
  obtain ⟨hlt, rfl⟩ := idxs_get hp
  have hix := rd_int hS inv h1 e2
  have hu := isSlice_some he
  have hs : ∃ it, P.info? e = some it ∧ it.size = 1 := by
    cases hi : P.info? e with
    | none => rw [hi] at hsz; simp at hsz
    | some it => rw [hi] at hsz; exact ⟨it, rfl, by simpa using hsz⟩
  obtain ⟨it, hi, hi1⟩ := hs
  refine ⟨.pointer (some ⟨ad.block, ad.off + iv.toNat, none⟩), w, O, .inl ?_, define_mp inv hd (Grown.refl d inv.frame.alloc) hv ⟨iv.toNat, ad, rfl, hlt, rfl, hrow⟩⟩
  have hlt' : iv < (ts.length : Int) := by omega
  simp [execOp, ho, hval, hix, Instr.indexAt, Sem.run_bind, run_underlying hu, asIntOf, Instr.sureAddr, h0, hlt', sizeOf, typeInfo, hi, hi1, addr_add' ad hrow.1]

theorem mp_load (hS : Sub S0 S) (inv : Inv S s n w0 O0 a w O) (hd : d < n) {t : TypeId} {x : Operand} (ho : o.op = .load t x) {i : Nat} {ts : List (Nat × List Nat × Nat)} (hm : mpOf S0 x = some (i, .el, ts)) (ht : isPtrTy P t = true) (hr : (VRhs.prim .mov [.tmp i]).run C s (some d) = some s') :
    Defd P S s' n w0 O0 a w o d (.mp .pt ts) := by
  obtain ⟨vs, z, he, hp, rfl⟩ := prim_run hr
  obtain ⟨u, e1, rfl⟩ := evals_one he
  simp only [Prim.run, one, Option.some.injEq] at hp; subst hp
  obtain ⟨_, _, hv, hk⟩ := mp_at hS inv hm e1
  obtain ⟨j, ad, rfl, hj, hval, hsp, hO, c, el, fr, hc, hall⟩ := hk
  have htj : ts[j]? = some ts[j] := List.getElem?_eq_getElem hj
  obtain ⟨v, g1, g2, y, rfl⟩ := hall j _ htj
  obtain ⟨e, hu⟩ := isPtrTy_some ht
  refine ⟨_, w, O, .inl ?_, define_mp inv hd (Grown.refl d inv.frame.alloc) hv ⟨j, _, rfl, htj, g2, y, rfl⟩⟩
  have hld : (load ⟨ad.block, ad.off + j, none⟩).run P w = .ok (.pointer (some y)) w := run_load_one hc g1
  have hlv : (loadVar t ⟨ad.block, ad.off + j, none⟩).run P w = .ok (.pointer (some y)) w := by
    unfold loadVar isAgg
    rw [Sem.run_bind, Sem.run_bind, run_underlying hu]
    exact hld
  simp [execOp, ho, hval, Instr.loadAt, Instr.sureAddr, hlv]

/-! ### a store -/
theorem pick_other {ps : List (Option (List Nat))} {j : Nat} {y v z : PV} (h : pickM ps (idx j) y v = some z) (hn : ps[j]? = some none) : z = y := by
  simp only [pickM, idx, Int.toNat_natCast, hn, Option.some.injEq] at h
  exact h.symm
theorem pick_this {ps : List (Option (List Nat))} {j : Nat} {q : List Nat} {y v z : PV} (h : pickM ps (idx j) y v = some z) (hn : ps[j]? = some (some q)) : setP q y v = some z := by
  simpa only [pickM, idx, Int.toNat_natCast, hn] using h

theorem rootsM_mem {r : Nat} : ∀ {ts : List (Nat × List Nat × Nat)}, r ∈ rootsM ts ↔ ∃ t ∈ ts, t.1 = r
  | [] => by simp [rootsM]
  | t :: ts => by
    simp only [rootsM]
    split
    · rename_i hc
      rw [rootsM_mem (ts := ts)]
      constructor
      · rintro ⟨u, hu, rfl⟩; exact ⟨u, by simp [hu], rfl⟩
      · rintro ⟨u, hu, rfl⟩
        rcases List.mem_cons.1 hu with rfl | hu
        · exact rootsM_mem.1 (List.contains_iff_mem.1 hc)
        · exact ⟨u, hu, rfl⟩
    · simp only [List.mem_cons, rootsM_mem (ts := ts)]
      constructor
      · rintro (rfl | ⟨u, hu, rfl⟩)
        · exact ⟨t, .inl rfl, rfl⟩
        · exact ⟨u, .inr hu, rfl⟩
      · rintro ⟨u, rfl | hu, rfl⟩
        · exact .inl rfl
        · exact .inr ⟨u, hu, rfl⟩

theorem rootsM_nodup : ∀ (ts : List (Nat × List Nat × Nat)), (rootsM ts).Nodup
  | [] => by simp [rootsM]
  | t :: ts => by
    simp only [rootsM]
    split
    · exact rootsM_nodup ts
    · rename_i hc
      exact List.nodup_cons.2 ⟨fun h => hc (List.contains_iff_mem.2 h), rootsM_nodup ts⟩

/-- nothing but the versions of a box changes -/
theorem Inv.bumpB (inv : Inv S s n w0 O0 a w O) {r : Nat} {tr : Ty} (hav : (S r).av = .box tr) (hne : get s r ≠ .undef) : Inv (putUp S ⟨r, (S r).av, true⟩) s n w0 O0 a w O := by
  have hrn : r < n := lt_of_alive inv (by rw [hav]; simp)
  have hsame : ∀ i, i ≠ r → putUp S ⟨r, (S r).av, true⟩ i = S i := fun i hi => putUp_ne hi
  have hav' : (putUp S ⟨r, (S r).av, true⟩ r).av = .box tr := by rw [show (putUp S ⟨r, (S r).av, true⟩ r).av = (S r).av from by simp [putUp]]; exact hav
  have ch : Ch S (putUp S ⟨r, (S r).av, true⟩) s s O O a a w w (· = r) := by
    refine ⟨fun b hb => ⟨hb, rfl⟩, fun b r' p _ _ => ⟨rfl, rfl⟩, fun b r' _ _ => ⟨rfl, rfl⟩, fun i hi => ⟨hsame i hi, rfl, rfl⟩, fun i hi => ?_, fun i hi _ ty hty hne' => ?_, fun i hi he => ?_⟩
    · subst hi; simp [putUp]
    · subst hi; rw [hav] at hty; cases hty; exact ⟨tr, hav', rfl, hne', rfl⟩
    · subst hi; simp [putUp] at he
  refine ch.inv inv (fun i hi => by subst hi; exact hrn) inv.size inv.slen inv.defers inv.frame (fun i hi => ?_) (fun i hi ty _ => by subst hi; exact hne) (fun i hi => ?_) (fun i hi h1 => by subst hi; rw [hav'] at h1; cases h1)
  · subst hi; unfold VersOK; rw [hav']; trivial
  · subst hi
    right
    have hc := (inv.cell i hrn).resolve_left hne
    unfold CellOK at hc ⊢
    rw [hav'] ; rw [hav] at hc
    exact hc

/-- the roots that the store passes by -/
theorem updM_other {ts : List (Nat × List Nat × Nat)} {j : Nat} {t : Nat × List Nat × Nat} {v : PV} (ht : ts[j]? = some t) : ∀ {l : List Nat} {S : Vw} {s s' : St}, Inv S s n w0 O0 a w O → t.1 ∉ l → (∀ r ∈ l, ∃ ty, (S r).av = .box ty) →
    updM (idx j) v (l.map fun r => (r, ts.map fun x => if x.1 = r then some x.2.1 else none)) s = some s' → l.Nodup → s' = s ∧ Inv (putUps S (l.map fun r => ⟨r, (S r).av, true⟩)) s n w0 O0 a w O
  | [], S, s, s', inv, _, _, h, _ => by
    simp only [List.map_nil, updM, Option.some.injEq] at h
    exact ⟨h.symm, inv⟩
  | r :: l, S, s, s', inv, hn, hb, h, hnd => by
    simp only [List.map_cons, updM, Option.bind_eq_some_iff] at h
    obtain ⟨y, h1, z, h2, h3⟩ := h
    obtain ⟨hne, rfl⟩ := have_some h1
    have hz := pick_other h2 (by
      simp only [List.getElem?_map, ht, Option.map_some]
      rw [if_neg (fun e => hn (by simp [e]))])
    subst hz
    rw [set_same hne] at h3
    obtain ⟨ty, hty⟩ := hb r (by simp)
    have inv1 := inv.bumpB hty hne
    obtain ⟨hnr, hnl⟩ := List.nodup_cons.1 hnd
    have hsame : ∀ i ∈ l, putUp S ⟨r, (S r).av, true⟩ i = S i := fun i hi => putUp_ne (fun e => hnr (by rw [← show i = r from e]; exact hi))
    obtain ⟨k1, k2⟩ := updM_other ht inv1 (fun hm => hn (by simp [hm])) (fun i hi => by rw [hsame i hi]; exact hb i (by simp [hi])) h3 hnl
    refine ⟨k1, ?_⟩
    simp only [List.map_cons, putUps]
    have : (l.map fun i => (⟨i, (putUp S ⟨r, (S r).av, true⟩ i).av, true⟩ : Up)) = l.map fun i => ⟨i, (S i).av, true⟩ := List.map_congr_left fun i hi => by rw [hsame i hi]
    rw [this] at k2
    exact k2

theorem okTgt_some (hS : Sub S0 S) {t : Nat × List Nat × Nat} (h : okTgt S0 t = true) : S0 t.1 = S t.1 ∧ (S t.1).d = t.2.2 ∧ ∃ ty off, (S t.1).av = .box ty ∧ Ty.at t.2.1 ty = some (.sc, off) := by
  unfold okTgt at h
  simp only [Bool.and_eq_true, beq_iff_eq] at h
  obtain ⟨h1, h2⟩ := h
  have hal : (S0 t.1).av ≠ .dead := by intro hd; rw [hd] at h2; simp at h2
  have hSt := hS.alive hal
  rw [hSt] at h1 h2
  split at h2
  case h_2 => cases h2
  case h_1 ty hav =>
  split at h2
  case h_2 => cases h2
  case h_1 off hat => exact ⟨hSt, h1, ty, off, hav, hat⟩

theorem updM_this {ts : List (Nat × List Nat × Nat)} {j : Nat} {t : Nat × List Nat × Nat} {pv : PV} {v : Value} (ht : ts[j]? = some t) {tt : TypeId} (htt : tyOf P tt = some .sc) (hsc : ScRep pv [v]) {ad' : Addr}
    (hone : oneCell v) : ∀ {l : List Nat} {S : Vw} {s s' : St}, Inv S s n w0 O0 a w O → t.1 ∈ l → (∀ r ∈ l, ∃ ty, (S r).av = .box ty) → (∃ b o ty off, (S t.1).av = .box ty ∧ val a t.1 = .pointer (some ⟨b, o, none⟩) ∧ Ty.at t.2.1 ty = some (.sc, off) ∧ ad' = ⟨b, o + off, none⟩) →
    updM (idx j) pv (l.map fun r => (r, ts.map fun x => if x.1 = r then some x.2.1 else none)) s = some s' → l.Nodup → ∃ w', (storeVar tt ad' v).run P w = .ok () w' ∧ Inv (putUps S (l.map fun r => ⟨r, (S r).av, true⟩)) s' n w0 O0 a w' O
  | [], S, s, s', inv, hm, _, _, _, _ => by simp at hm
  | r :: l, S, s, s', inv, hm, hb, htg, h, hnd => by
    simp only [List.map_cons, updM, Option.bind_eq_some_iff] at h
    obtain ⟨y, h1, z, h2, h3⟩ := h
    obtain ⟨hne, rfl⟩ := have_some h1
    obtain ⟨hnr, hnl⟩ := List.nodup_cons.1 hnd
    have hsame : ∀ i ∈ l, putUp S ⟨r, (S r).av, true⟩ i = S i := fun i hi => putUp_ne (fun e => hnr (by rw [← show i = r from e]; exact hi))
    have hups : (l.map fun i => (⟨i, (putUp S ⟨r, (S r).av, true⟩ i).av, true⟩ : Up)) = l.map fun i => ⟨i, (S i).av, true⟩ := List.map_congr_left fun i hi => by rw [hsame i hi]
    simp only [List.map_cons, putUps]
    rw [← hups]
    by_cases hr : t.1 = r
    · subst hr
      obtain ⟨b, o', ty, off, g1, g2, g3, rfl⟩ := htg
      have hz := pick_this (q := t.2.1) h2 (by
        simp [ht])
      obtain ⟨w', k1, k2⟩ := store_box (P := P) inv g1 hne g2 g3 (put_self _ g3) rfl rfl (cs := [v]) (by simpa only [Rep] using hsc) hz (ty := .sc) htt rfl (v := v) rfl (by simpa using hone)
      rw [← g1] at k2
      obtain ⟨k3, k4⟩ := updM_other ht k2 hnr (fun i hi => by rw [hsame i hi]; exact hb i (by simp [hi])) h3 hnl
      rw [k3]
      exact ⟨w', k1, k4⟩
    · have hz := pick_other h2 (by
        simp only [List.getElem?_map, ht, Option.map_some]
        rw [if_neg hr])
      subst hz
      rw [set_same hne] at h3
      obtain ⟨ty, hty⟩ := hb r (by simp)
      have inv1 := inv.bumpB hty hne
      have hml : t.1 ∈ l := by rcases List.mem_cons.1 hm with h | h; exact absurd h hr; exact h
      exact updM_this ht htt hsc hone inv1 hml (fun i hi => by rw [hsame i hi]; exact hb i (by simp [hi])) (by rw [hsame _ hml]; exact htg) h3 hnl

theorem mp_store (hS : Sub S0 S) (inv : Inv S s n w0 O0 a w O) {t : TypeId} {x y : Operand} (ho : o.op = .store t x y) {i : Nat} {ts : List (Nat × List Nat × Nat)} (hm : mpOf S0 x = some (i, .pt, ts)) {rhs : VRhs} {av : AV} {us : List Up} (h : chkStoreM P S0 t i ts y = some (rhs, av, us)) {dd : Option Nat}
    (hr : rhs.run C s dd = some s') : ∃ w' O', Done P o a w undef w' ∧ Inv (putUps S us) s' n w0 O0 a w' O' := by
  unfold chkStoreM at h
  simp only [Option.bind_eq_some_iff] at h
  obtain ⟨⟨v, ty, org⟩, h1, h⟩ := h
  simp only [] at h
  split at h
  case h_2 => cases h
  case h_1 =>
  obtain ⟨hc, h⟩ := if_some h
  simp only [Option.some.injEq, Prod.mk.injEq] at h
  obtain ⟨rfl, rfl, rfl⟩ := h
  simp only [Bool.and_eq_true, List.all_eq_true] at hc
  obtain ⟨hmt, hts⟩ := hc
  have hmt := matchesTy_some hmt
  simp only [VRhs.run, Option.bind_eq_some_iff] at hr
  obtain ⟨pv, e1, jv, e2, hu⟩ := hr
  obtain ⟨_, _, hvs, hk⟩ := mp_at hS inv hm e2
  obtain ⟨j, tg, rfl, htj, htgt, ad, hval⟩ := hk
  obtain ⟨cs, g1, g2, g3⟩ := rd_sound hS inv h1 e1
  obtain ⟨ρ, p, g2⟩ := g2.some'
  simp only [Wrap] at g1
  subst g1
  have hsc : ScRep pv [a.eval y] := by simpa only [Rep] using g2
  have hmem := List.mem_of_getElem? htj
  obtain ⟨hSt, hdv, ty, off, hav, hat⟩ := okTgt_some hS (hts tg hmem)
  obtain ⟨b, o', ty', u, off', q1, q2, q3, q4, q5⟩ := htgt hdv
  rw [hav] at q1; cases q1
  rw [hat] at q4
  simp only [Option.some.injEq, Prod.mk.injEq] at q4
  obtain ⟨rfl, rfl⟩ := q4
  have hups : ((rootsM ts).map fun r => (⟨r, (S0 r).av, true⟩ : Up)) = (rootsM ts).map fun r => ⟨r, (S r).av, true⟩ := List.map_congr_left fun r hr => by
    obtain ⟨t', ht', rfl⟩ := rootsM_mem.1 hr
    rw [(okTgt_some hS (hts t' ht')).1]
  have hone : oneCell (a.eval y) := Rep.one (t := .sc) rfl g2 _ (by simp)
  obtain ⟨w', k1, k2⟩ := updM_this (P := P) htj (tt := t) (by simpa [Ty.sh, Ty.modAt] using hmt) hsc hone inv (rootsM_mem.2 ⟨tg, hmem, rfl⟩) (fun r hr => by
    obtain ⟨t', ht', rfl⟩ := rootsM_mem.1 hr
    obtain ⟨_, _, ty', _, h', _⟩ := okTgt_some hS (hts t' ht')
    exact ⟨ty', h'⟩) ⟨b, o', ty, off, hav, q3, hat, rfl⟩ hu (rootsM_nodup ts)
  rw [hups]
  exact ⟨w', O, .inr ⟨store_exec ho q5 k1, rfl⟩, k2⟩

/-! ### a slice of pointers is made -/
theorem ptrAt_sound (hS : Sub S0 S) (inv : Inv S s n w0 O0 a w O) {x : Operand} {t : Nat × List Nat × Nat} (h : ptrAt S0 x = some t) (hu : True) : ∀ i, x = .tmp i → get s i ≠ .undef → t.2.2 ≤ (S t.1).d ∧ Tgt S s a t (a.eval x) ∧ ∃ y, a.eval x = .pointer (some y) := by
  intro i hx hne
  subst hx
  simp only [ptrAt] at h
  have hal : (S0 i).av ≠ .dead := by intro hd; simp [hd] at h
  have hSi := hS.alive hal
  rw [hSi] at h
  have hlt := lt_of_alive inv (by rw [← hSi]; exact hal)
  have hc := (inv.cell i hlt).resolve_left hne
  cases hav : (S i).av <;> rw [hav] at h <;> simp at h
  case box ty =>
    subst h
    simp only [CellOK, hav] at hc
    obtain ⟨b, o', cs, h1, _⟩ := hc
    exact ⟨Nat.le_refl _, fun _ => ⟨b, o', ty, ty, 0, hav, hne, h1, rfl, h1⟩, _, h1⟩
  case bptr r p dd k =>
    obtain ⟨⟨hk, h1, h2⟩, q, hst, rfl⟩ := h
    subst hk
    have hr' := hS.alive (alive_ne h2)
    simp only [CellOK, hav] at hc
    obtain ⟨q', b, o', ty, u, off, g1, g2, g3, g4, g5, g6, g7⟩ := hc (by rw [← hr']; exact h1)
    have := static_match hst g2
    subst this
    have hv := inv.vers i
    simp only [VersOK, hav] at hv
    exact ⟨hv, fun _ => ⟨b, o', ty, u, off, g3, g4, g5, g6, g7⟩, _, g7⟩

theorem ptrsAt_sound (hS : Sub S0 S) (inv : Inv S s n w0 O0 a w O) : ∀ {l : List Operand} {ts : List (Nat × List Nat × Nat)} {vs : List PV}, ptrsAt S0 l = some ts → evals s (l.map tmpX) = some vs → ts.length = l.length ∧ vs.length = l.length ∧
    (∀ t ∈ ts, t.2.2 ≤ (S t.1).d) ∧ ∀ (j : Nat) t, ts[j]? = some t → ∃ x, l[j]? = some x ∧ Tgt S s a t (a.eval x) ∧ ∃ y, a.eval x = .pointer (some y)
  | [], ts, vs, h, he => by
    simp only [ptrsAt, Option.some.injEq] at h
    simp only [List.map_nil, evals, Option.some.injEq] at he
    subst h; subst he
    exact ⟨rfl, rfl, by simp, by simp⟩
  | x :: l, ts, vs, h, he => by
    simp only [ptrsAt, Option.bind_eq_some_iff, Option.map_eq_some_iff] at h
    obtain ⟨t, h1, ts', h2, rfl⟩ := h
    rw [List.map_cons] at he
    obtain ⟨v, us, e1, e2, rfl⟩ := evals_cons he
    obtain ⟨k1, k2, k3, k4⟩ := ptrsAt_sound hS inv h2 e2
    cases x with
    | tmp i =>
      obtain ⟨hne, _⟩ := undef_ne e1
      obtain ⟨g1, g2, g3⟩ := ptrAt_sound hS inv h1 trivial i rfl hne
      refine ⟨by simp [k1], by simp [k2], fun t' ht' => ?_, fun j t' ht' => ?_⟩
      · rcases List.mem_cons.1 ht' with rfl | ht'
        · exact g1
        · exact k3 t' ht'
      · cases j with
        | zero => simp at ht'; subst ht'; exact ⟨_, rfl, g2, g3⟩
        | succ j => simpa using k4 j t' (by simpa using ht')
    | _ => simp [ptrAt] at h1

/-- cells that are set one after the other -/
theorem fill_row (f : Operand → Value) : ∀ (l : List Operand) (k : Nat) (c : Array Value), (∀ x ∈ l, (f x).cells = #[f x]) → k + l.length ≤ c.size →
    ∃ c', Instr.fill (fun i => some (i * 1, 1)) c ((l.zipIdx k).map fun p => (p.2, f p.1)) = some c' ∧ c'.size = c.size ∧ (∀ j, j < k → c'[j]? = c[j]?) ∧ ∀ (j : Nat) x, l[j]? = some x → c'[k + j]? = some (f x)
  | [], k, c, _, _ => ⟨c, rfl, rfl, fun _ _ => rfl, fun j x h => by simp at h⟩
  | x :: l, k, c, ho, hk => by
    simp only [List.length_cons] at hk
    obtain ⟨c', g1, g2, g3, g4⟩ := fill_row f l (k + 1) (c.setIfInBounds k (f x)) (fun y hy => ho y (by simp [hy])) (by simp; omega)
    refine ⟨c', ?_, by simpa using g2, fun j hj => ?_, fun j y hy => ?_⟩
    · rw [← g1]
      simp only [List.zipIdx_cons, List.map_cons]
      have hnk : ¬ c.size < k + 1 := by omega
      simp [Instr.fill, ho x (by simp), hnk]
    · rw [g3 j (by omega), Array.getElem?_setIfInBounds_ne (by omega)]
    · cases j with
      | zero =>
        simp at hy; subst hy
        rw [Nat.add_zero, g3 k (by omega), Array.getElem?_setIfInBounds_self_of_lt (by omega)]
      | succ j =>
        rw [show k + (j + 1) = k + 1 + j from by omega]
        exact g4 j y (by simpa using hy)

theorem mp_build (hS : Sub S0 S) (inv : Inv S s n w0 O0 a w O) (hd : d < n) {t : TypeId} {m : Nat} {ps : Array (Nat × Operand)} (ho : o.op = .buildSlice t m ps) {rhs : VRhs} {av : AV} {us : List Up}
    (h : chkBuildSliceM P S0 t m ps.toList = some (rhs, av, us)) (hr : rhs.run C s (some d) = some s') : us = [] ∧ Defd P S s' n w0 O0 a w o d av := by
  unfold chkBuildSliceM at h
  simp only [Option.bind_eq_some_iff] at h
  obtain ⟨e, he, h⟩ := h
  obtain ⟨hc, h⟩ := if_some h
  simp only [Option.map_eq_some_iff] at h
  obtain ⟨ts, hts, h⟩ := h
  simp only [prim1, Prod.mk.injEq] at h
  obtain ⟨rfl, rfl, rfl⟩ := h
  refine ⟨rfl, ?_⟩
  simp only [Bool.and_eq_true, beq_iff_eq, decide_eq_true_eq] at hc
  obtain ⟨⟨⟨⟨⟨hpt, hsz⟩, hz⟩, hps⟩, hmax⟩, hpos⟩ := hc
  obtain ⟨vs, z, hev, hp, rfl⟩ := prim_run hr
  simp only [Prim.run] at hp
  obtain ⟨hlen, hp⟩ := if_some hp
  simp only [Option.some.injEq] at hp
  subst hp
  obtain ⟨k1, k2, k3, k4⟩ := ptrsAt_sound hS inv hts hev
  have hpl : ps.toList.length = m := by have := congrArg List.length hps; simpa using this
  have htl : ts.length = m := by rw [k1]; simp [hpl]
  cases hi : P.info? e with
  | none => rw [hi] at hsz; simp at hsz
  | some it =>
  rw [hi] at hsz hz
  simp only [Option.map_some, Option.some.injEq, Option.bind_some] at hsz hz
  cases hzz : it.zero with
  | none => rw [hzz] at hz; simp at hz
  | some v0 =>
  rw [hzz] at hz
  simp only [beq_iff_eq] at hz
  have hu := isSlice_some he
  have hpse : ps.toList = ((ps.toList.map (·.2)).zipIdx 0).map fun p => (p.2, p.1) := by
    apply List.ext_getElem?
    intro j
    have hj := congrArg (fun l => l[j]?) hps
    simp only [List.getElem?_map, List.getElem?_zipIdx] at hj ⊢
    cases hx : ps.toList[j]? with
    | none => simp
    | some p =>
      rw [hx] at hj
      simp only [Option.map_some] at hj
      have := (List.getElem?_eq_some_iff.1 hj.symm).2
      simp at this
      simp [this]
  have hone : ∀ x ∈ ps.toList.map (·.2), (a.eval x).cells = #[a.eval x] := by
    intro x hx
    obtain ⟨j, hj⟩ := List.getElem?_of_mem hx
    have hjl : j < ts.length := by have := (List.getElem?_eq_some_iff.1 hj).1; rw [k1]; exact this
    obtain ⟨x', hx', _, y, hy⟩ := k4 j ts[j] (List.getElem?_eq_getElem hjl)
    rw [hj] at hx'; cases hx'
    rw [hy]; rfl
  obtain ⟨c', f1, f2, _, f4⟩ := fill_row (fun x => a.eval x) (ps.toList.map (·.2)) 0 (madeCells v0.cells (m * 1)) hone (by simp [hpl, size_madeCells])
  have hcs : (cellsAt c' 0 m).toArray = c' := by
    apply Array.ext'
    simp only [cellsAt, List.drop_zero]
    rw [List.take_of_length_le (by simp [f2, size_madeCells])]
  have g : Grown w (w.alloc (.cells c' e)) O (newLab O w none) d := Grown.new inv.frame.alloc
  refine ⟨.slice (some ⟨w.heap.size, 0, none⟩) m m, w.alloc (.cells c' e), newLab O w none, .inl ?_, define_mp inv hd g k3 ?_⟩
  · have hmax' : ¬ 16777216 < m := by omega
    have h0 : ¬ m = 0 := by omega
    have hfill : Instr.fill (fun i => some (i * 1, 1)) ((Array.range (m * 1)).map (v0.cells[· % v0.cells.size]!)) (List.map (fun x => (x.1, a.eval x.2)) ps.toList) = some c' := by
      rw [hpse, List.map_map]
      simpa [madeCells, Function.comp_def] using f1
    simp only [Nat.mul_one] at hfill
    simp [execOp, ho, Instr.buildSlice, run_underlying hu, sizeOf, typeInfo, hi, zeroValue, hzz, hsz, newRow, h0, hmax', hfill]
  · refine ⟨by rw [htl], ⟨w.heap.size, 0, none⟩, by rw [htl], rfl, by simp [newLab], c', e, (0, 0), heap_push_new, fun j t' ht' => ?_⟩
    obtain ⟨x, hx, g2, g3⟩ := k4 j t' ht'
    exact ⟨_, f4 j x hx, g2, g3⟩

end
end Go.Vm

/-
  Every operation but stores, copies and calls of functions.
  Conditions: none.
-/
set_option linter.unusedVariables false
set_option linter.unusedSimpArgs false
namespace Go.Vm

section
variable {P : Program} {S0 S : Vw} {s s' : St} {n : Nat} {w0 : World} {O0 : OMap} {a : Act} {w : World} {O : OMap} {C : Env} {o : Oper} {d : Nat}

theorem defd_nil {us : List Up} {av : AV} (h : us = [] ∧ Defd P S s' n w0 O0 a w o d av) : Defd P (putUps S us) s' n w0 O0 a w o d av := by
  obtain ⟨rfl, h⟩ := h; exact h

theorem chkBin_sound (hS : Sub S0 S) (inv : Inv S s n w0 O0 a w O) (hd : d < n) {op : BinOp} {t t' : TypeId} {x y : Operand} (ho : o.op = .binOp op t x y t') {rhs : VRhs} {av : AV} {us : List Up}
    (h : chkBin P S0 op t x y t' = some (rhs, av, us)) (hr : rhs.run C s (some d) = some s') : Defd P (putUps S us) s' n w0 O0 a w o d av := by
  unfold chkBin at h
  simp only [Option.bind_eq_some_iff] at h
  obtain ⟨⟨v, tx, ox⟩, h1, ⟨u, ty, oy⟩, h2, h⟩ := h
  simp only [] at h
  split at h
  · obtain ⟨_, h⟩ := if_some h
    cases h
    exact bin_sound hS inv hd ho h1 h2 hr
  · split at h
    · cases h
      exact bin_sound hS inv hd ho h1 h2 hr
    · split at h
      case isFalse => cases h
      case isTrue hop =>
      have hop' : op = .eql ∨ op = .neq := by
        cases op <;> first | exact .inl rfl | exact .inr rfl | (exact absurd hop (by decide))
      split at h
      · rename_i heq
        obtain ⟨hc, h⟩ := if_some h
        simp only [Bool.and_eq_true, Bool.not_eq_true'] at hc
        simp only [Option.map_eq_some_iff] at h
        obtain ⟨⟨tt, z⟩, hz, h⟩ := h
        cases h
        exact eqv_sound hS inv hd ho hop' h1 h2 heq hc.1.1 hc.1.2 hc.2 hz hr
      · split at h
        case isFalse => cases h
        case isTrue hsl =>
        obtain ⟨e, he⟩ := Option.isSome_iff_exists.1 hsl
        split at h
        · cases h
          exact isNil_sound hS inv hd hop' ho (isSlice_some he) (.inl ⟨rfl, rfl⟩) h1 hr
        · cases h
          exact isNil_sound hS inv hd hop' ho (isSlice_some he) (.inr ⟨rfl, rfl⟩) h2 hr
        · cases h

theorem chkConvert_sound (hS : Sub S0 S) (inv : Inv S s n w0 O0 a w O) (hd : d < n) {t t' : TypeId} {x : Operand} (ho : o.op = .convert t t' x) {rhs : VRhs} {av : AV} {us : List Up}
    (h : chkConvert P S0 t t' x = some (rhs, av, us)) (hr : rhs.run C s (some d) = some s') : Defd P (putUps S us) s' n w0 O0 a w o d av := by
  unfold chkConvert at h
  simp only [Option.bind_eq_some_iff] at h
  obtain ⟨⟨v, tx, ox⟩, h1, h⟩ := h
  simp only [] at h
  split at h
  · rename_i hi
    simp only [Option.map_eq_some_iff] at h
    obtain ⟨k, hk, h⟩ := h
    cases h
    exact toInt_sound hS inv hd ho hk hi h1 hr
  · split at h
    · cases h
    · rename_i hm
      have hm : matchesTy P t tx = true := by simpa using hm
      split at h
      · rename_i hc
        simp only [Bool.and_eq_true] at hc
        cases h
        exact toStr_sound hS inv hd ho hc.2 h1 hm (.inl hc.1) hr
      · split at h
        · rename_i hst
          simp only [Option.bind_eq_some_iff] at h
          obtain ⟨e, he, h⟩ := h
          obtain ⟨hb, h⟩ := if_some h
          cases h
          exact toBytes_sound hS inv hd ho hst he (by simpa using hb) h1 hr
        · split at h
          · rename_i hst
            simp only [Option.bind_eq_some_iff] at h
            obtain ⟨e, he, h⟩ := h
            obtain ⟨hb, h⟩ := if_some h
            cases h
            exact toStr_sound hS inv hd ho hst h1 hm (.inr ⟨e, he, by simpa using hb⟩) hr
          · cases h

theorem prim_sound {sg : Sigs} {sh : Bool} {keep : Nat → Bool} (hS : Sub S0 S) (inv : Inv S s n w0 O0 a w O) (hd : d < n) (hod : o.dst = some d) {rhs : VRhs} {av : AV} {us : List Up} (h : chkOp P sg sh S0 keep o = some (rhs, av, us)) (hp : plainOp o = true)
    (hr : rhs.run C s (some d) = some s') : Defd P (putUps S us) s' n w0 O0 a w o d av := by
  unfold chkOp at h
  split at h
  case h_1 x ho => exact move_sound hS inv hd ho h hr
  case h_2 x ho => exact assign_sound hS inv hd ho hod h hr
  case h_3 i ho =>
    by_cases hq : isPtr (S0 i).av = true
    · rw [if_pos hq] at h
      exact defd_nil (chkPtr_sound hS inv hd (.inr (.inr ho)) h hr)
    · rw [if_neg hq] at h
      simp only [Option.bind_eq_some_iff] at h
      obtain ⟨⟨i', k, ts⟩, hm, h⟩ := h
      obtain ⟨rfl, h⟩ := if_some h
      have hi' : i' = i := by
        simp only [mpOf] at hm
        split at hm
        · simp only [Option.some.injEq, Prod.mk.injEq] at hm; exact hm.1.symm
        · cases hm
      subst hi'
      simp only [prim1, Option.some.injEq, Prod.mk.injEq] at h
      obtain ⟨rfl, rfl, rfl⟩ := h
      exact mp_nil hS inv hd ho hm hr
  case h_4 c x y ho =>
    simp only [Option.bind_eq_some_iff] at h
    obtain ⟨⟨vc, tc, oc⟩, h0, ⟨vx, tx, ox⟩, h1, ⟨vy, ty, oy⟩, h2, h⟩ := h
    simp only [] at h
    split at h
    case h_2 => cases h
    cases h
    exact pick_sound hS inv hd ho h0 h1 h2 hr
  case h_5 t ho =>
    simp only [Option.map_eq_some_iff] at h
    obtain ⟨⟨ty, z⟩, hz, h⟩ := h
    cases h
    exact alloc_sound inv hd ho hz hr
  case h_6 t x ho =>
    simp only [Option.bind_eq_some_iff] at h
    obtain ⟨⟨v, ty, org⟩, h1, h⟩ := h
    obtain ⟨_, h⟩ := if_some h
    simp only [Option.map_eq_some_iff] at h
    obtain ⟨⟨e, ty'⟩, h2, h⟩ := h
    cases h
    exact box_sound hS inv hd ho h1 h2 hr
  case h_7 t x ho =>
    by_cases hq : (mpOf S0 x).isSome = true
    · rw [if_pos hq] at h
      simp only [Option.bind_eq_some_iff] at h
      obtain ⟨⟨i, k, ts⟩, hm, h⟩ := h
      obtain ⟨hc, h⟩ := if_some h
      simp only [Bool.and_eq_true, decide_eq_true_eq] at hc
      obtain ⟨rfl, hc⟩ := hc
      simp only [prim1, Option.some.injEq, Prod.mk.injEq] at h
      obtain ⟨rfl, rfl, rfl⟩ := h
      exact mp_load hS inv hd ho hm hc hr
    · rw [if_neg hq] at h
      exact defd_nil (load_sound hS inv hd ho h hr)
  case h_8 t x y ho => simp [plainOp, ho] at hp
  case h_9 op t x y t' ho => exact chkBin_sound hS inv hd ho h hr
  case h_10 op t x ho =>
    simp only [Option.bind_eq_some_iff] at h
    obtain ⟨⟨v, ty, org⟩, h1, h⟩ := h
    obtain ⟨_, h⟩ := if_some h
    cases h
    exact un_sound hS inv hd ho h1 hr
  case h_11 t t' x ho => exact chkConvert_sound hS inv hd ho h hr
  case h_12 t x lo hi mx ho => exact defd_nil (slice_sound hS inv hd ho h hr)
  case h_13 t x f ho => exact defd_nil (fieldAddr_sound hS inv hd ho h hr)
  case h_14 t x f ho => exact defd_nil (field_sound hS inv hd ho h hr)
  case h_15 t x ix ho =>
    by_cases hq : (mpOf S0 x).isSome = true
    · rw [if_pos hq] at h
      simp only [Option.bind_eq_some_iff] at h
      obtain ⟨⟨i, k, ts⟩, hm, h⟩ := h
      obtain ⟨rfl, h⟩ := if_some h
      exact defd_nil (mp_index hS inv hd ho hm h hr)
    · rw [if_neg hq] at h
      exact defd_nil (indexAddr_sound hS inv hd ho h hr)
  case h_16 t x ix ho => exact defd_nil (index_sound hS inv hd ho h hr)
  case h_17 t ps ho => rw [hod] at h; exact build_sound hS inv hd ho h hr
  case h_18 t m ps ho =>
    by_cases hq : (((isSlice P t).map (isPtrTy P)) == some true) = true
    · rw [if_pos hq] at h
      exact defd_nil (mp_build hS inv hd ho h hr)
    · rw [if_neg hq] at h
      exact buildSlice_sound hS inv hd ho h hr
  case h_19 t l c ho =>
    simp only [Option.bind_eq_some_iff] at h
    obtain ⟨e, he, ⟨te, z⟩, hz, bytes, hb, ⟨v, t1, o1⟩, h1, ⟨u, t2, o2⟩, h2, h⟩ := h
    obtain ⟨hpos, h⟩ := if_some h
    cases h
    exact makeSlice_sound hS inv hd ho he hz hb hpos h1 h2 hr
  case h_20 i k ho =>
    split at h
    case h_2 => cases h
    case h_1 ts hav =>
    simp only [Option.bind_eq_some_iff] at h
    obtain ⟨t, ht, h⟩ := h
    obtain ⟨_, h⟩ := if_some h
    exact defd_nil (extract_sound hS inv hd ho hav ht h hr)
  case h_21 fn first caps ho => exact defd_nil (makeFunc_sound hS inv hd ho h hr)
  case h_22 c ho =>
    unfold chkCall at h
    split at h
    case h_1 f hcal => simp [plainOp, ho, hcal] at hp
    case h_2 i hcal => simp [plainOp, ho, hcal] at hp
    case h_4 => cases h
    case h_3 b hcal =>
      split at h
      case h_1 _ x t hx ht =>
        by_cases hq : (mpOf S0 x).isSome = true
        · rw [if_pos hq] at h
          simp only [Option.bind_eq_some_iff] at h
          obtain ⟨⟨i, k, ts⟩, hm, h⟩ := h
          obtain ⟨hc, h⟩ := if_some h
          simp only [Bool.and_eq_true, decide_eq_true_eq] at hc
          obtain ⟨rfl, hc⟩ := hc
          obtain ⟨e, he⟩ := Option.isSome_iff_exists.1 hc
          simp only [prim1, Option.some.injEq, Prod.mk.injEq] at h
          obtain ⟨rfl, rfl, rfl⟩ := h
          exact mp_len hS inv hd ho hcal hx ht (isSlice_some he) hm hr
        rw [if_neg hq] at h
        simp only [Option.bind_eq_some_iff] at h
        obtain ⟨⟨v, ty, org⟩, h1, h⟩ := h
        obtain ⟨hc, h⟩ := if_some h
        simp only [Bool.and_eq_true] at hc
        cases h
        exact len_sound hS inv hd ho hcal hx ht h1 hc.1 hc.2 hr
      case h_2 x y t t' hcal' hx ht =>
        simp only [Option.bind_eq_some_iff] at h
        obtain ⟨⟨v, ty, org⟩, h1, ⟨u, ty', org'⟩, h2, h⟩ := h
        obtain ⟨_, h⟩ := if_some h
        cases h
        exact minI_sound hS inv hd ho hcal hx h1 h2 hr
      case h_3 x y t t' hcal' hx ht =>
        simp only [Option.bind_eq_some_iff] at h
        obtain ⟨⟨v, ty, org⟩, h1, ⟨u, ty', org'⟩, h2, h⟩ := h
        obtain ⟨_, h⟩ := if_some h
        cases h
        exact maxI_sound hS inv hd ho hcal hx h1 h2 hr
      case h_4 x y t t' hcal' hx ht => exact append_sound hS inv hd ho hcal hx ht h hr
      case h_5 x y t t' hcal' hx ht => simp [plainOp, ho, hcal] at hp
      case h_6 => cases h
  case h_23 => cases h

end
end Go.Vm

/-
  Calls of functions: the contract, and the arguments.
  Conditions: none.
-/
set_option linter.unusedVariables false
set_option linter.unusedSimpArgs false
namespace Go.Vm

/-! ### the contract -/
/-- the arguments, as the function sees them: parameter `i` is its root `i` -/
def Params (w : World) (O : OMap) : List PM → Nat → List PV → List Value → Prop
  | [], _, xs, vs => xs = [] ∧ vs = []
  | .val ty :: l, i, xs, vs => ∃ x ys v us cs, xs = x :: ys ∧ vs = v :: us ∧ Wrap ty v cs ∧ Rep w O (some i) ty 0 x cs ∧ Params w O l (i + 1) ys us
  | .ref tin _ :: l, i, xs, vs => ∃ x ys us b o cs, xs = x :: ys ∧ vs = .pointer (some ⟨b, o, none⟩) :: us ∧ O b = some (.box i) ∧ BoxAt w b o tin.size cs ∧ Rep w O (some i) tin 0 x cs ∧ x ≠ .undef ∧ Params w O l (i + 1) ys us

/-- what is behind the pointers when the function returns -/
def RefsBack (w : World) (O : OMap) : List PM → Nat → List Value → List PV → Prop
  | [], _, _, rs => rs = []
  | .val _ :: l, i, vs, rs => ∃ v us, vs = v :: us ∧ RefsBack w O l (i + 1) us rs
  | .ref _ tout :: l, i, vs, rs => ∃ us x ys b o cs, vs = .pointer (some ⟨b, o, none⟩) :: us ∧ rs = x :: ys ∧ O b = some (.box i) ∧ BoxAt w b o tout.size cs ∧ Rep w O (some i) tout 0 x cs ∧ x ≠ .undef ∧ RefsBack w O l (i + 1) us ys

/-- the results: result `k` is a root `rt k` -/
def Results (w : World) (O : OMap) (rt : Nat → Nat) : List Ty → Nat → List PV → List Value → Prop
  | [], _, xs, vs => xs = [] ∧ vs = []
  | t :: ts, k, xs, vs => ∃ x ys v us cs, xs = x :: ys ∧ vs = v :: us ∧ Wrap t v cs ∧ Rep w O (some (rt k)) t 0 x cs ∧ Results w O rt ts (k + 1) ys us

def packed : List Value → Value
  | [v] => v
  | vs => .tuple vs.toArray

def isRefAt (l : List PM) (i : Nat) : Prop := ∃ tin tout, l[i]? = some (.ref tin tout)

/-- **The contract of a function.** -/
def CallOK (P : Program) (C : Env) (f : Nat) (g : Sig) : Prop :=
  ∀ xs rs, C f xs = some rs → ∀ (args : List Value) (w : World) (O : OMap), (∀ b, w.heap.size ≤ b → O b = some .foreign) → Params w O g.params 0 xs args →
    Calls P f args.toArray w fun e w' => ∃ O' rt vs, e = .returned (packed vs) ∧ Frame0 w O w' O' ∧ Results w' O' rt g.results 0 (rs.take g.results.length) vs ∧ RefsBack w' O' g.params 0 args (rs.drop g.results.length) ∧
      (∀ k k', k < g.results.length → k' < g.results.length → rt k = rt k' → k = k') ∧ ∀ k, k < g.results.length → ∀ i, isRefAt g.params i → rt k ≠ i

/-! ### the arguments -/
def ArgsAt (s : St) (a : Act) (S : Vw) (w : World) (O : OMap) (OS : Nat → Prop) : List (Operand × TypeId × PM) → Nat → List PV → List (Nat × Option Nat × Ty) → Prop
  | [], _, pvs, rs => pvs = [] ∧ rs = []
  | (x, _, .val ty) :: l, base, pvs, rs => ∃ pv qs cs, pvs = pv :: qs ∧ Wrap ty (a.eval x) cs ∧
      ((ty.isSh = true ∧ RepSh w O ty pv cs) ∨ (ty.isSh = true ∧ ∃ ty' r p, ty'.noDead = true ∧ ty'.sh = ty ∧ Rep w O (some r) ty' p pv cs ∧ ∀ q b, q < ty'.size → O b = some (.own (some r) (p + q)) → OS b) ∨
       Rep w O none ty base pv cs) ∧ ArgsAt s a S w O OS l (base + ty.size) qs rs
  | (x, _, .ref tin tout) :: l, base, pvs, rs => ∃ pv qs r i rs' b o, pvs = pv :: qs ∧ rs = (r, i, tout) :: rs' ∧ a.eval x = .pointer (some ⟨b, o, none⟩) ∧ val a r = .pointer (some ⟨b, o, none⟩) ∧ (S r).av = .box tin ∧
      pv = get s r ∧ get s r ≠ .undef ∧ pathAt s i = some [] ∧ tin.er = tout.er ∧ tin.noDead = true ∧ ArgsAt s a S w O OS l base qs rs'

section
variable {P : Program} {S0 S : Vw} {s s' : St} {n : Nat} {w0 : World} {O0 : OMap} {a : Act} {w : World} {O : OMap} {C : Env} {o : Oper} {d : Nat}

theorem ArgsAt.mono {OS OS' : Nat → Prop} (h : ∀ b, OS b → OS' b) : ∀ {l : List (Operand × TypeId × PM)} {base : Nat} {pvs : List PV} {rs : List (Nat × Option Nat × Ty)}, ArgsAt s a S w O OS l base pvs rs → ArgsAt s a S w O OS' l base pvs rs
  | [], base, pvs, rs, hh => by simpa only [ArgsAt] using hh
  | (x, t, .val ty) :: l, base, pvs, rs, hh => by
    simp only [ArgsAt] at hh ⊢
    obtain ⟨pv, qs, cs, h1, h2, h3, h4⟩ := hh
    refine ⟨pv, qs, cs, h1, h2, ?_, ArgsAt.mono h h4⟩
    rcases h3 with h3 | ⟨h3, ty', r, p, g1, g2, g3, g4⟩ | h3
    · exact .inl h3
    · exact .inr (.inl ⟨h3, ty', r, p, g1, g2, g3, fun q b hq hb => h b (g4 q b hq hb)⟩)
    · exact .inr (.inr h3)
  | (x, t, .ref tin tout) :: l, base, pvs, rs, hh => by
    simp only [ArgsAt] at hh ⊢
    obtain ⟨pv, qs, r, i, rs', b, o, h1, h2, h3, h4, h5, h6, h7, h8, h9, h11, h10⟩ := hh
    exact ⟨pv, qs, r, i, rs', b, o, h1, h2, h3, h4, h5, h6, h7, h8, h9, h11, ArgsAt.mono h h10⟩

theorem putUps_ne : ∀ {us : List Up} {S : Vw} {r : Nat}, (∀ u ∈ us, u.root ≠ r) → putUps S us r = S r
  | [], S, r, _ => rfl
  | u :: us, S, r, h => by
    simp only [putUps]
    rw [putUps_ne (fun v hv => h v (by simp [hv])), putUp_ne (fun e => h u (by simp) e.symm)]

/-- the blocks that are looked at, as the labels tell them -/
def Looked (O : OMap) (os : List (Nat × Nat × Nat)) (b : Nat) : Prop := ∃ o q, o ∈ os ∧ inRange o.2.1 o.2.2 q = true ∧ O b = some (.own (some o.1) q)

theorem args_sound : ∀ {l : List (Operand × TypeId × PM)} {S0 S : Vw} {O : OMap} (base : Nat) {vs : List VX} {rs : List (Nat × Option Nat × Ty)} {os : List (Nat × Nat × Nat)} {us : List Up} {pvs : List PV},
    argsOf P S0 l = some (vs, rs, os, us) → Sub S0 S → Inv S s n w0 O0 a w O → evals s vs = some pvs → (∀ u ∈ us, ∀ x ∈ rs, u.root ≠ x.1) → (∀ u ∈ us, ∀ x ∈ os, u.root ≠ x.1) →
    ∃ O', Inv (putUps S us) s n w0 O0 a w O' ∧ Sub (putUps S0 us) (putUps S us) ∧ KeptLab O O' us ∧ ArgsAt s a (putUps S us) w O' (Looked O' os) l base pvs rs ∧ pvs.length = l.length
  | [], S0, S, O, base, vs, rs, os, us, pvs, h, hS, inv, he, _, _ => by
    simp [argsOf] at h
    obtain ⟨rfl, rfl, rfl, rfl⟩ := h
    simp [evals] at he; subst he
    exact ⟨O, inv, hS, KeptLab.refl _ _, by simp [ArgsAt], rfl⟩
  | (x, t, .val ty) :: l, S0, S, O, base, vs, rs, os, us, pvs, h, hS, inv, he, hur, huo => by
    simp only [argsOf, Option.bind_eq_some_iff] at h
    obtain ⟨⟨v, ty', org⟩, h1, h⟩ := h
    have hty : ty'.sh = ty.sh := Ty.beq_eq (if_some h).1
    replace h := (if_some h).2
    simp only [] at h
    by_cases hsh : ty.isSh = true
    · rw [if_pos hsh] at h
      simp only [Option.map_eq_some_iff] at h
      obtain ⟨⟨vs', rs', os', us'⟩, h2, h⟩ := h
      cases h
      obtain ⟨pv, qs, e1, e2, rfl⟩ := evals_cons he
      obtain ⟨cs, g1, g2, g3⟩ := rd_sound hS inv h1 e1
      rw [Ty.sh_of_isSh hsh] at hty
      have her : ty'.er = ty.er := by rw [← hty, sh_er]
      obtain ⟨O', inv', k1, k2, k3, k4⟩ := args_sound (base + ty.size) h2 hS inv e2 hur (fun u hu x hx => huo u hu x (by
        cases org with
        | none => exact hx
        | some og => obtain ⟨r, pos, q⟩ := og; simp only []; split
                     · exact hx
                     · exact List.mem_cons_of_mem _ hx))
      refine ⟨O', inv', k1, k2, ?_, by simp [k4]⟩
      simp only [ArgsAt]
      refine ⟨pv, qs, cs, rfl, g1.er her, ?_, ArgsAt.mono (fun b hb => ?_) k3⟩
      · have toSh : RepSh w O ty' pv cs → RepSh w O' ty pv cs := fun hr => by
          have h5 := (RepSh.er (t := ty') 0).1 (k2.repSh hr)
          have h6 : ty'.modAt (fun _ _ => .sh) 0 = ty.modAt (fun _ _ => .sh) 0 := her
          rw [h6] at h5
          exact (RepSh.er 0).2 h5
        cases org with
        | none =>
          exact .inl ⟨hsh, toSh (Rep.repSh (ρ := none) (p := 0) g3 (share_sound.Rep.both (g2 (some n) 0) (g2 none 0)))⟩
        | some og =>
          obtain ⟨r, pos, q⟩ := og
          by_cases hno : ty'.noOwn = true
          · left
            refine ⟨hsh, toSh ?_⟩
            have hle : LeTy (fun q m => Turns w O (some r) w O (some r) (pos + q) (pos + q) m) 0 ty' ty'.sh := take_sound'.LeTy.noOwnSh 0 0 hno
            exact Rep.repSh g3 (Rep.shift (o := 0) (Keeps.refl w O) hle g2)
          · right; left
            refine ⟨hsh, ty', r, pos, g3, hty, k2.rep (fun u hu e => huo u hu (r, pos, ty'.size) (by simp [hno]) (by injection e with e; exact e.symm)) g2, fun q b hq hb => ?_⟩
            exact ⟨(r, pos, ty'.size), pos + q, by simp [hno], by show inRange pos ty'.size (pos + q) = true; rw [inRange_iff]; omega, hb⟩
      · obtain ⟨o, q, h3, h4, h5⟩ := hb
        refine ⟨o, q, ?_, h4, h5⟩
        cases org with
        | none => exact h3
        | some og => obtain ⟨r, pos, q⟩ := og; simp only []; split
                     · exact h3
                     · exact List.mem_cons_of_mem _ h3
    · rw [if_neg hsh] at h
      have hte := Ty.beq_eq (if_some h).1
      replace h := (if_some h).2
      subst hte
      simp only [Option.bind_eq_some_iff, Option.map_eq_some_iff] at h
      obtain ⟨e, he1, ⟨vs', rs', os', us'⟩, h2, h9⟩ := h
      simp only [Option.some.injEq, Prod.mk.injEq] at h9
      obtain ⟨rfl, rfl, rfl, rfl⟩ := h9
      obtain ⟨pv, qs, e1, e2, rfl⟩ := evals_cons he
      obtain ⟨cs, g1, g2, g3⟩ := rd_sound hS inv h1 e1
      -- the move
      obtain ⟨O1, inv1, hrep, hsub, hk⟩ : ∃ O1, Inv (putUps S e) s n w0 O0 a w O1 ∧ Rep w O1 none ty' base pv cs ∧ Sub (putUps S0 e) (putUps S e) ∧ KeptLab O O1 e := by
        cases org with
        | none =>
          simp at he1; subst he1
          exact ⟨O, inv, g2 _ _, hS, KeptLab.refl _ _⟩
        | some og =>
          obtain ⟨r, pos, q⟩ := og
          simp only [Option.map_eq_some_iff] at he1
          obtain ⟨u, hu, rfl⟩ := he1
          obtain ⟨hu', hsub⟩ := take_sound'.setOwn_view hS hu
          have hrl := moveLab_relab O r pos ty'.size none base
          refine ⟨_, inv.ghost (.inr rfl) hu' hrl, ?_, hsub, Relab.kept (by rw [(setOwn_cases hu).1]; exact hrl)⟩
          exact Rep.move (fun b hb => ⟨hrl.none hb, rfl⟩) (fun q b hq hb => ⟨moveLab_own hq hb, rfl⟩) g2
      obtain ⟨O', inv', k1, k2, k3, k4⟩ := args_sound (base + ty'.size) h2 hsub inv1 e2 (fun u hu => hur u (by simp [hu])) (fun u hu => huo u (by simp [hu]))
      refine ⟨O', by rw [putUps_append]; exact inv', by rw [putUps_append, putUps_append]; exact k1, hk.trans k2, ?_, by simp [k4]⟩
      simp only [ArgsAt]
      refine ⟨pv, qs, cs, rfl, g1, .inr (.inr (k2.rep (fun u hu e => by cases e) hrep)), ?_⟩
      rw [putUps_append]; exact k3
  | (x, t, .ref tin tout) :: l, S0, S, O, base, vs, rs, os, us, pvs, h, hS, inv, he, hur, huo => by
    simp only [argsOf, Option.bind_eq_some_iff] at h
    obtain ⟨⟨r, k, i⟩, h1, h⟩ := h
    simp only [] at h
    split at h
    case h_2 => cases h
    case h_1 =>
    split at h
    case h_2 => cases h
    case h_1 ty hav0 =>
    have hc := (if_some h).1
    replace h := (if_some h).2
    simp only [Bool.and_eq_true] at hc
    have hte := Ty.beq_eq hc.1.1
    have her := Ty.beq_eq hc.1.2
    have hndt := hc.2
    clear hc
    subst hte
    simp only [Option.map_eq_some_iff] at h
    obtain ⟨⟨vs', rs', os', us'⟩, h2, h9⟩ := h
    simp only [Option.some.injEq, Prod.mk.injEq] at h9
    obtain ⟨rfl, rfl, rfl, rfl⟩ := h9
    obtain ⟨pv, qs, e1, e2, rfl⟩ := evals_cons he
    simp only [VX.eval, Option.bind_eq_some_iff] at e1
    obtain ⟨q, hq, xr, hxr, hg⟩ := e1
    obtain ⟨hne, hgr⟩ := have_some hxr
    obtain ⟨ty0, b, o', u, off, hSr, hav, hx, hval, hmp, hat⟩ := rdP_b hS inv h1 hq hne
    cases hmp
    simp [Ty.at] at hat
    obtain ⟨rfl, rfl⟩ := hat
    rw [hSr, hav] at hav0
    cases hav0
    simp only [getP, Option.some.injEq] at hg
    obtain ⟨O', inv', k1, k2, k3, k4⟩ := args_sound base h2 hS inv e2 (fun u hu x hx => hur u hu x (by simp [hx])) huo
    refine ⟨O', inv', k1, k2, ?_, by simp [k4]⟩
    simp only [ArgsAt]
    refine ⟨pv, qs, r, i, rs', b, o', rfl, rfl, by simpa using hx, hval, ?_, by rw [← hg, hgr], hne, hq, her, hndt, k3⟩
    rw [putUps_ne (fun u hu => hur u hu (r, i, tout) (by simp))]
    exact hav

/-- what is looked at is shared, for good -/
theorem shareAll_sound : ∀ {os : List (Nat × Nat × Nat)} {S0 S : Vw} {O : OMap} {us : List Up}, shareAll S0 os = some us → Sub S0 S → Inv S s n w0 O0 a w O →
    ∃ O', Inv (putUps S us) s n w0 O0 a w O' ∧ Sub (putUps S0 us) (putUps S us) ∧ KeptLab O O' us ∧ (∀ b, Looked O os b → O' b = none) ∧ (∀ u ∈ us, ∃ x ∈ os, u.root = x.1) ∧ (∀ b, O' b = O b ∨ O' b = none)
  | [], S0, S, O, us, h, hS, inv => by
    simp [shareAll] at h; subst h
    exact ⟨O, inv, hS, KeptLab.refl _ _, fun b ⟨o, q, h, _⟩ => by simp at h, fun u hu => by simp at hu, fun b => .inl rfl⟩
  | (r, pos, k) :: os, S0, S, O, us, h, hS, inv => by
    simp only [shareAll, Option.bind_eq_some_iff, Option.map_eq_some_iff] at h
    obtain ⟨u, hu, us', h2, rfl⟩ := h
    obtain ⟨hu', hsub⟩ := take_sound'.setOwn_view hS hu
    have hrl := shareLab_relab O r pos k
    have hroot := (setOwn_cases hu).1
    have inv1 := inv.ghost (.inl rfl) hu' hrl
    obtain ⟨O', inv', k1, k2, k3, k4, k5⟩ := shareAll_sound h2 hsub inv1
    have hone : ∀ b, shareLab O r pos k b = O b ∨ shareLab O r pos k b = none := fun b => by
      unfold shareLab
      split
      · split
        · exact .inr rfl
        · exact .inl rfl
      · exact .inl rfl
    refine ⟨O', inv', k1, (Relab.kept (u := u) (by rw [hroot]; exact hrl)).trans k2, fun b hb => ?_, fun v hv => ?_, fun b => ?_⟩
    · obtain ⟨o, q, h3, h4, h5⟩ := hb
      by_cases ho : shareLab O r pos k b = none
      · exact k2.none ho
      · have heq := (hone b).resolve_right ho
        rcases List.mem_cons.1 h3 with rfl | h3
        · exact absurd (hrl.shared rfl b q h4 h5) ho
        · exact k3 b ⟨o, q, h3, h4, by rw [heq]; exact h5⟩
    · rcases List.mem_cons.1 hv with rfl | hv
      · exact ⟨(r, pos, k), by simp, hroot⟩
      · obtain ⟨x, hx, hxr⟩ := k4 v hv; exact ⟨x, by simp [hx], hxr⟩
    · rcases k5 b with h | h
      · rcases hone b with h' | h'
        · exact .inl (h.trans h')
        · exact .inr (h.trans h')
      · exact .inr h

/-- the arguments, after what is looked at is shared -/
theorem ArgsAt.shared {O' : OMap} {us : List Up} {OS : Nat → Prop} (hk : KeptLab O O' us) (hos : ∀ b, OS b → O' b = none) (hO : ∀ b, O' b = O b ∨ O' b = none) :
    ∀ {l : List (Operand × TypeId × PM)} {base : Nat} {pvs : List PV} {rs : List (Nat × Option Nat × Ty)}, (∀ u ∈ us, ∀ x ∈ rs, u.root ≠ x.1) → ArgsAt s a S w O OS l base pvs rs → ArgsAt s a (putUps S us) w O' (fun _ => False) l base pvs rs
  | [], base, pvs, rs, _, hh => by simpa only [ArgsAt] using hh
  | (x, t, .val ty) :: l, base, pvs, rs, hr, hh => by
    simp only [ArgsAt] at hh ⊢
    obtain ⟨pv, qs, cs, h1, h2, h3, h4⟩ := hh
    refine ⟨pv, qs, cs, h1, h2, ?_, ArgsAt.shared hk hos hO hr h4⟩
    rcases h3 with ⟨h3, g1⟩ | ⟨h3, ty', r, p, g1, g2, g3, g4⟩ | h3
    · exact .inl ⟨h3, hk.repSh g1⟩
    · left
      refine ⟨h3, ?_⟩
      have h5 : Rep w O' (some r) ty'.sh p pv cs := Rep.toSh (ρ := some r) (some r) p (fun b hb => ⟨hk.none hb, rfl⟩) (fun q b hq hb => ⟨hos b (g4 q b hq hb), rfl⟩) g3
      rw [g2] at h5
      exact (RepSh.rep (some r) p h3).2 h5
    · exact .inr (.inr (hk.rep (fun u hu e => by cases e) h3))
  | (x, t, .ref tin tout) :: l, base, pvs, rs, hr, hh => by
    simp only [ArgsAt] at hh ⊢
    obtain ⟨pv, qs, r, i, rs', b, o, h1, rfl, h3, h4, h5, h6, h7, h8, h9, h11, h10⟩ := hh
    exact ⟨pv, qs, r, i, rs', b, o, h1, rfl, h3, h4, by rw [putUps_ne (fun u hu => hr u hu (r, i, tout) (by simp))]; exact h5, h6, h7, h8, h9, h11, ArgsAt.shared hk hos hO (fun u hu x hx => hr u hu x (by simp [hx])) h10⟩

end
end Go.Vm

/-
  Calls of functions: labels into the callee and back.
  Conditions: none.
-/
set_option linter.unusedVariables false
set_option linter.unusedSimpArgs false
namespace Go.Vm
open Classical

/-! ### places of parameters -/
def pslot : List PM → Nat → Nat → Nat → Option (Nat × Nat)
  | [], _, _, _ => none
  | .val ty :: l, i, base, q => if base ≤ q ∧ q < base + ty.size then some (i, q - base) else pslot l (i + 1) (base + ty.size) q
  | .ref _ _ :: l, i, base, q => pslot l (i + 1) base q

def rslot : List PM → Nat → List Nat → Nat → Option Nat
  | .val _ :: l, i, rs, r => rslot l (i + 1) rs r
  | .ref _ _ :: l, i, r0 :: rs, r => if r = r0 then some i else rslot l (i + 1) rs r
  | _, _, _, _ => none

def islot : List PM → Nat → List Nat → Nat → Option Nat
  | .val _ :: l, i, rs, j => islot l (i + 1) rs j
  | .ref _ _ :: l, i, r0 :: rs, j => if j = i then some r0 else islot l (i + 1) rs j
  | _, _, _, _ => none

theorem pslot_ge : ∀ {l : List PM} {i base q : Nat} {x : Nat × Nat}, pslot l i base q = some x → base ≤ q
  | [], i, base, q, x, h => by simp [pslot] at h
  | .val ty :: l, i, base, q, x, h => by
    simp only [pslot] at h
    split at h
    · rename_i hc; exact hc.1
    · have := pslot_ge h; omega
  | .ref _ _ :: l, i, base, q, x, h => by simp only [pslot] at h; exact pslot_ge h

theorem rslot_mem : ∀ {l : List PM} {i : Nat} {rs : List Nat} {r j : Nat}, rslot l i rs r = some j → r ∈ rs
  | [], i, rs, r, j, h => by simp [rslot] at h
  | .val _ :: l, i, rs, r, j, h => by simp only [rslot] at h; exact rslot_mem h
  | .ref _ _ :: l, i, [], r, j, h => by simp [rslot] at h
  | .ref _ _ :: l, i, r0 :: rs, r, j, h => by
    simp only [rslot] at h
    split at h
    · rename_i hc; simp [hc]
    · exact List.mem_cons_of_mem _ (rslot_mem h)

theorem islot_ge : ∀ {l : List PM} {i : Nat} {rs : List Nat} {j r : Nat}, islot l i rs j = some r → i ≤ j
  | [], i, rs, j, r, h => by simp [islot] at h
  | .val _ :: l, i, rs, j, r, h => by simp only [islot] at h; have := islot_ge h; omega
  | .ref _ _ :: l, i, [], j, r, h => by simp [islot] at h
  | .ref _ _ :: l, i, r0 :: rs, j, r, h => by
    simp only [islot] at h
    split at h
    · rename_i hc; omega
    · have := islot_ge h; omega

theorem islot_ref : ∀ {l : List PM} {i : Nat} {rs : List Nat} {j r : Nat}, islot l i rs j = some r → ∃ tin tout, l[j - i]? = some (.ref tin tout)
  | [], i, rs, j, r, h => by simp [islot] at h
  | .val _ :: l, i, rs, j, r, h => by
    simp only [islot] at h
    have h1 := islot_ge h
    obtain ⟨tin, tout, h2⟩ := islot_ref h
    have : j - i = (j - (i + 1)) + 1 := by omega
    exact ⟨tin, tout, by rw [this]; simpa using h2⟩
  | .ref _ _ :: l, i, [], j, r, h => by simp [islot] at h
  | .ref tin tout :: l, i, r0 :: rs, j, r, h => by
    simp only [islot] at h
    split at h
    · rename_i hc; subst hc; exact ⟨tin, tout, by simp⟩
    · have h1 := islot_ge h
      obtain ⟨tin, tout, h2⟩ := islot_ref h
      have : j - i = (j - (i + 1)) + 1 := by omega
      exact ⟨tin, tout, by rw [this]; simpa using h2⟩

theorem nodupN_cons {a : Nat} {l : List Nat} (h : nodupN (a :: l) = true) : a ∉ l ∧ nodupN l = true := by
  simp only [nodupN, Bool.and_eq_true, Bool.not_eq_true'] at h
  exact ⟨by simpa using h.1, h.2⟩

section
variable {P : Program} {S0 S : Vw} {s s' : St} {n : Nat} {w0 : World} {O0 : OMap} {a : Act} {w : World} {O : OMap} {C : Env} {o : Oper} {d : Nat}

/-- the labels, as the function sees them -/
noncomputable def inLab (O : OMap) (OS : Nat → Prop) (pms : List PM) (roots : List Nat) : OMap := fun b => if OS b then none else match O b with
  | none => none
  | some (.own none q) => match pslot pms 0 0 q with
    | some (i, q') => some (.own (some i) q')
    | none => some .foreign
  | some (.own (some r) q) => match rslot pms 0 roots r with
    | some i => some (.own (some i) q)
    | none => some .foreign
  | some (.box r) => match rslot pms 0 roots r with
    | some i => some (.box i)
    | none => some .foreign
  | some .foreign => some .foreign

theorem params_sound (inv : Inv S s n w0 O0 a w O) {OS : Nat → Prop} {OI : OMap} (hn : ∀ b, O b = none → OI b = none) (hos : ∀ b, OS b → OI b = none) :
    ∀ {l : List (Operand × TypeId × PM)} {i base : Nat} {pvs : List PV} {rs : List (Nat × Option Nat × Ty)}, ArgsAt s a S w O OS l base pvs rs → nodupN (rs.map (·.1)) = true →
    (∀ b q j q', O b = some (.own none q) → pslot (l.map (·.2.2)) i base q = some (j, q') → OI b = some (.own (some j) q')) →
    (∀ b r j, rslot (l.map (·.2.2)) i (rs.map (·.1)) r = some j → (∀ q, O b = some (.own (some r) q) → OI b = some (.own (some j) q)) ∧ (O b = some (.box r) → OI b = some (.box j))) →
    Params w OI (l.map (·.2.2)) i pvs (l.map fun x => a.eval x.1)
  | [], i, base, pvs, rs, h, _, _, _ => by
    simp only [ArgsAt] at h
    simp [Params, h.1]
  | (x, t, .val ty) :: l, i, base, pvs, rs, h, hnd, hp, hr => by
    simp only [ArgsAt] at h
    obtain ⟨pv, qs, cs, rfl, h2, h3, h4⟩ := h
    simp only [List.map_cons, Params]
    refine ⟨pv, qs, _, _, cs, rfl, rfl, h2, ?_, params_sound inv hn hos h4 hnd (fun b q j q' hb hq => hp b q j q' hb ?_) (fun b r j hj => hr b r j (by simpa only [List.map_cons, rslot] using hj))⟩
    · rcases h3 with ⟨h3, g1⟩ | ⟨h3, ty', r, p, g1, g2, g3, g4⟩ | h3
      · exact (RepSh.rep (some i) 0 h3).1 (RepSh.keep (fun b hb => ⟨hn b hb, rfl⟩) g1)
      · have := Rep.toSh (w' := w) (O' := OI) (ρ := some r) (some i) 0 (fun b hb => ⟨hn b hb, rfl⟩) (fun q b hq hb => ⟨hos b (g4 q b hq hb), rfl⟩) g3
        rwa [g2] at this
      · refine Rep.move (fun b hb => ⟨hn b hb, rfl⟩) (fun q b hq hb => ⟨?_, rfl⟩) h3
        have := hp b (base + q) i q hb (by
          simp only [List.map_cons, pslot]
          rw [if_pos ⟨by omega, by omega⟩]
          congr 2; omega)
        simpa using this
    · simp only [List.map_cons, pslot]
      have := pslot_ge hq
      rw [if_neg (by omega)]
      exact hq
  | (x, t, .ref tin tout) :: l, i, base, pvs, rs, h, hnd, hp, hr => by
    simp only [ArgsAt] at h
    obtain ⟨pv, qs, r, i', rs', b, o, rfl, rfl, h3, h4, h5, h6, h7, h8, h9, h11, h10⟩ := h
    simp only [List.map_cons] at hnd
    obtain ⟨hr0, hnd'⟩ := nodupN_cons hnd
    simp only [List.map_cons, Params]
    have hok := (inv.cell r (lt_of_alive inv (by rw [h5]; simp))).resolve_left h7
    simp only [CellOK, h5] at hok
    obtain ⟨b2, o2, cs, q1, q2, q3, q4⟩ := hok
    rw [h4] at q1; cases q1
    have hhead := hr b r i (by simp [rslot])
    refine ⟨pv, qs, _, b, o, cs, rfl, by rw [h3], hhead.2 q2, q3, ?_, by rw [h6]; exact h7, params_sound inv hn hos h10 hnd' (fun b q j q' hb hq => hp b q j q' hb (by simpa only [List.map_cons, pslot] using hq)) (fun b r' j hj => ?_)⟩
    · rw [h6]
      refine Rep.move (fun b hb => ⟨hn b hb, rfl⟩) (fun q k hq hb => ⟨?_, rfl⟩) q4
      exact (hr k r i (by simp [rslot])).1 _ hb
    · refine hr b r' j ?_
      simp only [List.map_cons, rslot]
      have := rslot_mem hj
      rw [if_neg (fun e => hr0 (by rw [← e]; exact this))]
      exact hj

/-! ### types that nobody else looks into -/
def strip (O : OMap) : OMap := fun b => match O b with
  | none => some .foreign
  | l => l

mutual
theorem RepSh.noSl {w w' : World} {O O' : OMap} : ∀ {t : Ty} {x : PV} {cs : List Value}, t.noSl = true → RepSh w O t x cs → RepSh w' O' t x cs
  | .sc, x, cs, _, h => by simpa only [RepSh] using h
  | .agg l, x, cs, hl, h => by
    simp only [RepSh] at h ⊢
    obtain ⟨xs, hx, h⟩ := h
    exact ⟨xs, hx, RepShs.noSl (by simpa only [Ty.noSl] using hl) h⟩
  | .sl m e, x, cs, hl, h => by simp [Ty.noSl] at hl
theorem RepShs.noSl {w w' : World} {O O' : OMap} : ∀ {l : List Ty} {xs : List PV} {cs : List Value}, Ty.noSls l = true → RepShs w O l xs cs → RepShs w' O' l xs cs
  | [], xs, cs, _, h => by simpa only [RepShs] using h
  | t :: ts, xs, cs, hl, h => by
    simp only [Ty.noSls, Bool.and_eq_true] at hl
    simp only [RepShs] at h ⊢
    obtain ⟨y, ys, c1, c2, hx, hc, h1, h2⟩ := h
    exact ⟨y, ys, c1, c2, hx, hc, RepSh.noSl hl.1 h1, RepShs.noSl hl.2 h2⟩
end

mutual
theorem Rep.strip {w : World} {O : OMap} {ρ : Option Nat} : ∀ {t : Ty} {p : Nat} {x : PV} {cs : List Value}, t.lone = true → Rep w O ρ t p x cs → Rep w (strip O) ρ t p x cs
  | .sc, p, x, cs, _, h => by simpa only [Rep] using h
  | .agg l, p, x, cs, hl, h => by
    simp only [Rep] at h ⊢
    obtain ⟨xs, hx, h⟩ := h
    exact ⟨xs, hx, Reps.strip (by simpa only [Ty.lone] using hl) h⟩
  | .sl m e, p, x, cs, hl, h => by
    simp only [Ty.lone, Bool.and_eq_true, beq_iff_eq] at hl
    obtain ⟨rfl, hl⟩ := hl
    simp only [Rep, SlRep, OwnSl] at h ⊢
    obtain ⟨nl, xs, hx, h⟩ := h
    refine ⟨nl, xs, hx, ?_⟩
    rcases h with h | ⟨h0, ad, cap, h1, h2, h3, h4⟩
    · exact .inl h
    · refine .inr ⟨h0, ad, cap, h1, h2, h3, ?_⟩
      rcases h4 with h4 | ⟨g1, c, el, fr, g2, g3, g4, g5⟩
      · exact .inl h4
      · exact .inr ⟨by simp [Vm.strip, g1], c, el, fr, g2, g3, g4, fun i y hy => RepSh.noSl hl (g5 i y hy)⟩
theorem Reps.strip {w : World} {O : OMap} {ρ : Option Nat} : ∀ {l : List Ty} {p : Nat} {xs : List PV} {cs : List Value}, Ty.lones l = true → Reps w O ρ l p xs cs → Reps w (strip O) ρ l p xs cs
  | [], p, xs, cs, _, h => by simpa only [Reps] using h
  | t :: ts, p, xs, cs, hl, h => by
    simp only [Ty.lones, Bool.and_eq_true] at hl
    simp only [Reps] at h ⊢
    obtain ⟨y, ys, c1, c2, hx, hc, h1, h2⟩ := h
    exact ⟨y, ys, c1, c2, hx, hc, Rep.strip hl.1 h1, Reps.strip hl.2 h2⟩
end

theorem strip_own {O : OMap} {b : Nat} {ρ : Option Nat} {p : Nat} (h : strip O b = some (.own ρ p)) : O b = some (.own ρ p) := by
  unfold strip at h
  split at h
  · cases h
  · exact h

theorem strip_none {O : OMap} {b : Nat} : strip O b ≠ none := by
  unfold strip
  split
  · simp
  · assumption

/-- moved, where what is shared stays or nothing is shared -/
theorem Rep.move' {w : World} {O O' : OMap} {ρ ρ' : Option Nat} {t : Ty} {p p' : Nat} {x : PV} {cs : List Value} (hk : (∀ b, O b = none → O' b = none) ∨ t.lone = true)
    (ht : ∀ q b, q < t.size → O b = some (.own ρ (p + q)) → O' b = some (.own ρ' (p' + q))) (h : Rep w O ρ t p x cs) : Rep w O' ρ' t p' x cs := by
  rcases hk with hk | hk
  · exact Rep.move (fun b hb => ⟨hk b hb, rfl⟩) (fun q b hq hb => ⟨ht q b hq hb, rfl⟩) h
  · exact Rep.move (O := Vm.strip O) (fun b hb => absurd hb strip_none) (fun q b hq hb => ⟨ht q b hq (strip_own hb), rfl⟩) (Rep.strip hk h)

theorem Rep.toSh' {w : World} {O O' : OMap} {ρ ρ' : Option Nat} {t : Ty} {p p' : Nat} {x : PV} {cs : List Value} (hk : (∀ b, O b = none → O' b = none) ∨ t.lone = true)
    (ht : ∀ q b, q < t.size → O b = some (.own ρ (p + q)) → O' b = none) (h : Rep w O ρ t p x cs) : Rep w O' ρ' t.sh p' x cs := by
  rcases hk with hk | hk
  · exact Rep.toSh ρ' p' (fun b hb => ⟨hk b hb, rfl⟩) (fun q b hq hb => ⟨ht q b hq hb, rfl⟩) h
  · exact Rep.toSh (O := Vm.strip O) ρ' p' (fun b hb => absurd hb strip_none) (fun q b hq hb => ⟨ht q b hq (strip_own hb), rfl⟩) (Rep.strip hk h)

/-! ### what is behind the pointers -/
theorem setRefs_get : ∀ {rs : List (Nat × Option Nat)} {ys : List PV} {s s' : St}, (∀ x ∈ rs, pathAt s x.2 = some []) → (∀ x ∈ rs, ∀ p, get s x.1 ≠ .ptr p) → (∀ x ∈ rs, x.1 < s.length) → nodupN (rs.map (·.1)) = true → setRefs s rs ys = some s' →
    s'.length = s.length ∧ ys.length = rs.length ∧ (∀ j, (∀ x ∈ rs, x.1 ≠ j) → get s' j = get s j) ∧ ∀ (k : Nat) (x : Nat × Option Nat) (y : PV), rs[k]? = some x → ys[k]? = some y → get s' x.1 = y
  | [], [], s, s', _, _, _, _, h => by
    simp [setRefs] at h; subst h
    exact ⟨rfl, rfl, fun j _ => rfl, fun k x y hx => by simp at hx⟩
  | [], y :: ys, s, s', _, _, _, _, h => by simp [setRefs] at h
  | x :: rs, [], s, s', _, _, _, _, h => by simp [setRefs] at h
  | (r, p) :: rs, y :: ys, s, s', hp, hptr, hlt, hnd, h => by
    simp only [List.map_cons] at hnd
    obtain ⟨hr0, hnd'⟩ := nodupN_cons hnd
    have hp0 := hp (r, p) (by simp)
    have hl0 := hlt (r, p) (by simp)
    simp only [] at hp0 hl0
    simp only [setRefs, Option.bind_eq_some_iff] at h
    obtain ⟨q, hq, xr, hxr, z, hz, h⟩ := h
    rw [hp0] at hq; cases hq
    simp only [setP, Option.some.injEq] at hz; subst hz
    have hne : ∀ x ∈ rs, x.1 ≠ r := fun x hx e => hr0 (by rw [← e]; exact List.mem_map_of_mem hx)
    obtain ⟨g1, g2, g3, g4⟩ := setRefs_get (s := s.set r y) (rs := rs) (ys := ys) (s' := s') (fun x hx => by
      have h1 := hp x (by simp [hx])
      cases hx2 : x.2 with
      | none => rfl
      | some i =>
        rw [hx2] at h1
        have h2 := pathAt_some h1
        have hi : i ≠ r := fun e => hptr (r, p) (by simp) [] (by rw [← e]; exact h2)
        simp only [pathAt]
        rw [get_set _ _ _ _ hl0, if_neg hi, h2]) (fun x hx p' => by
      rw [get_set _ _ _ _ hl0, if_neg (hne x hx)]; exact hptr x (by simp [hx]) p') (fun x hx => by simpa using hlt x (by simp [hx])) hnd' h
    refine ⟨by simpa using g1, by simp [g2], fun j hj => ?_, fun k x y' hx hy => ?_⟩
    · rw [g3 j (fun x hx => hj x (by simp [hx])), get_set _ _ _ _ hl0, if_neg (fun e => hj (r, p) (by simp) e.symm)]
    · cases k with
      | zero =>
        simp at hx hy
        subst hx; subst hy
        rw [g3 r (fun x hx => hne x hx), get_set _ _ _ _ hl0, if_pos rfl]
      | succ k => exact g4 k x y' (by simpa using hx) (by simpa using hy)

/-- a root that was handed on, when the function has returned -/
theorem refs_back {w' : World} {O' : OMap} {OS : Nat → Prop} : ∀ {l : List (Operand × TypeId × PM)} {i base : Nat} {pvs ys : List PV} {rs : List (Nat × Option Nat × Ty)}, ArgsAt s a S w O OS l base pvs rs →
    RefsBack w' O' (l.map (·.2.2)) i (l.map fun x => a.eval x.1) ys → ys.length = rs.length ∧ ∀ (k : Nat) (x : Nat × Option Nat × Ty), rs[k]? = some x →
      ∃ j y b o cs tin, ys[k]? = some y ∧ islot (l.map (·.2.2)) i (rs.map (·.1)) j = some x.1 ∧ val a x.1 = .pointer (some ⟨b, o, none⟩) ∧ O' b = some (.box j) ∧ BoxAt w' b o x.2.2.size cs ∧ Rep w' O' (some j) x.2.2 0 y cs ∧ y ≠ .undef ∧
        (S x.1).av = .box tin ∧ tin.er = x.2.2.er ∧ tin.noDead = true ∧ get s x.1 ≠ .undef ∧ pathAt s x.2.1 = some []
  | [], i, base, pvs, ys, rs, h, hb => by
    simp only [ArgsAt] at h
    simp only [List.map_nil, RefsBack] at hb
    subst hb
    exact ⟨by simp [h.2], fun k x hx => by simp [h.2] at hx⟩
  | (x, t, .val ty) :: l, i, base, pvs, ys, rs, h, hb => by
    simp only [ArgsAt] at h
    obtain ⟨pv, qs, cs, rfl, h2, h3, h4⟩ := h
    simp only [List.map_cons, RefsBack] at hb
    obtain ⟨v, us, hv, hb⟩ := hb
    obtain ⟨_, rfl⟩ := List.cons.inj hv
    obtain ⟨g1, g2⟩ := refs_back h4 hb
    refine ⟨g1, fun k y hy => ?_⟩
    obtain ⟨j, r⟩ := g2 k y hy
    exact ⟨j, by simpa only [List.map_cons, islot] using r⟩
  | (x, t, .ref tin tout) :: l, i, base, pvs, ys, rs, h, hb => by
    simp only [ArgsAt] at h
    obtain ⟨pv, qs, r, i', rs', b, o, rfl, rfl, h3, h4, h5, h6, h7, h8, h9, h11, h10⟩ := h
    simp only [List.map_cons, RefsBack] at hb
    obtain ⟨us, y, ys', b2, o2, cs, hv, rfl, q1, q2, q3, q4, hb⟩ := hb
    obtain ⟨hv1, rfl⟩ := List.cons.inj hv
    rw [h3] at hv1; cases hv1
    obtain ⟨g1, g2⟩ := refs_back h10 hb
    refine ⟨by simp [g1], fun k x' hx => ?_⟩
    cases k with
    | zero =>
      simp at hx; subst hx
      exact ⟨i, y, b, o, cs, tin, rfl, by simp [islot], h4, q1, q2, q3, q4, h5, h9, h11, h7, h8⟩
    | succ k =>
      obtain ⟨j, y', b', o', cs', tin', k1, k2, k3⟩ := g2 k x' (by simpa using hx)
      have := islot_ge k2
      refine ⟨j, y', b', o', cs', tin', by simpa using k1, ?_, k3⟩
      simp only [List.map_cons, islot]
      rw [if_neg (by omega)]; exact k2

end
end Go.Vm

/-
  Calls of functions: the state behind the call.
  Conditions: none.
-/
set_option linter.unusedVariables false
set_option linter.unusedSimpArgs false
namespace Go.Vm
open Classical

/-- the labels, when the function has returned -/
noncomputable def outLab (O : OMap) (w : World) (OS : Nat → Prop) (O' : OMap) (pms : List PM) (roots : List Nat) (rt : Nat → Nat) (res : List Ty) (dd : Option Nat) (sh : Bool) : OMap := fun b => if OS b then O b else match O' b with
  | none => none
  | some .foreign => if b < w.heap.size then O b else some .foreign
  | some (.own none _) => some .foreign
  | some (.box t) => match islot pms 0 roots t with
    | some r => some (.box r)
    | none => some .foreign
  | some (.own (some t) q) => match islot pms 0 roots t with
    | some r => some (.own (some r) q)
    | none => match (List.range res.length).find? (fun k => rt k == t) with
      | some k => (match dd with
        | some d => if sh then none else some (.own (some d) (Ty.sizes (res.take k) + q))
        | none => some .foreign)
      | none => some .foreign

def resAVs (res : List Ty) (sh : Bool) : AV := match res with
  | [t] => .val t
  | ts => .tup (if sh then ts.map Ty.sh else ts)

section
variable {P : Program} {S0 S : Vw} {s s' : St} {n : Nat} {w0 : World} {O0 : OMap} {a : Act} {w : World} {O : OMap} {C : Env} {o : Oper} {d : Nat}

theorem results_tups {w' : World} {O' O2 : OMap} {rt : Nat → Nat} {d : Nat} : ∀ {ts : List Ty} {k p : Nat} {xs : List PV} {vs : List Value}, ((∀ b, O' b = none → O2 b = none) ∨ noShare ts = true) → Results w' O' rt ts k xs vs →
    (∀ (j : Nat) (t : Ty), ts[j]? = some t → ∀ q b, q < t.size → O' b = some (.own (some (rt (k + j))) q) → O2 b = some (.own (some d) (p + Ty.sizes (ts.take j) + q))) → Tups w' O2 (some d) ts p xs vs
  | [], k, p, xs, vs, _, h, _ => by simpa only [Tups, Results] using h
  | t :: ts, k, p, xs, vs, hk, h, hm => by
    simp only [Results] at h
    obtain ⟨x, ys, v, us, cs, h1, h2, h3, h4, h5⟩ := h
    have hk2 : ((∀ b, O' b = none → O2 b = none) ∨ noShare ts = true) := hk.imp id fun h => by simp only [noShare, List.all_cons, Bool.and_eq_true] at h; exact h.2
    simp only [Tups]
    refine ⟨x, ys, v, us, cs, h1, h2, h3, ?_, results_tups hk2 h5 fun j t' ht q b hq hb => ?_⟩
    · refine Rep.move' (hk.imp id fun h => by simp only [noShare, List.all_cons, Bool.and_eq_true] at h; exact h.1) (fun q b hq hb => ?_) h4
      have := hm 0 t rfl q b hq (by simpa using hb)
      simpa [Ty.sizes] using this
    · have := hm (j + 1) t' (by simpa using ht) q b hq (by have e : k + (j + 1) = k + 1 + j := by omega
                                                           rw [e]; exact hb)
      simp only [List.take_succ_cons, Ty.sizes] at this
      rw [this]; congr 2; omega

theorem results_tups_sh {w' : World} {O' O2 : OMap} {rt : Nat → Nat} {d : Nat} : ∀ {ts : List Ty} {k p : Nat} {xs : List PV} {vs : List Value}, ((∀ b, O' b = none → O2 b = none) ∨ noShare ts = true) → Results w' O' rt ts k xs vs →
    (∀ (j : Nat) (t : Ty), ts[j]? = some t → ∀ q b, q < t.size → O' b = some (.own (some (rt (k + j))) q) → O2 b = none) → Tups w' O2 (some d) (ts.map Ty.sh) p xs vs
  | [], k, p, xs, vs, _, h, _ => by simpa only [Tups, Results, List.map_nil] using h
  | t :: ts, k, p, xs, vs, hk, h, hm => by
    simp only [Results] at h
    obtain ⟨x, ys, v, us, cs, h1, h2, h3, h4, h5⟩ := h
    have hk2 : ((∀ b, O' b = none → O2 b = none) ∨ noShare ts = true) := hk.imp id fun h => by simp only [noShare, List.all_cons, Bool.and_eq_true] at h; exact h.2
    simp only [List.map_cons, Tups]
    refine ⟨x, ys, v, us, cs, h1, h2, h3.er (sh_er t).symm, ?_, results_tups_sh hk2 h5 fun j t' ht q b hq hb => ?_⟩
    · refine Rep.toSh' (hk.imp id fun h => by simp only [noShare, List.all_cons, Bool.and_eq_true] at h; exact h.1) (fun q b hq hb => ?_) h4
      exact hm 0 t rfl q b hq (by simpa using hb)
    · exact hm (j + 1) t' (by simpa using ht) q b hq (by have e : k + (j + 1) = k + 1 + j := by omega
                                                         rw [e]; exact hb)

theorem Results.length {w' : World} {O' : OMap} {rt : Nat → Nat} : ∀ {ts : List Ty} {k : Nat} {xs : List PV} {vs : List Value}, Results w' O' rt ts k xs vs → xs.length = ts.length ∧ vs.length = ts.length
  | [], k, xs, vs, h => by simp only [Results] at h; simp [h.1, h.2]
  | t :: ts, k, xs, vs, h => by
    simp only [Results] at h
    obtain ⟨x, ys, v, us, cs, rfl, rfl, h3, h4, h5⟩ := h
    have := Results.length h5
    simp [this.1, this.2]

theorem find_rt {rt : Nat → Nat} {m k : Nat} (hk : k < m) (hinj : ∀ k k', k < m → k' < m → rt k = rt k' → k = k') : (List.range m).find? (fun j => rt j == rt k) = some k := by
  cases hf : (List.range m).find? (fun j => rt j == rt k) with
  | none =>
    have := List.find?_eq_none.1 hf k (by simp [hk])
    simp at this
  | some j =>
    have h1 := List.find?_some hf
    have h2 := List.mem_of_find?_eq_some hf
    simp at h1 h2
    rw [hinj j k h2 hk h1]

theorem outRefs_at : ∀ {rs : List (Nat × Option Nat × Ty)} {S : Vw}, nodupN (rs.map (·.1)) = true → ∀ (k : Nat) (x : Nat × Option Nat × Ty), rs[k]? = some x → putUps S (outRefs rs) x.1 = ⟨.box x.2.2, (S x.1).c + 1, (S x.1).h + 1, (S x.1).d⟩
  | [], S, _, k, x, h => by simp at h
  | (r, i, t) :: rs, S, hnd, k, x, h => by
    simp only [List.map_cons] at hnd
    obtain ⟨hr0, hnd'⟩ := nodupN_cons hnd
    simp only [outRefs, putUps]
    cases k with
    | zero =>
      simp at h; subst h
      rw [putUps_ne (fun u hu => ?_)]
      · simp [putUp]
      · intro e
        obtain ⟨y, hy, hy2⟩ := mem_outRefs hu
        have e' : u.root = r := e
        exact hr0 (by rw [← e', hy2]; exact List.mem_map_of_mem hy)
    | succ k =>
      have h' : rs[k]? = some x := by simpa using h
      rw [outRefs_at hnd' k x h']
      have hne : x.1 ≠ r := fun e => hr0 (by rw [← e]; exact List.mem_map_of_mem (List.mem_of_getElem? h'))
      rw [putUp_ne hne]
where
  mem_outRefs : ∀ {rs : List (Nat × Option Nat × Ty)} {u : Up}, u ∈ outRefs rs → ∃ x ∈ rs, u.root = x.1
    | [], u, h => by simp [outRefs] at h
    | (r, i, t) :: rs, u, h => by
      simp only [outRefs, List.mem_cons] at h
      rcases h with rfl | h
      · exact ⟨(r, i, t), by simp, rfl⟩
      · obtain ⟨x, hx, he⟩ := mem_outRefs h; exact ⟨x, by simp [hx], he⟩

theorem packed_ne {vs : List Value} (h : vs.length ≠ 1) : packed vs = .tuple vs.toArray := by
  unfold packed
  split
  · exact absurd rfl h
  · rfl

theorem resultOf_ne {m : Nat} {l : List PV} (h : m ≠ 1) : resultOf m l = .tup (l.take m) := by
  unfold resultOf
  split
  · exact absurd rfl h
  · rfl

/-- **The state behind a call.** -/
theorem call_state (inv : Inv S s n w0 O0 a w O) {OS : Nat → Prop} {l : List (Operand × TypeId × PM)} {pvs out : List PV} {rs : List (Nat × Option Nat × Ty)} (hargs : ArgsAt s a S w O OS l 0 pvs rs) {g : Sig} (hpm : l.map (·.2.2) = g.params)
    (hOS : ∀ b, OS b → ∃ r q, O b = some (.own (some r) q) ∧ r ∉ rs.map (·.1)) (hlone : (∀ b, ¬OS b) ∨ (noShare g.results = true ∧ ∀ x ∈ rs, x.2.2.lone = true)) (hnd : nodupN (rs.map (·.1)) = true)
    {s1 : St} (hset : setRefs s (rs.map fun r => (r.1, r.2.1)) (out.drop g.results.length) = some s1) {dd : Option Nat} (hd : ∀ d, dd = some d → d < n) {sh : Bool}
    {w' : World} {O' : OMap} {rt : Nat → Nat} {vs : List Value} (hf : Frame0 w (inLab O OS g.params (rs.map (·.1))) w' O') (hres : Results w' O' rt g.results 0 (out.take g.results.length) vs)
    (hback : RefsBack w' O' g.params 0 (l.map fun x => a.eval x.1) (out.drop g.results.length)) (hinj : ∀ k k', k < g.results.length → k' < g.results.length → rt k = rt k' → k = k')
    (hrt : ∀ k, k < g.results.length → ∀ i, isRefAt g.params i → rt k ≠ i) :
    ∃ O2, Inv (defO (putUps S (outRefs rs)) dd (resAVs g.results sh)) (setOpt s1 dd (resultOf g.results.length out)) n w0 O0 (a.put dd (packed vs)) w' O2 := by
  rw [← hpm] at hback
  obtain ⟨hyl, hrefs⟩ := refs_back hargs hback
  rw [hpm] at hrefs
  -- the values behind the pointers
  have hptr : ∀ x ∈ rs, ∀ p, get s x.1 ≠ .ptr p := by
    intro x hx p hg
    obtain ⟨k, hk⟩ := List.getElem?_of_mem hx
    obtain ⟨j, y, b, o, cs, tin, _, _, hval, _, _, _, _, hav, _, hnd', hne, _⟩ := hrefs k x hk
    have hok := (inv.cell x.1 (lt_of_alive inv (by rw [hav]; simp))).resolve_left hne
    simp only [CellOK, hav] at hok
    obtain ⟨_, _, cs', _, _, _, q4⟩ := hok
    rw [hg] at q4
    cases tin with
    | sc => simp [Rep, ScRep] at q4
    | agg l => simp only [Rep] at q4; obtain ⟨xs, h, _⟩ := q4; cases h
    | sl m e =>
      simp only [Ty.noDead, Ty.all] at hnd'
      simp only [Rep] at q4
      cases m <;> simp [SlRep, RepSh, OwnSl] at q4 hnd'
  have hltr : ∀ x ∈ rs, x.1 < n := by
    intro x hx
    obtain ⟨k, hk⟩ := List.getElem?_of_mem hx
    obtain ⟨j, y, b, o, cs, tin, _, _, _, _, _, _, _, hav, _⟩ := hrefs k x hk
    exact lt_of_alive inv (by rw [hav]; simp)
  obtain ⟨s1l, _, s1o, s1r⟩ := setRefs_get (s := s) (fun x hx => by
      obtain ⟨y, hy, rfl⟩ := List.mem_map.1 hx
      obtain ⟨k, hk⟩ := List.getElem?_of_mem hy
      obtain ⟨j, _, b, o, cs, tin, _, _, _, _, _, _, _, _, _, _, _, hp⟩ := hrefs k y hk
      exact hp) (fun x hx => by
      obtain ⟨y, hy, rfl⟩ := List.mem_map.1 hx
      exact hptr y hy) (fun x hx => by
      obtain ⟨y, hy, rfl⟩ := List.mem_map.1 hx
      rw [inv.slen]; exact hltr y hy) (by rw [List.map_map]; exact hnd) hset
  generalize hO2 : outLab O w OS O' g.params (rs.map (·.1)) rt g.results dd (sh && g.results.length != 1) = O2
  -- the labels
  have hin : ∀ b, OS b → O' b = none ∧ w'.heap[b]? = w.heap[b]? := by
    intro b hb
    obtain ⟨r, q, h1, _⟩ := hOS b hb
    have hlt := label_lt inv.frame.alloc (b := b) (by rw [h1]; simp)
    have h2 := hf.heap b hlt (.inl (by simp [inLab, hb]))
    refine ⟨h2.2.trans (by simp [inLab, hb]), h2.1⟩
  have hforeign : ∀ b, b < w.heap.size → ¬OS b → inLab O OS g.params (rs.map (·.1)) b = some .foreign → O2 b = O b ∧ w'.heap[b]? = w.heap[b]? := by
    intro b hlt hb h1
    have h2 := hf.heap b hlt (.inr h1)
    have h3 : O' b = some .foreign := h2.2.trans h1
    refine ⟨?_, h2.1⟩
    rw [← hO2]; simp [outLab, hb, h3, hlt]
  have hrootno : ∀ r, r ∉ rs.map (·.1) → rslot g.params 0 (rs.map (·.1)) r = none := by
    intro r hr
    cases h : rslot g.params 0 (rs.map (·.1)) r with
    | none => rfl
    | some j => exact absurd (rslot_mem h) hr
  have hnone : ∀ b, O b = none → O2 b = none ∧ w'.heap[b]? = w.heap[b]? := by
    intro b hb
    have hos : ¬OS b := fun h => by obtain ⟨r, q, h1, _⟩ := hOS b h; rw [hb] at h1; cases h1
    have hlt := label_lt inv.frame.alloc (b := b) (by rw [hb]; simp)
    have h2 := hf.heap b hlt (.inl (by simp [inLab, hos, hb]))
    have h3 : O' b = none := h2.2.trans (by simp [inLab, hos, hb])
    refine ⟨?_, h2.1⟩
    rw [← hO2]; simp [outLab, hos, h3]
  have hown : ∀ b r p, O b = some (.own (some r) p) → r ∉ rs.map (·.1) → O2 b = O b ∧ w'.heap[b]? = w.heap[b]? := by
    intro b r p hb hr
    have hlt := label_lt inv.frame.alloc (b := b) (by rw [hb]; simp)
    by_cases hos : OS b
    · refine ⟨?_, (hin b hos).2⟩
      rw [← hO2]; simp [outLab, hos]
    · exact hforeign b hlt hos (by simp [inLab, hos, hb, hrootno r hr])
  have hbox : ∀ b r, O b = some (.box r) → r ∉ rs.map (·.1) → O2 b = O b ∧ w'.heap[b]? = w.heap[b]? := by
    intro b r hb hr
    have hlt := label_lt inv.frame.alloc (b := b) (by rw [hb]; simp)
    have hos : ¬OS b := fun h => by obtain ⟨r', q, h1, _⟩ := hOS b h; rw [hb] at h1; cases h1
    exact hforeign b hlt hos (by simp [inLab, hos, hb, hrootno r hr])
  have hfor : ∀ b, b < w.heap.size → O b = some .foreign → O2 b = O b ∧ w'.heap[b]? = w.heap[b]? := by
    intro b hlt hb
    have hos : ¬OS b := fun h => by obtain ⟨r', q, h1, _⟩ := hOS b h; rw [hb] at h1; cases h1
    exact hforeign b hlt hos (by simp [inLab, hos, hb])
  have hkeep' : ∀ b, O' b = none → ¬OS b → O2 b = none := by
    intro b hb hos; rw [← hO2]; simp [outLab, hos, hb]
  have hT : ∀ i, (∃ x ∈ rs, x.1 = i) ↔ i ∈ rs.map (·.1) := fun i => by simp
  -- the change
  have hsame2 : ∀ i, i ∉ rs.map (·.1) → putUps S (outRefs rs) i = S i := fun i hi => putUps_ne fun u hu e => by
    obtain ⟨x, hx, he⟩ := outRefs_at.mem_outRefs hu
    exact hi (by rw [← e, he]; exact List.mem_map_of_mem hx)
  have hinv : Inv (putUps S (outRefs rs)) s1 n w0 O0 a w' O2 := by
    have ch : Ch S (putUps S (outRefs rs)) s s1 O O2 a a w w' (· ∈ rs.map (·.1)) := by
      refine ⟨fun b hb => hnone b hb, fun b r p hb hr => hown b r p hb hr, fun b r hb hr => hbox b r hb hr, fun i hi => ⟨hsame2 i hi, ?_, rfl⟩, fun i hi => ?_, fun i hi h ty hty hg => ?_, fun i hi h => ?_⟩
      · exact s1o i fun x hx e => hi (by
          obtain ⟨y, hy, rfl⟩ := List.mem_map.1 hx
          rw [← e]; exact List.mem_map_of_mem hy)
      · obtain ⟨x, hx, rfl⟩ := List.mem_map.1 hi
        obtain ⟨k, hk⟩ := List.getElem?_of_mem hx
        rw [outRefs_at hnd k x hk]; simp
      · obtain ⟨x, hx, rfl⟩ := List.mem_map.1 hi
        obtain ⟨k, hk⟩ := List.getElem?_of_mem hx
        obtain ⟨j, y, b, o, cs, tin, h1, h2, h3, h4, h5, h6, h7, h8, h9, _⟩ := hrefs k x hk
        rw [h8] at hty; cases hty
        refine ⟨x.2.2, by rw [outRefs_at hnd k x hk], h9, ?_, rfl⟩
        rw [s1r k (x.1, x.2.1) y (by simp [hk]) h1]; exact h7
      · obtain ⟨x, hx, rfl⟩ := List.mem_map.1 hi
        obtain ⟨k, hk⟩ := List.getElem?_of_mem hx
        rw [outRefs_at hnd k x hk] at h; simp at h
    refine ch.inv inv (fun i hi => by obtain ⟨x, hx, rfl⟩ := List.mem_map.1 hi; exact hltr x hx) inv.size (by rw [s1l]; exact inv.slen) inv.defers ?_ ?_ ?_ ?_ (fun i hi hav => by
      obtain ⟨x, hx, rfl⟩ := List.mem_map.1 hi
      obtain ⟨k, hk⟩ := List.getElem?_of_mem hx
      rw [outRefs_at hnd k x hk] at hav; cases hav)
    · exact {
        os := hf.os.trans inv.frame.os
        output := hf.output.trans inv.frame.output
        tape := hf.tape.trans inv.frame.tape
        size := Nat.le_trans inv.frame.size hf.size
        heap := fun b hb ho => by
          have h1 := inv.frame.heap b hb ho
          have hlt : b < w.heap.size := Nat.lt_of_lt_of_le hb inv.frame.size
          rcases ho with ho | ho
          · have h2 := hnone b (h1.2.trans ho)
            exact ⟨h2.2.trans h1.1, h2.1.trans ho.symm⟩
          · have h2 := hfor b hlt (h1.2.trans ho)
            exact ⟨h2.2.trans h1.1, h2.1.trans h1.2⟩
        alloc := fun b hb => by
          have h1 := hf.alloc b hb
          have h2 : w.heap.size ≤ b := Nat.le_trans hf.size hb
          have hos : ¬OS b := fun h => by
            obtain ⟨r', q, h3, _⟩ := hOS b h
            rw [inv.frame.alloc b h2] at h3; cases h3
          rw [← hO2]; simp only [outLab, if_neg hos, h1]; rw [if_neg (by omega)] }
    · intro i hi
      obtain ⟨x, hx, rfl⟩ := List.mem_map.1 hi
      obtain ⟨k, hk⟩ := List.getElem?_of_mem hx
      unfold VersOK; rw [outRefs_at hnd k x hk]; trivial
    · intro i hi ty _
      obtain ⟨x, hx, rfl⟩ := List.mem_map.1 hi
      obtain ⟨k, hk⟩ := List.getElem?_of_mem hx
      obtain ⟨j, y, b, o, cs, tin, h1, h2, h3, h4, h5, h6, h7, _⟩ := hrefs k x hk
      rw [s1r k (x.1, x.2.1) y (by simp [hk]) h1]; exact h7
    · intro i hi
      obtain ⟨x, hx, rfl⟩ := List.mem_map.1 hi
      obtain ⟨k, hk⟩ := List.getElem?_of_mem hx
      obtain ⟨j, y, b, o, cs, tin, h1, h2, h3, h4, h5, h6, h7, _⟩ := hrefs k x hk
      right
      unfold CellOK
      rw [outRefs_at hnd k x hk]
      simp only []
      have hos : ¬OS b := fun h => by rw [(hin b h).1] at h4; cases h4
      refine ⟨b, o, cs, h3, ?_, h5, ?_⟩
      · rw [← hO2]; simp [outLab, hos, h4, h2]
      · rw [s1r k (x.1, x.2.1) y (by simp [hk]) h1]
        refine Rep.move' (hlone.imp (fun hno b hb => hkeep' b hb (hno b)) (fun h => h.2 x (List.mem_of_getElem? hk))) (fun q b hq hb => ?_) h6
        have hos : ¬OS b := fun h => by rw [(hin b h).1] at hb; cases hb
        rw [← hO2]; simp [outLab, hos, hb, h2]
  refine ⟨O2, ?_⟩
  cases dd with
  | none => exact hinv
  | some d =>
    have hdn := hd d rfl
    have hislot : ∀ k, k < g.results.length → islot g.params 0 (rs.map (·.1)) (rt k) = none := by
      intro k hk
      cases h : islot g.params 0 (rs.map (·.1)) (rt k) with
      | none => rfl
      | some r =>
        obtain ⟨tin, tout, h1⟩ := islot_ref h
        exact absurd rfl (hrt k hk (rt k) ⟨tin, tout, by simpa using h1⟩)
    have hlab : ∀ k q b, k < g.results.length → O' b = some (.own (some (rt k)) q) → O2 b = if (sh && g.results.length != 1) = true then none else some (.own (some d) (Ty.sizes (g.results.take k) + q)) := by
      intro k q b hk hb
      have hos : ¬OS b := fun h => by rw [(hin b h).1] at hb; cases hb
      rw [← hO2]; simp only [outLab, if_neg hos, hb, hislot k hk, find_rt hk hinj]
    have hkl : ((∀ b, O' b = none → O2 b = none) ∨ noShare g.results = true) := hlone.imp (fun hno b hb => hkeep' b hb (hno b)) (fun h => h.1)
    simp only [defO, setOpt]
    have hrl := Results.length hres
    by_cases h1 : g.results.length = 1
    · obtain ⟨t, ht⟩ := List.length_eq_one_iff.1 h1
      rw [ht] at hres hkl
      simp only [Results, List.length_cons, List.length_nil] at hres
      obtain ⟨x, ys, v, us, cs, hx, hv, h3, h4, h5, h6⟩ := hres
      subst h5; subst h6; subst hv
      have hout : resultOf g.results.length out = x := by
        rw [h1]
        cases out with
        | nil => simp at hx
        | cons y out => simp at hx; simp [resultOf, hx]
      rw [hout, ht]
      simp only [resAVs, packed]
      refine define_val hinv hdn (Grown.refl d hinv.frame.alloc) h3 (Rep.move' (hkl.imp id fun h => by simpa [noShare] using h) (fun q b hq hb => ?_) h4)
      rw [Nat.zero_add] at hb
      rw [hlab 0 q b (by omega) hb]
      simp [h1, Ty.sizes]
    · have hav : resAVs g.results sh = .tup (if sh then g.results.map Ty.sh else g.results) := by
        unfold resAVs
        split
        · rename_i t ht; rw [ht] at h1; simp at h1
        · rfl
      have hpk : packed vs = .tuple vs.toArray := packed_ne (by rw [hrl.2]; exact h1)
      have hro : resultOf g.results.length out = .tup (out.take g.results.length) := resultOf_ne h1
      rw [hav, hpk, hro]
      have hne1 : (g.results.length != 1) = true := by simpa using h1
      refine define_tup hinv hdn (Grown.refl d hinv.frame.alloc) ?_
      cases sh with
      | true =>
        simp only [if_true]
        refine results_tups_sh hkl hres fun j t ht q b hq hb => ?_
        rw [Nat.zero_add] at hb
        rw [hlab j q b (List.getElem?_eq_some_iff.1 ht).1 hb]
        simp [hne1]
      | false =>
        simp only [Bool.false_eq_true, if_false]
        refine results_tups hkl hres fun j t ht q b hq hb => ?_
        rw [Nat.zero_add] at hb
        rw [hlab j q b (List.getElem?_eq_some_iff.1 ht).1 hb]
        simp

end
end Go.Vm

/-
  Calls of functions.
  Conditions: none.
-/
set_option linter.unusedVariables false
set_option linter.unusedSimpArgs false
namespace Go.Vm

section
variable {P : Program} {S0 S : Vw} {s s' : St} {n : Nat} {w0 : World} {O0 : OMap} {a : Act} {w : World} {O : OMap} {C : Env} {o : Oper} {d : Nat}

theorem hasBody_some {f : FuncId} (h : hasBody P f = true) : ∃ fn c, P.funcs[f]? = some fn ∧ fn.body = some c ∧ (fn.name == "runtime.NumGoroutine") = false := by
  unfold hasBody at h
  cases hf : P.funcs[f]? with
  | none => rw [hf] at h; cases h
  | some fn =>
    rw [hf] at h
    simp only [Bool.and_eq_true] at h
    obtain ⟨c, hc⟩ := Option.isSome_iff_exists.1 h.1
    exact ⟨fn, c, rfl, hc, by simpa using h.2⟩

theorem run_call_func {c : Call} {f : FuncId} (ho : o.op = .call c) (hc : c.callee = .value (.func f)) (hb : hasBody P f = true) : (execOp a.eval o).run P w = .ok (.enter f (c.args.toList.map a.eval).toArray) w := by
  obtain ⟨fn, cc, h1, h2, h3⟩ := hasBody_some hb
  have h4 : fn.name ≠ "runtime.NumGoroutine" := by simpa using h3
  have : (callFunc f (c.args.toList.map a.eval).toArray).run P w = .ok (.enter f (c.args.toList.map a.eval).toArray) w := by simp [callFunc, h1, h4, h2]
  have he : c.args.map a.eval = (c.args.toList.map a.eval).toArray := by rw [← Array.toList_map]
  have hf : a.eval (.func f) = .func (.func f) #[] #[] := rfl
  simp only [execOp, ho, resolve, hc]
  simp [hf, Deferred.ofValue, invoke]
  rw [he]; exact this

/-- a call of a function value that holds a pointer -/
theorem run_call_clo {c : Call} {f : FuncId} {b : Bool} {i r : Nat} (ho : o.op = .call c) (hc : c.callee = .value (.tmp i)) (hv : val a i = wrapC (some (f, b)) (val a r)) (hb : hasBody P f = true) :
    (execOp a.eval o).run P w = .ok (.enter f ((cloCall c f b r).args.toList.map a.eval).toArray) w := by
  obtain ⟨fn, cc, h1, h2, h3⟩ := hasBody_some hb
  have h4 : fn.name ≠ "runtime.NumGoroutine" := by simpa using h3
  have key : ∀ xs : Array Value, (callFunc f xs).run P w = .ok (.enter f xs) w := fun xs => by simp [callFunc, h1, h4, h2]
  have hf : a.eval (.tmp i) = wrapC (some (f, b)) (val a r) := hv
  have hr : a.eval (.tmp r) = val a r := rfl
  simp only [execOp, ho, resolve, hc]
  cases b with
  | true =>
    have he : ((cloCall c f true r).args.toList.map a.eval).toArray = #[val a r] ++ c.args.map a.eval := by
      rw [← Array.toList_inj]; simp [cloCall, hr]
    rw [he]
    simp [hf, wrapC, Deferred.ofValue, invoke]
    first | exact key _ | simpa using key _
  | false =>
    have he : ((cloCall c f false r).args.toList.map a.eval).toArray = c.args.map a.eval ++ #[val a r] := by
      rw [← Array.toList_inj]; simp [cloCall, hr]
    rw [he]
    simp [hf, wrapC, Deferred.ofValue, invoke]
    first | exact key _ | simpa using key _

theorem zip_pm {as : List Operand} {ts : List TypeId} {ps : List PM} (h1 : as.length = ps.length) (h2 : ts.length = ps.length) : (as.zip (ts.zip ps)).map (·.2.2) = ps := by
  have h3 : (ts.zip ps).map Prod.snd = ps := List.map_snd_zip (by omega)
  have h4 : (as.zip (ts.zip ps)).map Prod.snd = ts.zip ps := List.map_snd_zip (by simp; omega)
  have h5 : (as.zip (ts.zip ps)).map (fun x => x.2.2) = ((as.zip (ts.zip ps)).map Prod.snd).map Prod.snd := by rw [List.map_map]; rfl
  rw [h5, h4, h3]

theorem zip_eval {as : List Operand} {ts : List TypeId} {ps : List PM} (h1 : as.length = ps.length) (h2 : ts.length = ps.length) (f : Operand → Value) : (as.zip (ts.zip ps)).map (fun x => f x.1) = as.map f := by
  have h4 : (as.zip (ts.zip ps)).map Prod.fst = as := List.map_fst_zip (by simp; omega)
  have h5 : (as.zip (ts.zip ps)).map (fun x => f x.1) = ((as.zip (ts.zip ps)).map Prod.fst).map f := by rw [List.map_map]; rfl
  rw [h5, h4]

theorem inLab_none {OS : Nat → Prop} {pms : List PM} {roots : List Nat} {b : Nat} (h : O b = none) : inLab O OS pms roots b = none := by
  unfold inLab; split
  · rfl
  · rw [h]

/-- the call itself, from the arguments -/
theorem call_wp (inv : Inv S s n w0 O0 a w O) {OS : Nat → Prop} {l : List (Operand × TypeId × PM)} {pvs out : List PV} {rs : List (Nat × Option Nat × Ty)} (hargs : ArgsAt s a S w O OS l 0 pvs rs) {f : Nat} {g : Sig} (hpm : l.map (·.2.2) = g.params)
    (hOS : ∀ b, OS b → ∃ r q, O b = some (.own (some r) q) ∧ r ∉ rs.map (·.1)) (hlone : (∀ b, ¬OS b) ∨ (noShare g.results = true ∧ ∀ x ∈ rs, x.2.2.lone = true)) (hnd : nodupN (rs.map (·.1)) = true) (hC : CallOK P C f g) (hout : C f pvs = some out)
    {s1 : St} (hset : setRefs s (rs.map fun r => (r.1, r.2.1)) (out.drop g.results.length) = some s1) {dd : Option Nat} (hd : ∀ d, dd = some d → d < n) {sh : Bool} :
    Calls P f (l.map fun x => a.eval x.1).toArray w fun e w' => ∃ v O2, e = .returned v ∧ Inv (defO (putUps S (outRefs rs)) dd (resAVs g.results sh)) (setOpt s1 dd (resultOf g.results.length out)) n w0 O0 (a.put dd v) w' O2 := by
  have h1 : ∀ b, w.heap.size ≤ b → inLab O OS g.params (rs.map (·.1)) b = some .foreign := fun b hb => by
    have h1 := inv.frame.alloc b hb
    have hos : ¬OS b := fun h => by obtain ⟨r, q, h2, _⟩ := hOS b h; rw [h1] at h2; cases h2
    simp [inLab, hos, h1]
  have h2 : Params w (inLab O OS g.params (rs.map (·.1))) g.params 0 pvs (l.map fun x => a.eval x.1) := by
    have := params_sound (OI := inLab O OS g.params (rs.map (·.1))) inv (fun b hb => inLab_none hb) (fun b hb => by simp [inLab, hb]) hargs hnd (i := 0) (fun b q j q' hb hq => by
      have hos : ¬OS b := fun h => by obtain ⟨r, q, h2, _⟩ := hOS b h; rw [hb] at h2; cases h2
      rw [hpm] at hq
      simp [inLab, hos, hb, hq]) (fun b r j hj => by
      rw [hpm] at hj
      refine ⟨fun q hb => ?_, fun hb => ?_⟩
      · have hos : ¬OS b := fun h => by
          obtain ⟨r', q', h2, h3⟩ := hOS b h
          rw [hb] at h2; cases h2
          exact h3 (rslot_mem hj)
        simp [inLab, hos, hb, hj]
      · have hos : ¬OS b := fun h => by obtain ⟨r', q', h2, _⟩ := hOS b h; rw [hb] at h2; cases h2
        simp [inLab, hos, hb, hj])
    rwa [hpm] at this
  have hcall := hC pvs out hout (l.map fun x => a.eval x.1) w (inLab O OS g.params (rs.map (·.1))) h1 h2
  refine Calls.mono hcall ?_
  intro e w' h
  obtain ⟨O', rt, vs, rfl, hf, hres, hback, hinj, hrt⟩ := h
  obtain ⟨O2, h2⟩ := call_state inv hargs hpm hOS hlone hnd hset hd (sh := sh) hf hres hback hinj hrt
  exact ⟨_, O2, rfl, h2⟩

theorem func_sound {sg : Sigs} {sh : Bool} (hS : Sub S0 S) (inv : Inv S s n w0 O0 a w O) (hC : ∀ f g, sg f = some g → CallOK P C f g) {c : Call} {f : FuncId} (hrun : hasBody P f = true → (execOp a.eval o).run P w = .ok (.enter f (c.args.toList.map a.eval).toArray) w) {rhs : VRhs} {av : AV} {us : List Up}
    (h : chkFunc P sg sh S0 f c = some (rhs, av, us)) (hr : rhs.run C s o.dst = some s') (hd : ∀ d, o.dst = some d → d < n) {K : Act → World → Prop} {Q : Exit → Act → World → Prop}
    (hK : ∀ v w' O', Inv (defO (putUps S us) o.dst av) s' n w0 O0 (a.put o.dst v) w' O' → K (a.put o.dst v) w') : o.wp P a w K Q := by
  unfold chkFunc at h
  simp only [Option.bind_eq_some_iff] at h
  obtain ⟨g, hg, h⟩ := h
  obtain ⟨⟨hl1, hl2, hbody⟩, h⟩ := if_some h
  simp only [Option.bind_eq_some_iff] at h
  obtain ⟨⟨vs, rs, os, us0⟩, ha, h⟩ := h
  simp only [] at h
  obtain ⟨hcond, h⟩ := if_some h
  simp only [Bool.and_eq_true] at hcond
  obtain ⟨⟨hnd, hos⟩, hus⟩ := hcond
  simp only [Option.map_eq_some_iff] at h
  obtain ⟨e1, he1, h⟩ := h
  have hav : av = resAVs g.results sh := by
    simp only [Prod.mk.injEq, Option.some.injEq] at h
    rw [← h.2.1]
    unfold resAVs
    rfl
  simp only [Prod.mk.injEq, Option.some.injEq] at h
  obtain ⟨rfl, _, rfl⟩ := h
  subst hav
  -- the run
  simp only [VRhs.run, Option.bind_eq_some_iff, Option.map_eq_some_iff] at hr
  obtain ⟨pvs, hev, out, hout, s1, hset, rfl⟩ := hr
  have hur : ∀ u ∈ us0, ∀ x ∈ rs, u.root ≠ x.1 := fun u hu x hx e => by
    have := List.all_eq_true.1 hus u hu
    simp only [Bool.not_eq_true'] at this
    have h1 : (rs.map (·.1)).contains u.root = true := List.contains_iff_mem.2 (by rw [e]; exact List.mem_map_of_mem hx)
    rw [h1] at this; cases this
  have huo : ∀ u ∈ us0, ∀ x ∈ os, u.root ≠ x.1 := fun u hu x hx e => by
    have := List.all_eq_true.1 hos x hx
    simp only [Bool.and_eq_true] at this
    have := List.all_eq_true.1 this.2 u hu
    simp at this
    exact this e
  have hor : ∀ x ∈ os, x.1 ∉ rs.map (·.1) := fun x hx hm => by
    have := List.all_eq_true.1 hos x hx
    simp only [Bool.and_eq_true, Bool.not_eq_true'] at this
    have h1 := this.1
    rw [List.contains_iff_mem.2 hm] at h1; cases h1
  obtain ⟨O1, inv1, hS1, hk1, hargs, hlen⟩ := args_sound (a := a) (w := w) 0 ha hS inv hev hur huo
  have hwp : ∀ {S1 : Vw} {O1 : OMap} {OS : Nat → Prop}, Inv S1 s n w0 O0 a w O1 → ArgsAt s a S1 w O1 OS (c.args.toList.zip (c.argTypes.toList.zip g.params)) 0 pvs rs → (∀ b, OS b → ∃ r q, O1 b = some (.own (some r) q) ∧ r ∉ rs.map (·.1)) →
      ((∀ b, ¬OS b) ∨ (noShare g.results = true ∧ ∀ x ∈ rs, x.2.2.lone = true)) →
      (∀ v w' O', Inv (defO (putUps S1 (outRefs rs)) o.dst (resAVs g.results sh)) (setOpt s1 o.dst (resultOf g.results.length out)) n w0 O0 (a.put o.dst v) w' O' → K (a.put o.dst v) w') → o.wp P a w K Q := by
    intro S1 O1 OS inv1 hargs hOS hlone hK'
    have := call_wp inv1 hargs (zip_pm hl1 hl2) hOS hlone hnd (hC f g hg) hout hset hd (sh := sh)
    rw [zip_eval hl1 hl2] at this
    unfold Oper.wp
    rw [hrun hbody]
    simp only [Oper.upon]
    refine Calls.mono this fun e w' h => ?_
    obtain ⟨v, O2, rfl, h2⟩ := h
    exact hK' v w' O2 h2
  split at he1
  · rename_i hcase
    simp only [Option.some.injEq] at he1
    subst he1
    refine hwp inv1 hargs (fun b hb => ?_) ?_ ?_
    · obtain ⟨x, q, h1, h2, h3⟩ := hb
      exact ⟨x.1, q, h3, hor x h1⟩
    · simp only [Bool.or_eq_true, Bool.and_eq_true] at hcase
      rcases hcase with h1 | ⟨h1, h2⟩
      · left
        intro b hb
        obtain ⟨x, q, h2, _⟩ := hb
        have : os = [] := by simpa using h1
        rw [this] at h2; simp at h2
      · right
        exact ⟨h1, fun x hx => List.all_eq_true.1 h2 x hx⟩
    · intro v w' O' h1
      refine hK v w' O' ?_
      rw [putUps_append, putUps_append]
      exact h1
  · obtain ⟨O2, inv2, hS2, hk2, hl, hroots, hone⟩ := shareAll_sound he1 hS1 inv1
    have hargs2 := ArgsAt.shared (s := s) (a := a) hk2 hl hone (fun u hu x hx e => by
      obtain ⟨y, hy, hye⟩ := hroots u hu
      exact hor y hy (by rw [← hye, e]; exact List.mem_map_of_mem hx)) hargs
    refine hwp inv2 hargs2 (fun b hb => hb.elim) (.inl fun b hb => hb) ?_
    intro v w' O' h1
    refine hK v w' O' ?_
    rw [putUps_append, putUps_append]
    exact h1

end
end Go.Vm

/-
  Every operation.
  Conditions: none.
-/
set_option linter.unusedVariables false
set_option linter.unusedSimpArgs false
namespace Go.Vm

section
variable {P : Program} {S0 S : Vw} {s s' : St} {n : Nat} {w0 : World} {O0 : OMap} {a : Act} {w : World} {O : OMap} {C : Env} {o : Oper} {d : Nat}

theorem isDeref_eq {r : Nat} {x : VX} (h : isDeref r x = true) : x = .deref r none := by
  cases x with
  | deref r' p => simp [isDeref] at h; obtain ⟨rfl, rfl⟩ := h; rfl
  | _ => simp [isDeref] at h
theorem via_eval {s : St} {r i : Nat} (h : get s i = .ptr []) (x : VX) : (viaX r i x).eval s = x.eval s := by
  unfold viaX
  split
  · rename_i hx
    rw [isDeref_eq hx]
    simp [VX.eval, pathAt, h]
  · rfl
theorem via_evals {s : St} {r i : Nat} (h : get s i = .ptr []) : ∀ (xs : List VX), evals s (xs.map (viaX r i)) = evals s xs
  | [] => rfl
  | x :: xs => by simp only [List.map_cons, evals, via_eval h, via_evals h xs]
theorem via_path {s : St} {r i : Nat} : ∀ {xs : List VX} {vs : List PV}, evals s (xs.map (viaX r i)) = some vs → xs.any (isDeref r) = true → ∃ q, get s i = .ptr q
  | [], _, _, h => by simp at h
  | x :: xs, vs, h, ha => by
    simp only [List.map_cons, evals, Option.bind_eq_some_iff, Option.map_eq_some_iff] at h
    obtain ⟨v, h1, us, h2, _⟩ := h
    simp only [List.any_cons, Bool.or_eq_true] at ha
    rcases ha with ha | ha
    · unfold viaX at h1
      rw [if_pos ha] at h1
      simp only [VX.eval, Option.bind_eq_some_iff] at h1
      obtain ⟨q, h3, _⟩ := h1
      unfold pathAt at h3
      simp only [] at h3
      split at h3
      · rename_i p hp; exact ⟨p, hp⟩
      · cases h3
    · exact via_path h2 ha
theorem via_run {C : Env} {s s' : St} {d : Option Nat} {r i : Nat} {rhs rhs' : VRhs} (h : viaRhs r i rhs = some rhs') (hr : rhs'.run C s d = some s') : (∃ q, get s i = .ptr q) ∧ (get s i = .ptr [] → rhs.run C s d = some s') := by
  unfold viaRhs at h
  split at h
  · rename_i f n xs refs
    obtain ⟨ha, h⟩ := if_some h
    simp only [Option.some.injEq] at h
    subst h
    refine ⟨?_, fun hq => ?_⟩
    · simp only [VRhs.run, Option.bind_eq_some_iff] at hr
      obtain ⟨vs, h1, _⟩ := hr
      exact via_path h1 ha
    · simp only [VRhs.run] at hr ⊢
      rw [via_evals hq] at hr
      exact hr
  · cases h

theorem chkStore_av {keep : Nat → Bool} {t : TypeId} {x y : Operand} {rhs : VRhs} {av : AV} {us : List Up} (h : chkStore P S0 keep t x y = some (rhs, av, us)) : True := trivial

/-- **One operation**, from its check. -/
theorem chk_wp {sg : Sigs} {sh : Bool} {keep : Nat → Bool} (hC : ∀ f g, sg f = some g → CallOK P C f g) (hS : Sub S0 S) (inv : Inv S s n w0 O0 a w O) (hd : ∀ d, o.dst = some d → d < n) {rhs : VRhs} {av : AV} {us : List Up}
    (h : chkOp P sg sh S0 keep o = some (rhs, av, us)) (hok : okDst o = true) (hr : rhs.run C s o.dst = some s') {K : Act → World → Prop} {Q : Exit → Act → World → Prop}
    (hK : ∀ v w' O', Inv (defO (putUps S us) o.dst av) s' n w0 O0 (a.put o.dst v) w' O' → K (a.put o.dst v) w') : o.wp P a w K Q := by
  cases hp : plainOp o with
  | true =>
    rw [okDst, if_pos hp] at hok
    obtain ⟨d, hod⟩ := Option.isSome_iff_exists.1 hok
    rw [hod] at hr
    obtain ⟨v, w', O', h1, h2⟩ := prim_sound hS inv (hd d hod) hod h hp hr
    refine h1.wp ?_
    refine hK v w' O' ?_
    rw [hod]; exact h2
  | false =>
    have hcase : (∃ t x y, o.op = .store t x y) ∨ (∃ c f, o.op = .call c ∧ c.callee = .value f) ∨ (∃ c, o.op = .call c ∧ c.callee = .builtin .copy) := by
      unfold plainOp at hp
      split at hp
      · rename_i t x y ho; exact .inl ⟨t, x, y, ho⟩
      · rename_i c ho
        split at hp
        · rename_i f hf; exact .inr (.inl ⟨c, f, ho, hf⟩)
        · rename_i hf; exact .inr (.inr ⟨c, ho, hf⟩)
        · cases hp
      · cases hp
    rcases hcase with ⟨t, x, y, ho⟩ | ⟨c, f, ho, hf⟩ | ⟨c, ho, hf⟩
    · have hdn : o.dst = none := by
        simp only [okDst, hp, Bool.false_eq_true, if_false, ho] at hok
        simpa using hok
      simp only [chkOp, ho] at h
      have key : ∃ w' O', Done P o a w undef w' ∧ Inv (putUps S us) s' n w0 O0 a w' O' := by
        by_cases hq : (mpOf S0 x).isSome = true
        · rw [if_pos hq] at h
          simp only [Option.bind_eq_some_iff] at h
          obtain ⟨⟨i, k, ts⟩, hm, h⟩ := h
          obtain ⟨rfl, h⟩ := if_some h
          exact mp_store hS inv ho hm h hr
        · rw [if_neg hq] at h
          exact store_sound hS inv ho h hr
      obtain ⟨w', O', h1, h2⟩ := key
      refine h1.wp ?_
      refine hK _ w' O' ?_
      rw [hdn]; exact h2
    · simp only [chkOp, ho, chkCall, hf] at h
      split at h
      · rename_i f' hff
        cases hff
        exact func_sound hS inv hC (run_call_func ho hf) h hr hd hK
      · rename_i i hff
        cases hff
        have hal : (S0 i).av ≠ .dead := by intro hd; simp [hd] at h
        have hSi := hS.alive hal
        have hlt := lt_of_alive inv (by rw [← hSi]; exact hal)
        split at h
        · rename_i r p dd k hav
          have hh := if_some h
          clear h
          obtain ⟨hc, hh⟩ := hh
          simp only [Bool.and_eq_true, beq_iff_eq, List.isEmpty_iff] at hc
          obtain ⟨rfl, h1, h2⟩ := hc
          simp only [Option.bind_eq_some_iff, Option.map_eq_some_iff] at hh
          obtain ⟨⟨f, b⟩, rfl, ⟨rhs0, av0, us0⟩, h, rhs1, hvia, h0⟩ := hh
          simp only [Prod.mk.injEq] at h0
          obtain ⟨rfl, rfl, rfl⟩ := h0
          have hr' := hS.alive (alive_ne h2)
          rw [hSi] at hav
          obtain ⟨⟨q0, hq0⟩, hback⟩ := via_run hvia hr
          have hcell := (inv.cell i hlt).resolve_left (by rw [hq0]; simp)
          simp only [CellOK, hav] at hcell
          obtain ⟨q, b', o', ty, u, off, g1, g2, g3, g4, g5, g6, g7⟩ := hcell (by rw [← hr']; exact h1)
          cases g2
          simp only [Ty.at, Option.some.injEq, Prod.mk.injEq] at g6
          obtain ⟨_, rfl⟩ := g6
          have hv : val a i = wrapC (some (f, b)) (val a r) := by rw [g5]; exact g7
          exact func_sound hS inv hC (run_call_clo ho hf hv) h (hback g1) hd hK
        · cases h
      · rename_i hb; cases hb
      · cases h
    · simp only [chkOp, ho, chkCall, hf] at h
      split at h
      all_goals first | (rename_i hb _ _; cases hb; done) | skip
      · rename_i x y t t' _ hx ht
        obtain ⟨v, w', O', h1, h2⟩ := copy_sound hS inv hd ho hf hx ht h hr
        exact h1.wp (hK v w' O' h2)
      all_goals cases h

end
end Go.Vm
