/-
  MORE OPERATIONS THAT TOUCH NO MEMORY.
-/
import Derived.Test.YtdohdcfmcmncfaaGreatDoorAmC
import Derived.WalkLawsBesides
namespace Go.Am

/-! ### Lists -/
theorem at?_eq {α : Type} : ∀ (l : List α) (n : Nat), List.at? l n = l[n]?
  | [], n => by simp [List.at?]
  | x :: xs, 0 => rfl
  | x :: xs, n + 1 => by simp only [List.at?, at?_eq xs n]; simp

theorem len_eq {α : Type} : ∀ (l : List α), List.len l = l.length
  | [] => rfl
  | x :: xs => by simp [List.len, len_eq xs]

theorem cut_ok {α : Type} : ∀ (l : List α) (o n : Nat) (r : List α), List.cut l o n = some r → r = (l.drop o).take n ∧ o + n ≤ l.length ∧ r.length = n
  | l, 0, 0, r, h => by simp only [List.cut, Option.some.injEq] at h; subst h; simp
  | [], 0, n + 1, r, h => by simp [List.cut] at h
  | x :: xs, 0, n + 1, r, h => by
    simp only [List.cut] at h
    split at h
    · rename_i r' hr
      injection h with h
      subst h
      obtain ⟨a, b, c⟩ := cut_ok xs 0 n r' hr
      refine ⟨by simp at a; simp [a], by simp; omega, by simp [c]⟩
    · cases h
  | [], o + 1, n, r, h => by simp [List.cut] at h
  | x :: xs, o + 1, n, r, h => by
    simp only [List.cut] at h
    obtain ⟨a, b, c⟩ := cut_ok xs o n r h
    exact ⟨by simpa using a, by simp; omega, c⟩

theorem over_ok {α : Type} : ∀ (l ys r : List α), List.over l ys = some r → ys.length ≤ l.length ∧ r.length = l.length ∧ ∀ (k : Nat), r[k]? = if k < ys.length then ys[k]? else l[k]?
  | l, [], r, h => by cases l <;> (simp only [List.over, Option.some.injEq] at h; subst h; simp)
  | [], y :: ys, r, h => by simp [List.over] at h
  | x :: l, y :: ys, r, h => by
    simp only [List.over] at h
    split at h
    · rename_i r' hr
      injection h with h
      subst h
      obtain ⟨a, b, c⟩ := over_ok l ys r' hr
      refine ⟨by simp; omega, by simp [b], fun k => ?_⟩
      cases k with
      | zero => simp
      | succ k => simp [c k]
    · cases h

theorem overAt_ok {α : Type} : ∀ (l : List α) (o : Nat) (ys r : List α), List.overAt l o ys = some r →
    o + ys.length ≤ l.length ∧ r.length = l.length ∧ ∀ (k : Nat), r[k]? = if o ≤ k ∧ k < o + ys.length then ys[k - o]? else l[k]?
  | l, 0, ys, r, h => by
    have h' : List.over l ys = some r := by cases l <;> simpa only [List.overAt] using h
    obtain ⟨a, b, c⟩ := over_ok l ys r h'
    refine ⟨by omega, b, fun k => ?_⟩
    rw [c k]
    simp
  | [], o + 1, ys, r, h => by simp [List.overAt] at h
  | x :: l, o + 1, ys, r, h => by
    simp only [List.overAt] at h
    split at h
    · rename_i r' hr
      injection h with h
      subst h
      obtain ⟨a, b, c⟩ := overAt_ok l o ys r' hr
      refine ⟨by simp; omega, by simp [b], fun k => ?_⟩
      cases k with
      | zero => simp
      | succ k =>
        simp only [List.getElem?_cons_succ, c k]
        by_cases hk : o ≤ k ∧ k < o + ys.length
        · rw [if_pos hk, if_pos (by omega)]
          congr 1
          omega
        · rw [if_neg hk, if_neg (by omega)]
    · cases h

section
variable {P : Program} {E : Env} {φ : Mp} {t : T} {h h' : Heap} {ρ : Operand → Value} {v : V}

theorem unV_ok {op : UnOp} {x : V} {X : Value} (e : unV op x = some v) (hx : VRel φ x X) : ∃ u, (∀ w, (Op.unary op X).run P w = .ok u w) ∧ VRel φ v u := by
  unfold unV at e
  split at e
  · have := hx.int; subst this
    injection e with e; subst e
    exact ⟨_, fun w => by simp only [Op.unary, Op.intArith]; rfl, VRel.mk_int (wrapF_eq _ _)⟩
  · have := hx.int; subst this
    injection e with e; subst e
    exact ⟨_, fun w => by simp only [Op.unary, Op.intBits]; rfl, VRel.mk_int rfl⟩
  · have := hx.bool; subst this
    injection e with e; subst e
    exact ⟨_, fun w => by simp only [Op.unary]; rfl, VRel.mk_bool rfl⟩
  · cases e

theorem kind_iface (ok : EnvOk P E) {ty : TypeId} {ti : TI} (h : E.ty ty = some ti) : ∃ i d, P.info? ty = some i ∧ P.underlying ty = some d ∧ ti = tiOf P P.info? i d ty := ok.ty _ _ h

theorem kind_of {d : TypeDesc} {i : TypeInfo} {ty : TypeId} {k : TK} (h : (tiOf P P.info? i d ty).kind = k) : tkOf P.info? d = k := h

theorem opMakeInterface_ok (ok : EnvOk P E) {ty : TypeId} {x : Operand} (r : RhoOk φ t ρ) (e : opMakeInterface E ty x t h = some (v, h')) :
    h' = h ∧ ∃ u, (∀ w, (Instr.makeInterface ty (ρ x)).run P w = .ok u w) ∧ VRel φ v u := by
  unfold opMakeInterface at e
  split at e
  · rename_i u ti hu hti
    obtain ⟨i, d, h1, h2, rfl⟩ := ok.ty _ _ hti
    split at e
    · cases e
    · rename_i hk
      injection e with e
      injection e with e1 e2
      subst e1
      refine ⟨e2.symm, .iface ty (ρ x), fun w => ?_, ?_⟩
      · simp only [Instr.makeInterface, Sem.run_bind, r_und h2, Result.andThen_ok]
        cases d <;> first | rfl | exact absurd rfl hk
      · simp only [VRel]; exact ⟨ρ x, rfl, r _ _ hu⟩
  · cases e

theorem opMakeFunc_ok {fn : Fn} {first captured : Array Operand} (r : RhoOk φ t ρ) (e : opMakeFunc fn first captured t h = some (v, h')) :
    h' = h ∧ VRel φ v (.func fn (first.map ρ) (captured.map ρ)) := by
  unfold opMakeFunc at e
  split at e
  · cases e
  · rename_i hfn
    split at e
    · rename_i x y hx hy
      injection e with e
      injection e with e1 e2
      subst e1
      refine ⟨e2.symm, ?_⟩
      simp only [VRel]
      refine ⟨fn, _, _, rfl, ?_, by simpa using r.evs hx, by simpa using r.evs hy⟩
      cases fn <;> first | rfl | cases hfn
    · cases e

theorem opExtract_ok {x : Operand} {k : Nat} (r : RhoOk φ t ρ) (e : opExtract x k t h = some (v, h')) :
    h' = h ∧ ∃ u, (∀ w, (Instr.extract (ρ x) k).run P w = .ok u w) ∧ VRel φ v u := by
  unfold opExtract at e
  split at e
  · rename_i l hl
    have k1 := r _ _ hl
    simp only [VRel] at k1
    obtain ⟨cs, hcs, rl⟩ := k1
    split at e
    · rename_i u hu
      rw [at?_eq] at hu
      injection e with e
      injection e with e1 e2
      subst e1
      obtain ⟨y, hy, hv⟩ := rl.get _ _ hu
      refine ⟨e2.symm, y, fun w => ?_, hv⟩
      have hy' : cs[k]? = some y := by simpa using hy
      simp [Instr.extract, hcs, hy']
    · cases e
  · cases e

theorem fields_at {inf : Nat → Option TypeInfo} : ∀ (l : List Field) (r : List (TypeId × Nat × Nat)) (n : Nat) (a b c : Nat), fieldsOf inf l = some r → r[n]? = some (a, b, c) →
    ∃ fd i, l[n]? = some fd ∧ fd.type = a ∧ fd.offset = b ∧ inf a = some i ∧ i.size = c := by
  intro l
  induction l with
  | nil => intro r n a b c hr hn; simp only [fieldsOf, Option.some.injEq] at hr; subst hr; simp at hn
  | cons f l ih =>
    intro r n a b c hr hn
    simp only [fieldsOf] at hr
    split at hr
    · cases hr
    · rename_i i hi
      split at hr
      · cases hr
      · rename_i l' hl'
        injection hr with hr
        subst hr
        cases n with
        | zero => simp at hn; obtain ⟨q1, q2, q3⟩ := hn; exact ⟨f, i, by simp, q1, q2, by rw [← q1]; exact hi, q3⟩
        | succ n => simp only [List.getElem?_cons_succ] at hn ⊢; exact ih l' n a b c hl' hn

theorem tk_struct {inf : Nat → Option TypeInfo} {d : TypeDesc} {fs : List (TypeId × Nat × Nat)} (h : tkOf inf d = .struct fs) : ∃ F, d = .struct F ∧ fieldsOf inf F.toList = some fs := by
  cases d <;> simp only [tkOf] at h <;> try (cases h; done)
  split at h
  · rename_i l hl
    injection h with h
    subst h
    exact ⟨_, rfl, hl⟩
  · cases h

theorem fieldOf_ok (ok : EnvOk P E) {s : TypeId} {f : Nat} {ft : TypeId} {o sz : Nat} (e : fieldOf E s f = some (ft, o, sz)) :
    ∃ fs fd i, P.underlying s = some (.struct fs) ∧ fs[f]? = some fd ∧ fd.type = ft ∧ fd.offset = o ∧ P.info? ft = some i ∧ i.size = sz := by
  unfold fieldOf at e
  split at e
  · rename_i fs _ _ _ _ _ hti
    obtain ⟨i, d, h1, h2, h3⟩ := ok.ty _ _ hti
    have hk : tkOf P.info? d = .struct fs := by
      have := congrArg TI.kind h3
      simpa [tiOf] using this.symm
    obtain ⟨F, rfl, hF⟩ := tk_struct hk
    rw [at?_eq] at e
    obtain ⟨fd, j, a, b, c, d, g⟩ := fields_at _ _ _ _ _ _ hF e
    exact ⟨F, fd, j, h2, by simpa using a, b, c, d, g⟩
  · cases e

theorem Ad.shift_eq (a : Ad) (n : Nat) : a.shift n = ⟨a.f, a.v, a.o + n⟩ := rfl

theorem opFieldAddr_ok (ok : EnvOk P E) {s : TypeId} {x : Operand} {f : Nat} (r : RhoOk φ t ρ) (e : opFieldAddr E s x f t h = some (v, h')) :
    h' = h ∧ ∃ u, (∀ w, (Instr.fieldAt s (ρ x) f).run P w = .ok u w) ∧ VRel φ v u := by
  unfold opFieldAddr at e
  split at e
  · rename_i a ft o sz ha hf
    obtain ⟨fs, fd, i, h1, h2, h3, h4, hi, hi'⟩ := fieldOf_ok ok hf
    split at e
    · cases e
    · rename_i hz
      injection e with e
      injection e with e1 e2
      subst e1
      have hz' : sz ≠ 0 := by intro q; subst q; simp at hz
      obtain ⟨pl, p1, p2, p3⟩ := (r _ _ ha).ptr
      subst h3; subst h4
      refine ⟨e2.symm, .pointer (some ⟨pl.rb, a.o - pl.d + fd.offset, none⟩), fun w => ?_, ?_⟩
      · have hne : i.size ≠ 0 := by rw [hi']; exact hz'
        simp only [Instr.fieldAt, Sem.run_bind, r_und h1, Result.andThen_ok, h2, Instr.sureAddr, p3, Sem.run_pure, fieldPlace, r_size hi, hne, if_false, Addr.add_off, Sem.run_ite]
      · rw [Ad.shift_eq]
        exact VRel.mk_ptr p1 (by show pl.d ≤ a.o + fd.offset; omega) (by show _ = (⟨pl.rb, a.o + fd.offset - pl.d, none⟩ : Addr); rw [show a.o - pl.d + fd.offset = a.o + fd.offset - pl.d from by omega])
  · cases e

theorem partV_ok {ti : TI} {ty : TypeId} {i : TypeInfo} {d : TypeDesc} {inf : Nat → Option TypeInfo} {l : List V} {cs : Array Value} {o : Nat} (h1 : P.info? ty = some i) (h2 : P.underlying ty = some d) (hti : ti = tiOf P inf i d ty)
    (rl : VRels φ l cs.toList) (e : partV ti l o = some v) : ∃ u, (∀ w, (part ty cs o).run P w = .ok u w) ∧ VRel φ v u := by
  subst hti
  unfold partV at e
  split at e
  · rename_i ha
    have ha' : isAggD d = true := ha
    split at e
    · rename_i r hr
      injection e with e
      subst e
      obtain ⟨q1, q2, q3⟩ := cut_ok _ _ _ _ hr
      have hsz : (tiOf P inf i d ty).size = i.size := rfl
      refine ⟨.agg (cs.extract o (o + i.size)), fun w => ?_, ?_⟩
      · simp [part, r_agg h2, ha', r_size h1]
      · simp only [VRel]
        refine ⟨_, rfl, VRels.of_get ?_ ?_⟩
        · have := rl.length
          rw [q3, hsz]
          rw [hsz] at q2
          simp at this ⊢
          omega
        · intro k x hx
          subst q1
          rw [List.getElem?_take] at hx
          split at hx
          · rename_i hk
            rw [List.getElem?_drop] at hx
            obtain ⟨u, hu, hv⟩ := rl.get _ _ hx
            refine ⟨u, ?_, hv⟩
            rw [hsz] at hk
            simp only [Array.toList_extract, List.extract_eq_take_drop, List.getElem?_take, List.getElem?_drop]
            rw [if_pos (by omega)]
            exact hu
          · cases hx
    · cases e
  · rename_i ha
    have ha' : isAggD d = false := ha
    rw [at?_eq] at e
    obtain ⟨u, hu, hv⟩ := rl.get _ _ e
    exact ⟨u, fun w => r_part h2 ha' (by simpa using hu), hv⟩

theorem opField_ok (ok : EnvOk P E) {s : TypeId} {x : Operand} {f : Nat} (r : RhoOk φ t ρ) (e : opField E s x f t h = some (v, h')) :
    h' = h ∧ ∃ u, (∀ w, (Instr.field s (ρ x) f).run P w = .ok u w) ∧ VRel φ v u := by
  unfold opField at e
  split at e
  · rename_i l ft o sz hl hf
    obtain ⟨fs, fd, i, h1, h2, h3, h4, hi, hi'⟩ := fieldOf_ok ok hf
    have k1 := r _ _ hl
    simp only [VRel] at k1
    obtain ⟨cs, hcs, rl⟩ := k1
    split at e
    · rename_i ti hti
      obtain ⟨i, d, i1, i2, i3⟩ := ok.ty _ _ hti
      split at e
      · rename_i u hu
        injection e with e
        injection e with e1 e2
        subst e1
        obtain ⟨y, hy, hv⟩ := partV_ok i1 i2 i3 rl hu
        refine ⟨e2.symm, y, fun w => ?_, hv⟩
        subst h3; subst h4
        simp only [Instr.field, Sem.run_bind, r_und h1, Result.andThen_ok, h2, hcs, asAgg, Sem.run_pure]
        exact hy w
      · cases e
    · cases e
  · cases e

end
end Go.Am

/-
  THE LAST OPERATIONS THAT TOUCH NO MEMORY.
-/
namespace Go.Am

section
variable {P : Program} {E : Env} {φ : Mp} {t : T} {h h' : Heap} {ρ : Operand → Value} {v : V}

/-- The kind of a type, told by its description. -/
theorem tk_slice {inf : Nat → Option TypeInfo} {d : TypeDesc} {e : TypeId} (h : tkOf inf d = .slice e) : d = .slice e := by
  cases d <;> simp only [tkOf] at h <;> first | (cases h; done) | (split at h <;> cases h; done) | (injection h with h; subst h; rfl)
theorem tk_array {inf : Nat → Option TypeInfo} {d : TypeDesc} {n : Nat} {e : TypeId} (h : tkOf inf d = .array n e) : d = .array n e := by
  cases d <;> simp only [tkOf] at h <;> first | (cases h; done) | (split at h <;> cases h; done) | (injection h with h h2; subst h; subst h2; rfl)
theorem tk_map {inf : Nat → Option TypeInfo} {d : TypeDesc} {n : TypeId} {e : TypeId} (h : tkOf inf d = .map n e) : d = .map n e := by
  cases d <;> simp only [tkOf] at h <;> first | (cases h; done) | (split at h <;> cases h; done) | (injection h with h h2; subst h; subst h2; rfl)
theorem tk_string {inf : Nat → Option TypeInfo} {d : TypeDesc} (h : tkOf inf d = .string) : d = .string := by
  cases d <;> simp only [tkOf] at h <;> first | (cases h; done) | (split at h <;> cases h; done) | rfl
theorem tk_bool {inf : Nat → Option TypeInfo} {d : TypeDesc} (h : tkOf inf d = .bool) : d = .bool := by
  cases d <;> simp only [tkOf] at h <;> first | (cases h; done) | (split at h <;> cases h; done) | rfl
theorem tk_int {inf : Nat → Option TypeInfo} {d : TypeDesc} {k : IntKind} (h : tkOf inf d = .int k) : d = .int k := by
  cases d <;> simp only [tkOf] at h <;> first | (cases h; done) | (split at h <;> cases h; done) | (injection h with h; subst h; rfl)
theorem tk_pointer {inf : Nat → Option TypeInfo} {d : TypeDesc} {e : TypeId} (h : tkOf inf d = .pointer e) : d = .pointer e := by
  cases d <;> simp only [tkOf] at h <;> first | (cases h; done) | (split at h <;> cases h; done) | (injection h with h; subst h; rfl)
theorem EnvOk.kind (ok : EnvOk P E) {ty : TypeId} {ti : TI} (h : E.ty ty = some ti) :
    ∃ i d, P.info? ty = some i ∧ P.underlying ty = some d ∧ tkOf P.info? d = ti.kind ∧ ti.size = i.size ∧ ti.bytes = i.bytes ∧ ti.agg = isAggD d := by
  obtain ⟨i, d, h1, h2, rfl⟩ := ok.ty _ _ h
  exact ⟨i, d, h1, h2, rfl, rfl, rfl, rfl⟩

theorem opIndexAddr_ok (ok : EnvOk P E) {ty : TypeId} {x ix : Operand} (r : RhoOk φ t ρ) (e : opIndexAddr E ty x ix t h = some (v, h')) :
    h' = h ∧ ∃ u, (∀ w, (Instr.indexAt ty (ρ x) (ρ ix)).run P w = .ok u w) ∧ VRel φ v u := by
  unfold opIndexAddr at e
  split at e
  · rename_i n el _ _ _ _ _ a _ i hty hx hi
    obtain ⟨I, d, i1, i2, i3, _⟩ := ok.kind hty
    have := tk_array i3; subst this
    split at e
    · rename_i te hte
      obtain ⟨J, d', j1, j2, j3, j4, _⟩ := ok.kind hte
      split at e
      · rename_i hlt
        injection e with e
        injection e with e1 e2
        subst e1
        have hlt' : i < n := by simpa [Nat.blt_eq] using hlt
        obtain ⟨pl, p1, p2, p3⟩ := (r _ _ hx).ptr
        have hix := (r _ _ hi).int
        refine ⟨e2.symm, .pointer (some ⟨pl.rb, a.o - pl.d + i * te.size, none⟩), fun w => ?_, ?_⟩
        · simp only [Instr.indexAt, hix, asIntOf, Sem.run_bind, Sem.run_pure, Result.andThen_ok, r_und i2, Instr.sureAddr, p3]
          simp [hlt', r_size j1, j4, Addr.add_off]
        · rw [Ad.shift_eq]
          exact VRel.mk_ptr p1 (by show pl.d ≤ a.o + i * te.size; omega) (by show _ = (⟨pl.rb, a.o + i * te.size - pl.d, none⟩ : Addr); rw [show a.o - pl.d + i * te.size = a.o + i * te.size - pl.d from by omega])
      · cases e
    · cases e
  · rename_i el _ _ _ _ _ a len cap z ex _ i hty hx hi
    obtain ⟨I, d, i1, i2, i3, _⟩ := ok.kind hty
    have := tk_slice i3; subst this
    split at e
    · rename_i te hte
      obtain ⟨J, d', j1, j2, j3, j4, _⟩ := ok.kind hte
      split at e
      · rename_i hlt
        injection e with e
        injection e with e1 e2
        subst e1
        simp only [Bool.and_eq_true] at hlt
        have hlt' : i < len := by simpa [Nat.blt_eq] using hlt.1
        have hz : te.size = z := Nat.eq_of_beq_eq_true hlt.2
        have hix := (r _ _ hi).int
        have k1 := r _ _ hx
        simp only [VRel] at k1
        obtain ⟨pl, p1, a', c', p2, p3, p4, p5, p6⟩ := k1
        rcases p6 with ⟨q1, q2, q3⟩ | q1
        · subst q2
          refine ⟨e2.symm, .pointer (some ⟨pl.rb, a.o - pl.d + i * z, none⟩), fun w => ?_, ?_⟩
          · simp only [Instr.indexAt, hix, asIntOf, Sem.run_bind, Sem.run_pure, Result.andThen_ok, r_und i2, p2]
            simp [hlt', r_size j1, ← j4, hz, Addr.add_off]
          · rw [Ad.shift_eq]
            exact VRel.mk_ptr p1 (by show pl.d ≤ a.o + i * z; omega) (by show _ = (⟨pl.rb, a.o + i * z - pl.d, none⟩ : Addr); rw [show a.o - pl.d + i * z = a.o + i * z - pl.d from by omega])
        · omega
      · cases e
    · cases e
  · cases e

theorem opIndex_ok (ok : EnvOk P E) {ty : TypeId} {x ix : Operand} (r : RhoOk φ t ρ) (e : opIndex E ty x ix t h = some (v, h')) :
    h' = h ∧ ∃ u, (∀ w, (Instr.index ty (ρ x) (ρ ix)).run P w = .ok u w) ∧ VRel φ v u := by
  unfold opIndex at e
  split at e
  · rename_i n el _ _ _ _ _ l _ i hty hx hi
    obtain ⟨I, d, i1, i2, i3, _⟩ := ok.kind hty
    have := tk_array i3; subst this
    split at e
    · rename_i te hte
      obtain ⟨J, d', j1, j2, j3⟩ := ok.ty _ _ hte
      split at e
      · rename_i hlt
        have hlt' : i < n := by simpa [Nat.blt_eq] using hlt
        have hix := (r _ _ hi).int
        have k1 := r _ _ hx
        simp only [VRel] at k1
        obtain ⟨cs, hcs, rl⟩ := k1
        split at e
        · rename_i u hu
          injection e with e
          injection e with e1 e2
          subst e1
          obtain ⟨y, hy, hv⟩ := partV_ok j1 j2 j3 rl hu
          refine ⟨e2.symm, y, fun w => ?_, hv⟩
          have hsz : te.size = J.size := by rw [j3]; rfl
          simp only [Instr.index, hix, asIntOf, Sem.run_bind, Sem.run_pure, Result.andThen_ok, r_und i2, hcs]
          simp [hlt', r_size j1, ← hsz, hy w]
        · cases e
      · cases e
    · cases e
  · rename_i _ _ _ _ _ l _ i hty hx hi
    obtain ⟨I, d, i1, i2, i3, _⟩ := ok.kind hty
    have := tk_string i3; subst this
    split at e
    · rename_i c hc
      rw [at?_eq] at hc
      injection e with e
      injection e with e1 e2
      subst e1
      have hix := (r _ _ hi).int
      obtain ⟨s, hs, hl⟩ := (r _ _ hx).str
      refine ⟨e2.symm, .int .u8 c.toNat, fun w => ?_, VRel.mk_int rfl⟩
      simp only [Instr.index, hix, asIntOf, Sem.run_bind, Sem.run_pure, Result.andThen_ok, r_und i2, hs]
      have hlt : i < s.size := by
        rcases Nat.lt_or_ge i s.size with q | q
        · exact q
        · rw [List.getElem?_eq_none (by rw [← hl]; simpa using q)] at hc; cases hc
      have hget : s[i]? = some c := by
        rw [getElem?_pos s i hlt]
        rw [← hl] at hc
        rw [List.getElem?_eq_getElem (by simpa using hlt)] at hc
        injection hc with hc
        rw [← hc]
        rfl
      simp [hget]
    · cases e
  · cases e

theorem fill_ok {place : Nat → Option (Nat × Nat)} : ∀ (ps : List (Nat × V)) (qs : List (Nat × Value)) (zs : List V) (cs : Array Value) (r : List V),
    ps.length = qs.length → (∀ (k : Nat) p, ps[k]? = some p → ∃ u, qs[k]? = some (p.1, u) ∧ VRel φ p.2 u ∧ VRels φ p.2.cells u.cells.toList) →
    VRels φ zs cs.toList → fillV place zs ps = some r → ∃ cs', Instr.fill place cs qs = some cs' ∧ VRels φ r cs'.toList := by
  intro ps
  induction ps with
  | nil =>
    intro qs zs cs r hl _ hz e
    simp only [fillV, Option.some.injEq] at e
    subst e
    cases qs with
    | nil => exact ⟨cs, rfl, hz⟩
    | cons q qs => simp at hl
  | cons p ps ih =>
    intro qs zs cs r hl hp hz e
    cases qs with
    | nil => simp at hl
    | cons q qs =>
      obtain ⟨i, x⟩ := p
      obtain ⟨u, hu, hx, hxc⟩ := hp 0 (i, x) (by simp)
      simp at hu
      subst hu
      simp only [fillV] at e
      split at e
      · cases e
      · rename_i off size hpl
        split at e
        · cases e
        · rename_i hb
          have hsz := Nat.eq_of_beq_eq_true hb
          split at e
          · cases e
          · rename_i c hc
            obtain ⟨o1, o2, o3⟩ := overAt_ok _ _ _ _ hc
            have hul : u.cells.size = x.cells.length := by have := hxc.length; simpa using this
            have hcl : cs.size = zs.length := by have := hz.length; simpa using this
            have hfold : ∀ (L : List Value) (j : Nat) (C : Array Value), off + j + L.length ≤ C.size →
                ((L.zipIdx j).foldl (fun cs (c, k) => cs.setIfInBounds (off + k) c) C).size = C.size ∧
                ∀ k : Nat, ((L.zipIdx j).foldl (fun cs (c, k) => cs.setIfInBounds (off + k) c) C)[k]? = if off + j ≤ k ∧ k < off + j + L.length then L[k - (off + j)]? else C[k]? := by
              intro L
              induction L with
              | nil => intro j C _; exact ⟨rfl, fun k => by rw [if_neg (by rintro ⟨q1, q2⟩; simp at q2; omega)]; rfl⟩
              | cons a L ihL =>
                intro j C hC
                simp only [List.length_cons] at hC
                obtain ⟨q1, q2⟩ := ihL (j + 1) (C.setIfInBounds (off + j) a) (by simp; omega)
                refine ⟨by simpa using q1, fun k => ?_⟩
                simp only [List.zipIdx_cons, List.foldl_cons]
                rw [q2 k]
                by_cases h1 : k = off + j
                · subst h1
                  rw [if_neg (by omega), if_pos (by simp), Array.getElem?_setIfInBounds, if_pos rfl, if_pos (by omega)]
                  simp
                · by_cases h2 : off + (j + 1) ≤ k ∧ k < off + (j + 1) + L.length
                  · rw [if_pos h2, if_pos (by simp only [List.length_cons]; omega), show k - (off + j) = (k - (off + (j + 1))) + 1 from by omega]
                    simp
                  · rw [if_neg h2, if_neg (by simp only [List.length_cons]; omega), Array.getElem?_setIfInBounds, if_neg (by omega)]
            obtain ⟨f1, f2⟩ := hfold u.cells.toList 0 cs (by simp; omega)
            have hrel : VRels φ c ((u.cells.zipIdx.foldl (fun cs (c, j) => cs.setIfInBounds (off + j) c) cs).toList) := by
              have hz' : u.cells.zipIdx.foldl (fun cs (c, j) => cs.setIfInBounds (off + j) c) cs = (u.cells.toList.zipIdx 0).foldl (fun cs (c, k) => cs.setIfInBounds (off + k) c) cs := by
                rw [← Array.foldl_toList]
                simp
              rw [hz']
              refine VRels.of_get ?_ ?_
              · rw [o2, ← hcl]; simpa using f1
              · intro k y hy
                rw [o3 k] at hy
                have := f2 k
                simp only [Array.getElem?_toList]
                rw [this]
                by_cases hk : off ≤ k ∧ k < off + x.cells.length
                · rw [if_pos hk] at hy
                  rw [if_pos (by simp; omega)]
                  obtain ⟨z, z1, z2⟩ := hxc.get _ _ hy
                  exact ⟨z, by simpa using z1, z2⟩
                · rw [if_neg hk] at hy
                  rw [if_neg (by simp; omega)]
                  obtain ⟨z, z1, z2⟩ := hz.get _ _ hy
                  exact ⟨z, by simpa using z1, z2⟩
            obtain ⟨cs', e1, e2⟩ := ih qs c _ r (by simpa using hl) (fun k p hk => by simpa using hp (k + 1) p (by simpa using hk)) hrel e
            refine ⟨cs', ?_, e2⟩
            simp only [Instr.fill, hpl]
            have hc1 : ¬ u.cells.size ≠ size := by omega
            have hc2 : ¬ off + u.cells.size > cs.size := by omega
            simp only [hc1, hc2, decide_false, Bool.or_self, Bool.false_eq_true, if_false]
            exact e1

theorem evParts_ok (r : RhoOk φ t ρ) : ∀ {ps : List (Nat × Operand)} {vs : List (Nat × V)}, t.evParts ps = some vs →
    vs.length = (ps.map fun (i, x) => (i, ρ x)).length ∧ ∀ (k : Nat) p, vs[k]? = some p → ∃ u, (ps.map fun (i, x) => (i, ρ x))[k]? = some (p.1, u) ∧ VRel φ p.2 u
  | [], vs, h => by simp only [T.evParts, Option.some.injEq] at h; subst h; simp
  | (i, x) :: ps, vs, h => by
    simp only [T.evParts] at h
    split at h
    · cases h
    · rename_i y hy
      split at h
      · cases h
      · rename_i ys hys
        injection h with h
        subst h
        obtain ⟨a, b⟩ := evParts_ok r hys
        refine ⟨by simp [a], fun k p hk => ?_⟩
        cases k with
        | zero => simp at hk; subst hk; exact ⟨ρ x, by simp, r _ _ hy⟩
        | succ k => simpa using b k p (by simpa using hk)

end
end Go.Am

/-
  SLICE EXPRESSIONS, BUILT AGGREGATES, AND THE PURE OPERATIONS TOGETHER.
-/
namespace Go.Am

section
variable {P : Program} {E : Env} {φ : Mp} {t : T} {h h' : Heap} {ρ : Operand → Value} {v : V}

inductive OptRel (φ : Mp) : Option V → Option Value → Prop where
  | none : OptRel φ none none
  | some {v : V} {u : Value} (h : VRel φ v u) : OptRel φ (some v) (some u)

theorem evOpt_ok (r : RhoOk φ t ρ) {x : Option Operand} {o : Option V} (e : t.evOpt x = some o) : OptRel φ o (x.map ρ) := by
  cases x with
  | none => simp only [T.evOpt, Option.some.injEq] at e; subst e; exact .none
  | some x =>
    simp only [T.evOpt] at e
    split at e
    · cases e
    · rename_i v hv
      injection e with e
      subst e
      exact .some (r _ _ hv)

theorem bound_ok {v : V} {u : Value} {n y : Nat} (code : BoundsCode) (w : World) (hv : VRel φ v u) (hn : natOf v = some n) (hy : n ≤ y) : (Instr.sliceBound u y code).run P w = .ok n w := by
  unfold natOf at hn
  split at hn
  · injection hn with hn
    subst hn
    have := hv.int
    subst this
    simp [Instr.sliceBound, asIntOf, hy]
  · cases hn

theorem bounds_ok {isSlice : Bool} {len cap cap' : Nat} {lo hi mx : Option V} {lo' hi' mx' : Option Value} {l b m : Nat} (hl : OptRel φ lo lo') (hh : OptRel φ hi hi') (hm : OptRel φ mx mx') (hc : cap ≤ cap')
    (e : boundsV len cap lo hi mx = some (l, b, m)) :
    ∃ m', (∀ w, (Instr.sliceBounds isSlice len cap' lo' hi' mx').run P w = .ok (l, b, m') w) ∧ l ≤ b ∧ b ≤ m ∧ m ≤ cap ∧ (mx = none → m = cap ∧ m' = cap') ∧ (mx ≠ none → m' = m) := by
  unfold boundsV at e
  split at e
  · cases e
  · rename_i m0 hm0
    split at e
    · cases e
    · rename_i hm1
      have hm1' := Nat.le_of_ble_eq_true hm1
      split at e
      · cases e
      · rename_i b0 hb0
        split at e
        · cases e
        · rename_i hb1
          have hb1' := Nat.le_of_ble_eq_true hb1
          split at e
          · cases e
          · rename_i l0 hl0
            split at e
            · cases e
            · rename_i hl1
              have hl1' := Nat.le_of_ble_eq_true hl1
              injection e with e
              injection e with e1 e2
              injection e2 with e2 e3
              subst e1; subst e2; subst e3
              cases hm with
              | none =>
                simp only [optNat, Option.some.injEq] at hm0
                subst hm0
                refine ⟨cap', fun w => ?_, hl1', hb1', Nat.le_refl _, fun _ => ⟨rfl, rfl⟩, fun q => absurd rfl q⟩
                cases hh with
                | none =>
                  simp only [optNat, Option.some.injEq] at hb0
                  subst hb0
                  cases hl with
                  | none => simp only [optNat, Option.some.injEq] at hl0; subst hl0; simp [Instr.sliceBounds]
                  | some hv => simp only [optNat] at hl0; simp [Instr.sliceBounds, bound_ok _ w hv hl0 hl1']
                | some hv2 =>
                  simp only [optNat] at hb0
                  cases hl with
                  | none => simp only [optNat, Option.some.injEq] at hl0; subst hl0; simp [Instr.sliceBounds, bound_ok _ w hv2 hb0 (Nat.le_trans hb1' hc)]
                  | some hv => simp only [optNat] at hl0; simp [Instr.sliceBounds, bound_ok _ w hv2 hb0 (Nat.le_trans hb1' hc), bound_ok _ w hv hl0 hl1']
              | some hv3 =>
                simp only [optNat] at hm0
                refine ⟨m0, fun w => ?_, hl1', hb1', hm1', fun q => (by cases q), fun _ => rfl⟩
                cases hh with
                | none => cases hb0
                | some hv2 =>
                  simp only [optNat] at hb0
                  cases hl with
                  | none => simp only [optNat, Option.some.injEq] at hl0; subst hl0; simp [Instr.sliceBounds, bound_ok _ w hv3 hm0 (Nat.le_trans hm1' hc), bound_ok _ w hv2 hb0 hb1']
                  | some hv => simp only [optNat] at hl0; simp [Instr.sliceBounds, bound_ok _ w hv3 hm0 (Nat.le_trans hm1' hc), bound_ok _ w hv2 hb0 hb1', bound_ok _ w hv hl0 hl1']

theorem sliceV_ok (ok : EnvOk P E) {ty : TypeId} {x : V} {X : Value} {lo hi mx : Option V} {lo' hi' mx' : Option Value} (hx : VRel φ x X) (hl : OptRel φ lo lo') (hh : OptRel φ hi hi') (hm : OptRel φ mx mx')
    (e : sliceV E ty x lo hi mx = some v) : ∃ u, (∀ w, (Instr.sliceAt ty X lo' hi' mx').run P w = .ok u w) ∧ VRel φ v u := by
  unfold sliceV at e
  split at e
  · rename_i _ _ _ _ _ l hty
    obtain ⟨I, d, i1, i2, i3, _⟩ := ok.kind hty
    have := tk_string i3; subst this
    split at e
    · cases e
    · rename_i hmx
      cases hm
      split at e
      · cases e
      · rename_i a b m hb
        split at e
        · rename_i r hr
          injection e with e
          subst e
          obtain ⟨s, rfl, hs⟩ := hx.str
          rw [len_eq] at hb
          have hsz : l.length = s.size := by rw [← hs]; simp
          rw [hsz] at hb
          obtain ⟨m', q1, q2, q3, q4, q5, _⟩ := bounds_ok (isSlice := false) (cap' := s.size) (P := P) hl hh .none (Nat.le_refl _) hb
          obtain ⟨c1, c2, c3⟩ := cut_ok _ _ _ _ hr
          refine ⟨.string (s.extract a b), fun w => ?_, VRel.mk_str ?_⟩
          · simp [Instr.sliceAt, r_und i2, Instr.slice, q1 w]
          · rw [c1, ← hs]
            simp [ByteArray.data_extract, List.extract_eq_take_drop]
        · cases e
  · rename_i el _ _ _ _ _ base len cap z ex hty
    obtain ⟨I, d, i1, i2, i3, _⟩ := ok.kind hty
    have := tk_slice i3; subst this
    split at e
    · rename_i l b m te hb hte
      obtain ⟨J, d', j1, j2, j3, j4, _⟩ := ok.kind hte
      split at e
      · injection e with e
        subst e
        simp only [VRel] at hx
        obtain ⟨rfl, rfl, rfl⟩ := hx
        obtain ⟨m', q1, q2, q3, q4, q5, q6⟩ := bounds_ok (isSlice := true) (cap' := 0) (P := P) hl hh hm (Nat.le_refl _) hb
        have hm0 : m' = 0 := by
          cases hm with
          | none => exact (q5 rfl).2
          | some _ => rw [q6 (by simp)]; omega
        refine ⟨.slice none 0 0, fun w => ?_, by simp only [VRel]; exact ⟨trivial, trivial, trivial⟩⟩
        have hl0 : l = 0 := by omega
        have hb0 : b = 0 := by omega
        subst hl0; subst hb0; subst hm0
        simp [Instr.sliceAt, r_und i2, Instr.slice, q1 w, r_size j1]
      · rename_i a
        split at e
        · cases e
        · rename_i hz
          have hz' := Nat.eq_of_beq_eq_true hz
          simp only [VRel] at hx
          obtain ⟨pl, p1, a', c', rfl, p3, p4, p5, p6⟩ := hx
          obtain ⟨m', q1, q2, q3, q4, q5, q6⟩ := bounds_ok (isSlice := true) (cap' := c') (P := P) hl hh hm p4 hb
          have hrun : ∀ w, (Instr.sliceAt ty (.slice (some a') len c') lo' hi' mx').run P w = .ok (.slice (some (if m' = l then a' else a'.add (l * z))) (b - l) (m' - l)) w := by
            intro w
            have hsz : J.size = z := by rw [← j4]; exact hz'
            simp only [Instr.sliceAt, r_und i2, Instr.slice, q1 w, r_size j1, Sem.run_bind, Result.andThen_ok, Sem.run_pure, hsz, Option.map_some]
            split <;> rfl
          have hle : m' ≤ c' := by
            cases hm with
            | none => rw [(q5 rfl).2]; exact Nat.le_refl _
            | some _ => rw [q6 (by simp)]; omega
          have hmm : m ≤ m' := by
            cases hm with
            | none => obtain ⟨e1, e2⟩ := q5 rfl; omega
            | some _ => rw [q6 (by simp)]; exact Nat.le_refl _
          have hex : (ex || mx.isSome) = true → m' = m := by
            intro hc
            cases hm with
            | none =>
              obtain ⟨e1, e2⟩ := q5 rfl
              have : ex = true := by simpa using hc
              rw [e2, p5 this, e1]
            | some _ => exact q6 (by simp)
          split at e
          · rename_i hc
            injection e with e
            subst e
            simp only [Bool.and_eq_true] at hc
            have hml : m = l := Nat.eq_of_beq_eq_true hc.2
            have hmm' := hex hc.1
            refine ⟨_, hrun, ?_⟩
            rw [if_pos (by omega)]
            simp only [VRel]
            exact ⟨pl, p1, a', m' - l, by rw [show b - l = 0 from by omega], Nat.le_refl _, by omega, fun _ => by omega, .inr (by omega)⟩
          · rename_i hc
            injection e with e
            subst e
            refine ⟨_, hrun, ?_⟩
            simp only [VRel]
            refine ⟨pl, p1, _, m' - l, rfl, by omega, by omega, fun q => by rw [hex q], ?_⟩
            by_cases hm0 : m' = l
            · exact .inr (by omega)
            · rw [if_neg hm0]
              rcases p6 with ⟨s1, s2, s3⟩ | s1
              · subst s2
                refine .inl ⟨by show pl.d ≤ a.o + l * z; omega, ?_, ?_⟩
                · rw [Addr.add_off]
                  show _ = (⟨pl.rb, a.o + l * z - pl.d, none⟩ : Addr)
                  rw [show a.o - pl.d + l * z = a.o + l * z - pl.d from by omega]
                · show a.o + l * z - pl.d + (m' - l) * z ≤ pl.sz
                  have h1 : (m' - l) * z + l * z = m' * z := by rw [← Nat.add_mul]; congr 1; omega
                  have h2 : m' * z ≤ c' * z := Nat.mul_le_mul_right z hle
                  omega
              · exact .inr (by omega)
    · cases e
  · cases e

theorem opSlice_ok (ok : EnvOk P E) {ty : TypeId} {x : Operand} {lo hi mx : Option Operand} (r : RhoOk φ t ρ) (e : opSlice E ty x lo hi mx t h = some (v, h')) :
    h' = h ∧ ∃ u, (∀ w, (Instr.sliceAt ty (ρ x) (lo.map ρ) (hi.map ρ) (mx.map ρ)).run P w = .ok u w) ∧ VRel φ v u := by
  unfold opSlice at e
  split at e
  · rename_i x1 a b c hx ha hb hc
    split at e
    · rename_i u hu
      injection e with e
      injection e with e1 e2
      subst e1
      exact ⟨e2.symm, sliceV_ok ok (r _ _ hx) (evOpt_ok r ha) (evOpt_ok r hb) (evOpt_ok r hc) hu⟩
    · cases e
  · cases e

/-- The places of a struct's fields. -/
theorem r_places {inf : Nat → Option TypeInfo} (hinf : inf = P.info?) (w : World) : ∀ (fs : List Field) (l : List (TypeId × Nat × Nat)), fieldsOf inf fs = some l →
    (fs.mapM (m := Sem) fun f => do pure (f.offset, ← sizeOf f.type)).run P w = .ok (l.map fun x => (x.2.1, x.2.2)) w := by
  subst hinf
  intro fs
  induction fs with
  | nil => intro l h; simp only [fieldsOf, Option.some.injEq] at h; subst h; rfl
  | cons f fs ih =>
    intro l h
    simp only [fieldsOf] at h
    split at h
    · cases h
    · rename_i i hi
      split at h
      · cases h
      · rename_i l' hl'
        injection h with h
        subst h
        simp only [List.mapM_cons, Sem.run_bind, r_size hi, Result.andThen_ok, Sem.run_pure, ih l' hl', List.map_cons]

theorem opBuild_ok (ok : EnvOk P E) {ty : TypeId} {parts : Array (Nat × Operand)} (r : RhoOk φ t ρ) (e : opBuild E ty parts t h = some (v, h')) :
    h' = h ∧ ∃ u, (∀ w, (Instr.build ty (parts.map fun (i, x) => (i, ρ x))).run P w = .ok u w) ∧ VRel φ v u := by
  unfold opBuild at e
  split at e
  · rename_i ti hti
    obtain ⟨I, d, i1, i2, i3, _⟩ := ok.kind hti
    split at e
    · rename_i zs ps hz hps
      obtain ⟨I', z, z1, z2, z3⟩ := ok.zero hti hz
      have hI : I' = I := by rw [i1] at z1; injection z1 with z1; exact z1.symm
      subst hI
      obtain ⟨q1, q2⟩ := evParts_ok r hps
      have q2' : ∀ (k : Nat) p, ps[k]? = some p → ∃ u, (parts.toList.map fun (i, x) => (i, ρ x))[k]? = some (p.1, u) ∧ VRel φ p.2 u ∧ VRels φ p.2.cells u.cells.toList :=
        fun k p hk => let ⟨u, a, b⟩ := q2 k p hk; ⟨u, a, b, b.cells⟩
      have hparts : (parts.map fun (i, x) => (i, ρ x)).toList = parts.toList.map fun (i, x) => (i, ρ x) := by simp
      split at e
      · rename_i fs hk
        rw [hk] at i3
        obtain ⟨F, rfl, hF⟩ := tk_struct i3
        split at e
        · rename_i l hl
          injection e with e
          injection e with e1 e2
          subst e1
          have hpl : placeOf fs = fun i => (fs.map fun x => (x.2.1, x.2.2))[i]? := by
            funext i
            unfold placeOf
            rw [at?_eq]
            simp only [List.getElem?_map]
            cases fs[i]? <;> rfl
          rw [hpl] at hl
          obtain ⟨cs', c1, c2⟩ := fill_ok ps _ zs z.cells l q1 q2' (z3 φ) hl
          refine ⟨e2.symm, .agg cs', fun w => ?_, by simp only [VRel]; exact ⟨cs', rfl, c2⟩⟩
          have hplaces : (F.mapM (m := Sem) fun f => do pure (f.offset, ← sizeOf f.type)).run P w = .ok (fs.map fun x => (x.2.1, x.2.2)).toArray w := by
            have := r_places (P := P) rfl w F.toList fs hF
            rw [Array.mapM_eq_mapM_toList]
            rw [Sem.run_map, this]
            rfl
          simp only [Instr.build, Sem.run_bind, r_zero i1 z2, Result.andThen_ok, r_und i2, hplaces, hparts]
          simp only [List.getElem?_toArray, c1, Sem.run_pure]
        · cases e
      · rename_i n el hk
        rw [hk] at i3
        have := tk_array i3
        subst this
        split at e
        · rename_i te hte
          obtain ⟨J, d', j1, j2, j3, j4, _⟩ := ok.kind hte
          split at e
          · rename_i l hl
            injection e with e
            injection e with e1 e2
            subst e1
            obtain ⟨cs', c1, c2⟩ := fill_ok ps _ zs z.cells l q1 q2' (z3 φ) hl
            refine ⟨e2.symm, .agg cs', fun w => ?_, by simp only [VRel]; exact ⟨cs', rfl, c2⟩⟩
            simp only [Instr.build, Sem.run_bind, r_zero i1 z2, Result.andThen_ok, r_und i2, r_size j1, hparts, ← j4, c1, Sem.run_pure]
          · cases e
        · cases e
      · cases e
    · cases e
  · cases e

end
end Go.Am

/-
  OPERATIONS THAT MAKE MEMORY, LOAD AND STORE.
-/
namespace Go.Am

/-- A step that lays one new block. -/
def NewOk (P : Program) (φ : Mp) (next : Nat) (s : Sem Next) (v : V) (b : Blk) : Prop :=
  ∃ (o : Obj) (sz : Nat) (y : Nat → Value), (∀ w : World, s.run P w = .ok (.value (y w.heap.size)) (World.laid w o)) ∧
    (∀ fam o x st, b = .fam fam → fam.cells.get o = some (x, st) → st ≤ 0 ∧ o < fam.ext) ∧
    ∀ (φ2 : Mp) (w : World), φ.le φ2 → φ2 next 0 = some ⟨w.heap.size, 0, sz⟩ → VRel φ2 v (y w.heap.size) ∧ BRel φ2 (World.laid w o) 0 ⟨w.heap.size, 0, sz⟩ b

/-- A step, and what it makes of the heap. -/
def MemOk (P : Program) (φ : Mp) (h : Heap) (w : World) (s : Sem Next) (v : V) (h' : Heap) : Prop :=
  ∃ φ' w', HRel φ' h' w' ∧ Ext φ w φ' w' h.next ∧ h.next ≤ h'.next ∧ ((∃ y, s.run P w = .ok (.value y) w' ∧ VRel φ' v y) ∨ (s.run P w = .ok .skip w' ∧ v = V.undef))

theorem NewOk.mem {P : Program} {φ : Mp} {h : Heap} {w : World} {s : Sem Next} {v : V} {b : Blk} (r : HRel φ h w) (k : NewOk P φ h.next s v b) : MemOk P φ h w s v (h.newBlk b) := by
  obtain ⟨o, sz, y, k1, k2, k3⟩ := k
  obtain ⟨q1, q2⟩ := k3 (φ.upd h.next 0 ⟨w.heap.size, 0, sz⟩) w (r.le_upd _) (Mp.upd_eq _ _ _ _)
  obtain ⟨a, c⟩ := r.push b o sz q2 k2
  exact ⟨_, _, a, c, by rw [Heap.newBlk_next]; omega, .inl ⟨_, k1 w, q1⟩⟩

theorem PureOk.mem {P : Program} {φ : Mp} {h : Heap} {w : World} {s : Sem Next} {v : V} (r : HRel φ h w) (k : PureOk P φ s v) : MemOk P φ h w s v h := by
  obtain ⟨y, k1, k2⟩ := k
  exact ⟨φ, w, r, r.ext_refl, Nat.le_refl _, .inl ⟨y, k1 w, k2⟩⟩

section
variable {P : Program} {E : Env} {φ : Mp} {t : T} {h h' : Heap} {ρ : Operand → Value} {v : V} {w : World}

/-- A row of cells, new. -/
theorem cells_new {φ2 : Mp} {e : TypeId} {l : List V} {str : Bool} {c : Array Value} {fr : Nat × Nat} {w : World}
    (hl : ∀ (k : Nat) (x : V), l[k]? = some x → ∃ y, c[k]? = some y ∧ VRel φ2 x y) (hfr : ∀ i : Nat, i < c.size → ¬ (fr.1 ≤ i ∧ i < fr.2)) (hs : str = false → ∀ i : Nat, ¬ (fr.1 ≤ i ∧ i < fr.2)) :
    BRel φ2 (World.laid w (.cells c e fr)) 0 ⟨w.heap.size, 0, c.size⟩ (.fam ⟨e, 0, l.length, str, lay 0 l 0 .nil⟩) := by
  refine ⟨c, e, fr, heap_laid_new _ _, rfl, hfr, hs, Nat.le_refl _, ?_⟩
  intro o x st g _ _
  rw [lay_get] at g
  split at g
  · rename_i hh
    injection g with g
    injection g with g1 g2
    obtain ⟨y, hy, hv⟩ := hl o x (by rw [List.getElem?_eq_getElem (by have := hh.2; omega)]; rw [← g1]; congr 1)
    exact ⟨y, by simpa using hy, hv⟩
  · rw [Tr.get_nil] at g; cases g

theorem lay_ext {e : TypeId} {s : Bool} {l : List V} : ∀ (fam : Fam) (o : Nat) (x : V) (st : Nat), Blk.fam ⟨e, 0, l.length, s, lay 0 l 0 .nil⟩ = .fam fam → fam.cells.get o = some (x, st) → st ≤ 0 ∧ o < fam.ext := by
  intro fam o x st e1 e2
  injection e1 with e1
  subst e1
  rw [lay_get] at e2
  split at e2
  · rename_i hh
    injection e2 with e2
    injection e2 with g1 g2
    exact ⟨by show st ≤ 0; omega, by have := hh.2; show o < l.length; omega⟩
  · rw [Tr.get_nil] at e2; cases e2

theorem VRels.at {l : List V} {ys : List Value} (r : VRels φ l ys) {φ2 : Mp} (hle : φ.le φ2) : ∀ (k : Nat) (x : V), l[k]? = some x → ∃ y, ys.toArray[k]? = some y ∧ VRel φ2 x y := by
  intro k x hx
  obtain ⟨u, a, b⟩ := r.get k x hx
  exact ⟨u, by simpa using a, b.mono hle⟩

theorem new_var {l : List V} {c : Array Value} {e : TypeId} {s : Sem Value} (rl : VRels φ l c.toList) (n : Nat)
    (hs : ∀ w : World, s.run P w = .ok (.pointer (some ⟨w.heap.size, 0, none⟩)) (World.laid w (.cells c e))) :
    NewOk P φ n (do pure (.value (← s))) (.p (some ⟨n, 0, 0⟩)) (.fam ⟨e, 0, l.length, false, lay 0 l 0 .nil⟩) := by
  refine ⟨.cells c e (0, 0), c.size, fun k => .pointer (some ⟨k, 0, none⟩), fun w => ?_, lay_ext, ?_⟩
  · rw [Sem.run_bind, hs w]; rfl
  · intro φ2 w hle hp
    refine ⟨VRel.mk_ptr hp (Nat.zero_le _) rfl, cells_new (fun k x hx => ?_) (by simp) (by simp)⟩
    obtain ⟨y, a, b⟩ := rl.at hle k x hx
    exact ⟨y, by simpa using a, b⟩

theorem opAlloc_ok (ok : EnvOk P E) {e : TypeId} (k : opAlloc E e t h = some (v, h')) :
    ∃ b, h' = h.newBlk b ∧ NewOk P φ h.next (do pure (.value (← Instr.alloc e true (.tuple #[])))) v b := by
  unfold opAlloc zeroCellsV at k
  split at k
  · rename_i l hl
    split at hl
    · rename_i _ _ _ zs _ _ hty
      injection hl with hl
      subst hl
      split at k
      · injection k with k
        injection k with k1 k2
        subst k1; subst k2
        obtain ⟨i, z, i1, i2, i3⟩ := ok.zero hty rfl
        refine ⟨_, rfl, ?_⟩
        refine new_var (i3 φ) h.next fun w => ?_
        simp only [Instr.alloc, Sem.run_bind, r_zero i1 i2, Result.andThen_ok, newVar, newRow, run_newObj, Sem.run_pure]
        rfl
      · cases k
    · cases hl
  · cases k

theorem opBox_ok {e : TypeId} {x : Operand} (r : RhoOk φ t ρ) (k : opBox e x t h = some (v, h')) :
    ∃ b, h' = h.newBlk b ∧ NewOk P φ h.next (do pure (.value (← Instr.box e (ρ x)))) v b := by
  unfold opBox at k
  split at k
  · rename_i u hu
    split at k
    · injection k with k
      injection k with k1 k2
      subst k1; subst k2
      refine ⟨_, rfl, ?_⟩
      refine new_var (r _ _ hu).cells h.next fun w => ?_
      simp only [Instr.box, Sem.run_bind, newVar, newRow, run_newObj, Sem.run_pure, Result.andThen_ok]
      rfl
    · cases k
  · cases k

theorem rep_get {α : Type} (l : List α) (hl : 0 < l.length) : ∀ (n k : Nat), k < n * l.length → (rep l n)[k]? = l[k % l.length]?
  | 0, k, h => by omega
  | n + 1, k, h => by
    simp only [rep]
    by_cases hk : k < l.length
    · rw [List.getElem?_append_left hk, Nat.mod_eq_of_lt hk]
    · rw [List.getElem?_append_right (by omega), rep_get l hl n (k - l.length) (by rw [Nat.succ_mul] at h; omega)]
      congr 1
      exact (Nat.mod_eq_sub_mod (by omega)).symm

theorem rep_length {α : Type} (l : List α) : ∀ n, (rep l n).length = n * l.length
  | 0 => by simp [rep]
  | n + 1 => by simp [rep, rep_length l n, Nat.add_mul]; omega

/-- Zeros, so many. -/
theorem zeros_rel {z : List V} {zc : Array Value} (rz : VRels φ z zc.toList) (hz : 0 < z.length) (n : Nat) :
    VRels φ (rep z n) ((Array.range (n * zc.size)).map (fun i => zc[i % zc.size]!)).toList := by
  have hlen : zc.size = z.length := by have := rz.length; simpa using this
  refine VRels.of_get (by simp [rep_length, hlen]) fun k x hx => ?_
  have hk : k < n * z.length := by
    rcases Nat.lt_or_ge k (n * z.length) with q | q
    · exact q
    · rw [List.getElem?_eq_none (by rw [rep_length]; exact q)] at hx; cases hx
  rw [rep_get z hz n k hk] at hx
  obtain ⟨u, hu, hv⟩ := rz.get _ _ hx
  refine ⟨u, ?_, hv⟩
  have hm : k % zc.size < zc.size := Nat.mod_lt _ (by omega)
  simp only [Array.toList_map, Array.toList_range, List.getElem?_map]
  rw [List.getElem?_range (by rw [hlen]; exact hk)]
  simp only [Option.map_some, Option.some.injEq]
  rw [getElem!_pos zc _ hm]
  rw [← hlen] at hu
  simp only [Array.getElem?_toList] at hu
  rw [Array.getElem?_eq_getElem hm] at hu
  injection hu

theorem new_slice {l : List V} {c : Array Value} {e : TypeId} {s : Sem Value} (rl : VRels φ l c.toList) (n len cap z : Nat) (hlc : len ≤ cap) (hz : cap * z ≤ c.size)
    (hs : ∀ w : World, s.run P w = .ok (.slice (some ⟨w.heap.size, 0, none⟩) len cap) (World.laid w (.cells c e))) :
    NewOk P φ n (do pure (.value (← s))) (.sl (some ⟨n, 0, 0⟩) len cap z true) (.fam ⟨e, 0, l.length, false, lay 0 l 0 .nil⟩) := by
  refine ⟨.cells c e (0, 0), c.size, fun k => .slice (some ⟨k, 0, none⟩) len cap, fun w => ?_, lay_ext, ?_⟩
  · rw [Sem.run_bind, hs w]; rfl
  · intro φ2 w hle hp
    refine ⟨?_, cells_new (fun k x hx => ?_) (by simp) (by simp)⟩
    · simp only [VRel]
      exact ⟨_, hp, _, cap, rfl, hlc, Nat.le_refl _, fun _ => rfl, .inl ⟨Nat.zero_le _, rfl, by simpa using hz⟩⟩
    · obtain ⟨y, a, b⟩ := rl.at hle k x hx
      exact ⟨y, by simpa using a, b⟩

theorem opBuildSlice_ok (ok : EnvOk P E) {ty : TypeId} {len : Nat} {parts : Array (Nat × Operand)} (r : RhoOk φ t ρ) (k : opBuildSlice E ty len parts t h = some (v, h')) :
    ∃ b, h' = h.newBlk b ∧ NewOk P φ h.next (do pure (.value (← Instr.buildSlice ty len (parts.map fun (i, x) => (i, ρ x))))) v b := by
  unfold opBuildSlice at k
  split at k
  · rename_i el _ _ _ _ _ hty
    obtain ⟨I, d, i1, i2, i3, _⟩ := ok.kind hty
    have := tk_slice i3; subst this
    split at k
    · rename_i te hte
      obtain ⟨J, d', j1, j2, j3, j4, _⟩ := ok.kind hte
      split at k
      · rename_i zs ps hz hps
        obtain ⟨J', z, z1, z2, z3⟩ := ok.zero hte hz
        have hJ : J' = J := by rw [j1] at z1; injection z1 with z1; exact z1.symm
        subst hJ
        split at k
        · cases k
        · rename_i hc
          simp only [Bool.and_eq_true, Bool.not_eq_true'] at hc
          obtain ⟨c1, c2, c3⟩ := hc
          have c1' := Nat.le_of_ble_eq_true c1
          have c2' : zs.length = te.size := Nat.eq_of_beq_eq_true c2
          have c3' : te.size ≠ 0 := by intro q; rw [q] at c3; cases c3
          split at k
          · rename_i l hl
            split at k
            · injection k with k
              injection k with k1 k2
              subst k1; subst k2
              obtain ⟨q1, q2⟩ := evParts_ok r hps
              have q2' : ∀ (k : Nat) p, ps[k]? = some p → ∃ u, (parts.toList.map fun (i, x) => (i, ρ x))[k]? = some (p.1, u) ∧ VRel φ p.2 u ∧ VRels φ p.2.cells u.cells.toList :=
                fun k p hk => let ⟨u, a, b⟩ := q2 k p hk; ⟨u, a, b, b.cells⟩
              have hzc : z.cells.size = te.size := by have := (z3 φ).length; simp at this; omega
              obtain ⟨cs', f1, f2⟩ := fill_ok ps _ (rep zs len) ((Array.range (len * te.size)).map (fun i => z.cells[i % z.cells.size]!)) l q1 q2'
                (by have := zeros_rel (z3 φ) (by omega) len; rw [hzc] at this ⊢; exact this) hl
              have hlen : cs'.size = len * te.size := by
                have h1 := f2.length
                have h2 : l.length = (rep zs len).length := by
                  have : ∀ (ps : List (Nat × V)) (z r : List V), fillV (fun i => some (i * te.size, te.size)) z ps = some r → r.length = z.length := by
                    intro ps
                    induction ps with
                    | nil => intro z r e; simp only [fillV, Option.some.injEq] at e; rw [e]
                    | cons p ps ih =>
                      intro z r e
                      obtain ⟨i, x⟩ := p
                      simp only [fillV] at e
                      split at e
                      · cases e
                      · split at e
                        · cases e
                        · rename_i c hc
                          rw [ih _ _ e, (overAt_ok _ _ _ _ hc).2.1]
                  exact this _ _ _ hl
                rw [rep_length] at h2
                simp at h1
                rw [h1, h2, c2']
              refine ⟨_, rfl, ?_⟩
              refine new_slice f2 h.next len len te.size (Nat.le_refl _) (by omega) fun w => ?_
              have hparts : (parts.map fun (i, x) => (i, ρ x)).toList = parts.toList.map fun (i, x) => (i, ρ x) := by simp
              have hsz : J'.size = te.size := j4.symm
              simp only [Instr.buildSlice, Sem.run_bind, r_und i2, Result.andThen_ok, r_size j1, hsz, Sem.run_ite]
              rw [if_neg (by omega)]
              by_cases h0 : len * te.size = 0
              · have e0 : ∀ f : Nat → Value, (Array.range (len * te.size)).map f = #[] := by intro f; rw [h0]; simp
                rw [e0] at f1
                simp only [h0, if_true, Sem.run_pure, Result.andThen_ok, hparts]
                have e1 : ∀ f : Nat → Value, (Array.range 0).map f = #[] := by intro f; simp
                simp only [e1, f1, newRow, Sem.run_bind, run_newObj, Result.andThen_ok, Sem.run_pure]
                rfl
              · simp only [h0, if_false, r_zero j1 z2, Sem.run_bind, Result.andThen_ok, Sem.run_pure, hparts, f1, newRow, run_newObj]
                rfl
            · cases k
          · cases k
      · cases k
    · cases k
  · cases k

end
end Go.Am

/-
  LOADS, STORES, MADE SLICES AND MAPS, CONVERSIONS.
-/
namespace Go.Am

section
variable {P : Program} {E : Env} {φ : Mp} {t : T} {h h' : Heap} {ρ : Operand → Value} {v : V} {w : World}

theorem opMakeMap_ok (ok : EnvOk P E) {ty : TypeId} {r0 : Option Operand} (r : RhoOk φ t ρ) (k : opMakeMap E ty r0 t h = some (v, h')) :
    ∃ b, h' = h.newBlk b ∧ NewOk P φ h.next (do pure (.value (← Instr.makeMap ty (r0.map ρ)))) v b := by
  unfold opMakeMap at k
  split at k
  · rename_i kt et _ _ _ _ _ hty
    obtain ⟨I, d, i1, i2, i3, _⟩ := ok.kind hty
    have := tk_map i3; subst this
    split at k
    · rename_i hr
      injection k with k
      injection k with k1 k2
      subst k1; subst k2
      refine ⟨_, rfl, .map #[] 0, 0, fun n => .map (some n), fun w => ?_, (by intro _ _ _ _ q; cases q), ?_⟩
      · cases r0 with
        | none => simp [Instr.makeMap]; rfl
        | some x =>
          simp only at hr
          split at hr
          · rename_i k n hx
            have := (r _ _ hx).int
            simp [Instr.makeMap, r_und i2, this, asInt, asIntOf]; rfl
          · cases hr
      · intro φ2 w hle hp
        refine ⟨by simp only [VRel]; exact ⟨_, hp, rfl⟩, rfl, rfl, #[], heap_laid_new _ _, rfl⟩
    · cases k
  · cases k

theorem opMakeSlice_ok (ok : EnvOk P E) {ty : TypeId} {l c : Operand} (r : RhoOk φ t ρ) (k : opMakeSlice E ty l c t h = some (v, h')) :
    ∃ b, h' = h.newBlk b ∧ NewOk P φ h.next (do pure (.value (← Instr.makeSlice ty (ρ l) (ρ c)))) v b := by
  unfold opMakeSlice at k
  split at k
  · rename_i el _ _ _ _ _ _ n _ m hty hl hc
    obtain ⟨I, d, i1, i2, i3, _⟩ := ok.kind hty
    have := tk_slice i3; subst this
    split at k
    · rename_i te hte
      obtain ⟨J, d', j1, j2, j3, j4, j5, _⟩ := ok.kind hte
      split at k
      · rename_i zs hz
        obtain ⟨J', z, z1, z2, z3⟩ := ok.zero hte hz
        have hJ : J' = J := by rw [j1] at z1; injection z1 with z1; exact z1.symm
        subst hJ
        split at k
        · rename_i hb
          simp only [Bool.and_eq_true, Bool.not_eq_true', roomy] at hb
          obtain ⟨b1, b2, b3, b4, b5, b6⟩ := hb
          have b1' := Nat.le_of_ble_eq_true b1
          have b2' := Nat.le_of_ble_eq_true b2
          have b3' := Nat.le_of_ble_eq_true b3
          have b4' : zs.length = te.size := Nat.eq_of_beq_eq_true b4
          have b5' : te.size ≠ 0 := by intro q; rw [q] at b5; cases b5
          injection k with k
          injection k with k1 k2
          subst k1; subst k2
          have hzc : z.cells.size = te.size := by have := (z3 φ).length; simp at this; omega
          have hl' := (r _ _ hl).int
          have hc' := (r _ _ hc).int
          refine ⟨_, rfl, ?_⟩
          refine new_slice (c := (Array.range (m * te.size)).map (fun i => z.cells[i % z.cells.size]!)) (by have := zeros_rel (z3 φ) (by omega) m; rw [hzc] at this ⊢; exact this) h.next n m te.size b3' (by simp) fun w => ?_
          have hw1 : IntKind.i64.wrap (Int.ofNat n) = Int.ofNat n := by simp only [IntKind.wrap, IntKind.signed, IntKind.bits]; simp; omega
          have hw2 : IntKind.i64.wrap (Int.ofNat m) = Int.ofNat m := by simp only [IntKind.wrap, IntKind.signed, IntKind.bits]; simp; omega
          have hbytes : (J'.bytes : Int) * Int.ofNat m ≤ 1099511627776 := by
            rw [← j5]
            have := Int.ofNat_le.2 b1'
            rw [Int.natCast_mul, Int.mul_comm] at this
            exact this
          have hnot : ¬ ((decide (Int.ofNat m < 0) || decide ((J'.bytes : Int) * Int.ofNat m > 2 ^ 48) || decide (Int.ofNat n < 0) || decide (Int.ofNat n > Int.ofNat m)) = true) := by
            simp only [Bool.or_eq_true, decide_eq_true_eq, not_or]
            refine ⟨⟨⟨?_, ?_⟩, ?_⟩, ?_⟩
            · simp
            · simp at hbytes ⊢; omega
            · simp
            · simp; omega
          have hsz : J'.size = te.size := j4.symm
          simp only [Instr.makeSlice, Sem.run_bind, r_und i2, Result.andThen_ok, hl', hc', asInt, asIntOf, Sem.run_pure, r_info j1, hw1, hw2, Sem.run_ite]
          rw [if_neg (by simpa using hnot)]
          simp only [run_askRoom, Result.andThen_ok, r_size j1, hsz]
          by_cases h0 : (Int.ofNat m).toNat * te.size = 0
          · have e0 : ∀ f : Nat → Value, (Array.range (m * te.size)).map f = #[] := by
              intro f
              rw [show m * te.size = 0 from h0]; simp
            rw [if_pos h0, e0]
            simp only [Sem.run_pure, Result.andThen_ok, newRow, Sem.run_bind, run_newObj]
            have : (Array.range ((Int.ofNat m).toNat * te.size)).map (fun i => (#[] : Array Value)[i % (#[] : Array Value).size]!) = #[] := by rw [h0]; simp
            rw [this]
            rfl
          · rw [if_neg h0]
            simp only [Sem.run_bind, r_zero j1 z2, Result.andThen_ok, Sem.run_pure, newRow, run_newObj]
            rfl
        · cases k
      · cases k
    · cases k
  · cases k

/-- A load, off whatever heap that stands in the memory. -/
theorem load_ok (ok : EnvOk P E) {ty : TypeId} {a : Ad} {ti : TI} {g : Heap} {xs : List V} {A : Value} (hr : HRel φ g w) (hty : E.ty ty = some ti) (ha : VRel φ (.p (some a)) A)
    (e : g.loads a.f a.v a.o (loadN ti) = some xs) :
    ∃ y, (Instr.loadAt ty A).run P w = .ok y w ∧ VRel φ (loadV ti.agg xs) y := by
  obtain ⟨I, d, i1, i2, i3, i4, _, i5⟩ := ok.kind hty
  obtain ⟨pl, p1, p2, rfl⟩ := ha.ptr
  cases hagg : ti.agg with
  | true =>
    simp only [loadN, hagg] at e
    obtain ⟨ys, q1, q2⟩ := hr.loads (P := P) p1 p2 e
    refine ⟨.agg ys.toArray, ?_, by simp only [loadV, VRel]; exact ⟨_, rfl, by simpa using q1⟩⟩
    simp only [Instr.loadAt, Instr.sureAddr, Sem.run_bind, Sem.run_pure, Result.andThen_ok, loadVar, r_agg i2, ← i5, hagg, if_true, r_size i1, ← i4, q2]
  | false =>
    simp only [loadN, hagg] at e
    obtain ⟨l1, l2⟩ := Heap.loads_some e
    cases xs with
    | nil => simp at l1
    | cons x xs =>
      cases xs with
      | cons _ _ => simp at l1
      | nil =>
        have := l2 0 x (by simp)
        obtain ⟨y, y1, y2⟩ := hr.load (a := ⟨a.f, a.v, a.o + 0⟩) p1 (by show pl.d ≤ a.o + 0; omega) this
        simp only [Nat.add_zero] at y1
        refine ⟨y, ?_, y2⟩
        simp only [Instr.loadAt, Instr.sureAddr, Sem.run_bind, Sem.run_pure, Result.andThen_ok, loadVar, r_agg i2, ← i5, hagg, Bool.false_eq_true, if_false, run_load, y1]

theorem Heap.loads_one {g : Heap} {a : Ad} {x : V} (e : g.load a = some x) : g.loads a.f a.v a.o 1 = some [x] := by
  obtain ⟨fam, st, h1, h2, h3⟩ := Heap.load_some e
  unfold Heap.loads
  simp only [h1]
  simp only [loadsT, h2]
  have : Nat.ble st a.v = true := Nat.ble_eq_true_of_le h3
  simp [this]

theorem opLoad_loads {ty : TypeId} {x : Operand} (k : opLoad E ty x t h = some (v, h')) :
    ∃ a ti xs, t.ev x = some (.p (some a)) ∧ E.ty ty = some ti ∧ h.loads a.f a.v a.o (loadN ti) = some xs ∧
      v = (loadV ti.agg xs) ∧ h' = h := by
  unfold opLoad at k
  split at k
  · rename_i a ha
    split at k
    · rename_i ti hti
      split at k
      · rename_i hagg
        split at k
        · rename_i l hl
          injection k with k
          injection k with k1 k2
          exact ⟨a, ti, l, ha, hti, by simp only [loadN, hagg]; exact hl, by simp only [loadV, hagg]; exact k1.symm, k2.symm⟩
        · cases k
      · rename_i hagg
        split at k
        · rename_i x hx
          injection k with k
          injection k with k1 k2
          exact ⟨a, ti, [x], ha, hti, by simp only [loadN, hagg]; exact Heap.loads_one hx, by simp only [loadV, hagg]; exact k1.symm, k2.symm⟩
        · cases k
    · cases k
  · cases k

theorem opLoad_ok (ok : EnvOk P E) (hr : HRel φ h w) {ty : TypeId} {x : Operand} (r : RhoOk φ t ρ) (k : opLoad E ty x t h = some (v, h')) :
    MemOk P φ h w (do pure (.value (← Instr.loadAt ty (ρ x)))) v h' := by
  obtain ⟨a, ti, xs, q1, q2, q3, q4, rfl⟩ := opLoad_loads k
  obtain ⟨y, y1, y2⟩ := load_ok ok hr q2 (r _ _ q1) q3
  exact ⟨φ, w, hr, hr.ext_refl, Nat.le_refl _, .inl ⟨y, by rw [Sem.run_bind, y1]; rfl, by rw [q4]; exact y2⟩⟩

theorem opStore_ok (ok : EnvOk P E) (hr : HRel φ h w) {ty : TypeId} {a x : Operand} (r : RhoOk φ t ρ) (k : opStore E ty a x t h = some (v, h')) :
    MemOk P φ h w (do Instr.storeAt ty (ρ a) (ρ x); pure .skip) v h' := by
  unfold opStore at k
  split at k
  · rename_i a' x' ha hx
    split at k
    · rename_i ti hti
      obtain ⟨I, d, i1, i2, i3, i4, _, i5⟩ := ok.kind hti
      split at k
      · rename_i hsz
        have hsz' := Nat.eq_of_beq_eq_true hsz
        split at k
        · rename_i h2 hs
          injection k with k
          injection k with k1 k2
          subst k1; subst k2
          obtain ⟨pl, p1, p2, p3⟩ := (r _ _ ha).ptr
          have hc := (r _ _ hx).cells
          obtain ⟨w', e1, e2, e3, e4⟩ := hr.stores (P := P) p1 p2 hc hs
          refine ⟨φ, w', e2, e3, by omega, .inr ⟨?_, rfl⟩⟩
          have hcs : ((ρ x).cells.size ≠ I.size) ↔ False := by
            have := hc.length
            simp at this ⊢
            omega
          simp only [Instr.storeAt, p3, Instr.sureAddr, Sem.run_bind, Sem.run_pure, Result.andThen_ok, storeVar, r_size i1, hcs, if_false, e1, Sem.run_ite]
        · cases k
      · cases k
    · cases k
  · cases k

end
end Go.Am

/-
  '==' OF TWO PLACES; CONVERSIONS.
-/
namespace Go.Am

section
variable {P : Program} {E : Env} {φ : Mp} {t : T} {h h' : Heap} {ρ : Operand → Value} {v : V} {w : World}

theorem HRel.fam_at (r : HRel φ h w) {f v : Nat} {pl : Pl} {fam : Fam} (hp : φ f v = some pl) (hb : h.blks.get f = some (.fam fam)) : CellsRel φ w fam v pl := by
  obtain ⟨_, _, b, q1, q2⟩ := r.at_ _ _ _ hp
  rw [hb] at q1
  injection q1 with q1
  subst q1
  exact q2

theorem plain_block {fam : Fam} {pl : Pl} {vv o : Nat} (hc : CellsRel φ w fam vv pl) (hs : fam.str = false) :
    w.frozen? ⟨pl.rb, o, none⟩ = false ∧ (noView ⟨pl.rb, o, none⟩).run P w = .ok () w ∧ (stringish ⟨pl.rb, o, none⟩).run P w = .ok false w := by
  obtain ⟨c, el, fr, a1, a2, a3, a4, a5, a6⟩ := hc
  have hf : ∀ k, w.frozen? ⟨pl.rb, k, none⟩ = false := by
    intro k
    have := a4 hs k
    simp only [World.frozen?, a1]
    simp only [Bool.and_eq_false_iff, decide_eq_false_iff_not]
    omega
  have hsh : w.shape? pl.rb = some (el, c.size) := by simp [World.shape?, a1]
  refine ⟨hf o, ?_, ?_⟩
  · simp [noView, viewAt, hsh]
  · simp [stringish, hf, hsh]

theorem eqPtr_ok (hr : HRel φ h w) {a c : Ad} {A C : Addr} {r : Bool} {d e ty : TypeId} {i : TypeInfo} (hu : P.underlying ty = some (.pointer e)) (hi : P.info? e = some i) (hz : i.size ≠ 0)
    (ha : VRel φ (.p (some a)) (.pointer (some A))) (hc : VRel φ (.p (some c)) (.pointer (some C))) (k : eqPtr h a c = some r) :
    (Op.equalIn (d + 1) ty (.pointer (some A)) (.pointer (some C))).run P w = .ok r w := by
  obtain ⟨pl, p1, p2, p3⟩ := ha.ptr
  obtain ⟨ql, q1, q2, q3⟩ := hc.ptr
  injection p3 with p3
  injection p3 with p3
  injection q3 with q3
  injection q3 with q3
  subst p3; subst q3
  unfold Op.equalIn
  simp only [Sem.run_bind, r_und hu, Result.andThen_ok, r_size hi, Sem.run_ite, ne_eq, hz, not_false_eq_true, if_true]
  unfold eqPtr at k
  split at k
  · rename_i hf
    have hf' := Nat.eq_of_beq_eq_true hf
    split at k
    · rename_i hv
      have hv' := Nat.eq_of_beq_eq_true hv
      injection k with k
      rw [hf', hv', q1] at p1
      injection p1 with p1
      subst p1
      simp only [sameAddr, beq_self_eq_true, if_true, Sem.run_pure]
      congr 1
      subst k
      rw [Bool.eq_iff_iff]
      simp only [beq_iff_eq, Addr.mk.injEq, true_and, and_true]
      constructor
      · intro q
        have hao : a.o = c.o := by omega
        rw [hao]; exact Nat.beq_refl _
      · intro q; have := Nat.eq_of_beq_eq_true q; omega
    · cases k
  · rename_i hf
    have hne : a.f ≠ c.f := by intro q; rw [q] at hf; simp at hf
    split at k
    · rename_i x y hx hy
      split at k
      · rename_i hs
        injection k with k
        subst k
        simp only [Bool.or_eq_false_iff] at hs
        obtain ⟨x1, x2, x3⟩ := plain_block (P := P) (o := a.o - pl.d) (hr.fam_at p1 hx) hs.1
        obtain ⟨y1, y2, y3⟩ := plain_block (P := P) (o := c.o - ql.d) (hr.fam_at q1 hy) hs.2
        have hb : (pl.rb == ql.rb) = false := by
          rw [beq_eq_false_iff_ne]
          intro q
          exact hne (hr.inj _ _ _ _ _ _ p1 q1 q).1
        simp only [sameAddr, hb, Bool.false_eq_true, if_false, Sem.run_bind, run_frozen, x1, y1, Result.andThen_ok, Bool.false_and, x2, y2, mayBeOne, x3, y3, Sem.run_pure, Bool.and_false, Bool.or_false, Sem.run_ite]
        simp [run_shape]
      · cases k
    · cases k

theorem bothPtr_cases {a c : V} (h : bothPtr a c = true) : ∃ x y, a = .p (some x) ∧ c = .p (some y) := by
  unfold bothPtr at h
  split at h
  · exact ⟨_, _, rfl, rfl⟩
  · cases h

theorem binV_ptr {op : BinOp} {ty : TypeId} {cst : Bool} {a c : Ad} {u : V} (hu : binV E op ty cst (.p (some a)) (.p (some c)) h = some u) :
    (op = .eql ∧ ∃ rr, eqV E ty cst (.p (some a)) (.p (some c)) h = some rr ∧ u = .b rr) ∨ (op = .neq ∧ ∃ rr, eqV E ty cst (.p (some a)) (.p (some c)) h = some rr ∧ u = .b (!rr)) := by
  cases op <;> simp only [binV] at hu <;> try (cases hu; done)
  · left
    split at hu
    · rename_i rr hr; injection hu with hu; exact ⟨rfl, rr, hr, hu.symm⟩
    · cases hu
  · right
    split at hu
    · rename_i rr hr; injection hu with hu; exact ⟨rfl, rr, hr, hu.symm⟩
    · cases hu

theorem opBinOp_ok (ok : EnvOk P E) (hr : HRel φ h w) {op : BinOp} {ty : TypeId} {x y : Operand} (r : RhoOk φ t ρ) (k : opBinOp E op ty x y t h = some (v, h')) :
    MemOk P φ h w (do pure (.value (← (do eqGuard op ty x y (ρ x) (ρ y); binOp op ty (ρ x) (ρ y) : Sem Value)))) v h' := by
  unfold opBinOp at k
  split at k
  · rename_i a c ha hc
    split at k
    · rename_i u hu
      injection k with k
      injection k with k1 k2
      subst k1; subst k2
      by_cases hb : bothPtr a c = true
      · obtain ⟨a, c, rfl, rfl⟩ := bothPtr_cases hb
        have hA := r _ _ ha
        have hC := r _ _ hc
        obtain ⟨pl, p1, p2, p3⟩ := hA.ptr
        obtain ⟨ql, q1, q2, q3⟩ := hC.ptr
        rw [p3] at hA
        rw [q3] at hC
        have key : ∀ rr, eqV E ty (Am.isConst x || Am.isConst y) (.p (some a)) (.p (some c)) h = some rr →
            (Op.equal ty (.pointer (some ⟨pl.rb, a.o - pl.d, none⟩)) (.pointer (some ⟨ql.rb, c.o - ql.d, none⟩))).run P w = .ok rr w := by
          intro rr e
          unfold eqV at e
          split at e
          · cases e
          · rename_i ti hti
            obtain ⟨I, d, i1, i2, i3, _⟩ := ok.kind hti
            simp only at e
            split at e
            · rename_i el hk
              rw [hk] at i3
              have := tk_pointer i3; subst this
              split at e
              · rename_i te hte
                obtain ⟨J, d', j1, j2, j3, j4, _⟩ := ok.kind hte
                split at e
                · cases e
                · rename_i hz
                  have hz' : J.size ≠ 0 := by rw [← j4]; intro q; rw [q] at hz; cases hz
                  exact r_equal w fun d => eqPtr_ok hr (d := d + 1) i2 j1 hz' hA hC e
              · cases e
            · cases e
        have hg : (eqGuard op ty x y (.pointer (some ⟨pl.rb, a.o - pl.d, none⟩)) (.pointer (some ⟨ql.rb, c.o - ql.d, none⟩))).run P w = .ok () w :=
          guard_other w (by rintro ⟨q, _⟩; cases q) (by rintro xs ys ⟨q, _⟩; cases q)
        rw [p3, q3]
        rcases binV_ptr hu with ⟨rfl, rr, e1, rfl⟩ | ⟨rfl, rr, e1, rfl⟩
        · refine ⟨φ, w, hr, hr.ext_refl, Nat.le_refl _, .inl ⟨.bool rr, ?_, VRel.mk_bool rfl⟩⟩
          rw [Sem.run_bind, Sem.run_bind, hg]
          simp only [Result.andThen_ok]
          rw [(binOp_eql w (key rr e1) (by rintro _ _ _ _ ⟨q, _⟩; cases q) (by rintro _ _ ⟨q, _⟩; cases q) (by rintro _ _ _ _ ⟨q, _⟩; cases q) (by rintro _ _ _ _ _ _ ⟨q, _⟩; cases q)).1]
          rfl
        · refine ⟨φ, w, hr, hr.ext_refl, Nat.le_refl _, .inl ⟨.bool (!rr), ?_, VRel.mk_bool rfl⟩⟩
          rw [Sem.run_bind, Sem.run_bind, hg]
          simp only [Result.andThen_ok]
          rw [(binOp_eql w (key rr e1) (by rintro _ _ _ _ ⟨q, _⟩; cases q) (by rintro _ _ ⟨q, _⟩; cases q) (by rintro _ _ _ _ ⟨q, _⟩; cases q) (by rintro _ _ _ _ _ _ ⟨q, _⟩; cases q)).2]
          rfl
      · have hb' : bothPtr a c = false := by simpa using hb
        obtain ⟨y', y1, y2⟩ := binV_ok ok hb' hu (r _ _ ha) (r _ _ hc)
        exact ⟨φ, w, hr, hr.ext_refl, Nat.le_refl _, .inl ⟨y', by rw [Sem.run_bind, y1 w]; rfl, y2⟩⟩
    · cases k
  · cases k

end
end Go.Am

