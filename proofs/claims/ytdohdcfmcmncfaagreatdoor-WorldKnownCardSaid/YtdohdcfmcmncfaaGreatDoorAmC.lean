/-
  OPERATIONS THAT TOUCH NO MEMORY.
-/
import Derived.Test.YtdohdcfmcmncfaaGreatDoorAmB
import Derived.Laws.Strings
import Derived.Laws.StructEq
namespace Go.Am

theorem undOf_info (P : Program) (t : TypeId) : undOf P.info? t = P.underlying t := by
  unfold undOf Program.underlying
  cases h : P.info? t with
  | none => rfl
  | some i =>
    cases i with
    | mk desc _ _ _ _ _ _ _ _ _ =>
      cases desc <;> try rfl
      rename_i nm u
      cases h2 : P.info? u <;> simp [h2]

structure EnvOk (P : Program) (E : Env) : Prop where
  ty : ∀ t ti, E.ty t = some ti → ∃ i d, P.info? t = some i ∧ P.underlying t = some d ∧ ti = tiOf P P.info? i d t
  fn : ∀ f fi, E.fn f = some fi → ∃ g, P.funcs[f]? = some g ∧ fiOf g = some fi
  mth : ∀ t n f, E.mth t n = some f → mthOf P.info? t n = some f

section runs
variable {P : Program} {w : World} {t : TypeId} {i : TypeInfo} {d : TypeDesc}
theorem r_info (h : P.info? t = some i) : (typeInfo t).run P w = .ok i w := by simp [typeInfo, h]
theorem r_und (h : P.underlying t = some d) : (underlying t).run P w = .ok d w := by simp [underlying, h]
theorem r_size (h : P.info? t = some i) : (sizeOf t).run P w = .ok i.size w := by simp [sizeOf, r_info h]
theorem r_zero {z : Value} (h : P.info? t = some i) (hz : i.zero = some z) : (zeroValue t).run P w = .ok z w := by simp [zeroValue, r_info h, hz]
theorem r_agg (h : P.underlying t = some d) : (isAgg t).run P w = .ok (isAggD d) w := by
  simp only [isAgg, Sem.run_bind, r_und h, Result.andThen_ok]
  cases d <;> rfl
end runs

theorem ofAtom_rel {φ : Mp} {x : Value} {v : V} (h : ofAtom x = some v) : VRel φ v x ∧ v.one = true := by
  unfold ofAtom at h
  split at h <;> first | (injection h with h; subst h; simp [VRel, V.one]) | cases h

theorem ofAtoms_rel {φ : Mp} : ∀ {l : List Value} {vs : List V}, ofAtoms l = some vs → VRels φ vs l ∧ allOne vs = true
  | [], vs, h => by simp only [ofAtoms, Option.some.injEq] at h; subst h; exact ⟨VRels.nil φ, rfl⟩
  | x :: l, vs, h => by
    simp only [ofAtoms] at h
    split at h
    · cases h
    · rename_i y hy
      split at h
      · cases h
      · rename_i ys hys
        injection h with h
        subst h
        obtain ⟨a, b⟩ := ofAtom_rel (φ := φ) hy
        obtain ⟨c, d⟩ := ofAtoms_rel (φ := φ) hys
        exact ⟨VRels.cons a c, by simp only [allOne, b, d]⟩

theorem ofVal_rel {φ : Mp} {x : Value} {v : V} (h : ofVal x = some v) : VRel φ v x ∧ VRels φ v.cells x.cells.toList := by
  unfold ofVal at h
  split at h
  · rename_i cs
    split at h
    · cases h
    · rename_i l hl
      injection h with h
      subst h
      have := (ofAtoms_rel (φ := φ) hl).1
      exact ⟨by simp only [VRel]; exact ⟨cs, rfl, this⟩, by simpa [V.cells, Value.cells] using this⟩
  · obtain ⟨a, _⟩ := ofAtom_rel (φ := φ) h
    exact ⟨a, a.cells⟩

theorem EnvOk.zero2 {P : Program} {E : Env} (ok : EnvOk P E) {t : TypeId} {ti : TI} {l : List V} (h : E.ty t = some ti) (hz : ti.zero = some l) :
    ∃ i z v, P.info? t = some i ∧ i.zero = some z ∧ ofVal z = some v ∧ v.cells = l ∧ v.one = !ti.agg := by
  obtain ⟨i, d, h1, h2, rfl⟩ := ok.ty _ _ h
  simp only [tiOf] at hz ⊢
  split at hz
  · cases hz
  · rename_i z hz'
    split at hz
    · cases hz
    · rename_i v hv
      split at hz
      · cases hz
      · rename_i hb
        injection hz with hz
        exact ⟨i, z, v, h1, hz', hv, hz, by revert hb; cases isAggD d <;> cases v.one <;> simp [boolEq]⟩

theorem EnvOk.zero {P : Program} {E : Env} (ok : EnvOk P E) {t : TypeId} {ti : TI} {l : List V} (h : E.ty t = some ti) (hz : ti.zero = some l) :
    ∃ i z, P.info? t = some i ∧ i.zero = some z ∧ ∀ φ, VRels φ l z.cells.toList := by
  obtain ⟨i, z, v, h1, h2, h3, rfl, _⟩ := ok.zero2 h hz
  exact ⟨i, z, h1, h2, fun φ => (ofVal_rel h3).2⟩

/-! ### Operands -/
def RhoOk (φ : Mp) (t : T) (ρ : Operand → Value) : Prop := ∀ x v, t.ev x = some v → VRel φ v (ρ x)

theorem RhoOk.mono {φ ψ : Mp} (h : φ.le ψ) {t : T} {ρ : Operand → Value} (r : RhoOk φ t ρ) : RhoOk ψ t ρ := fun x v e => (r x v e).mono h

theorem rhoOk_eval {φ : Mp} {t : T} {a : Act} (h : TmRel φ t.m t.n a.tmps) : RhoOk φ t a.eval := by
  intro x v e
  cases x with
  | tmp k => exact h.2 k v e
  | const c => exact (ofVal_rel e).1
  | global g => cases e
  | func f =>
    injection e with e
    subst e
    simp only [VRel]
    exact ⟨.func f, #[], #[], rfl, rfl, VRels.nil φ, VRels.nil φ⟩

theorem RhoOk.evs {φ : Mp} {t : T} {ρ : Operand → Value} (r : RhoOk φ t ρ) : ∀ {xs : List Operand} {vs : List V}, t.evs xs = some vs → VRels φ vs (xs.map ρ)
  | [], vs, h => by simp only [T.evs, Option.some.injEq] at h; subst h; exact VRels.nil φ
  | x :: xs, vs, h => by
    simp only [T.evs] at h
    split at h
    · cases h
    · rename_i y hy
      split at h
      · cases h
      · rename_i ys hys
        injection h with h
        subst h
        exact VRels.cons (r _ _ hy) (r.evs hys)

/-- A step that gives a value in any memory, and leaves it. -/
def PureOk (P : Program) (φ : Mp) (s : Sem Next) (v : V) : Prop := ∃ y, (∀ w, s.run P w = .ok (.value y) w) ∧ VRel φ v y

theorem VRel.bool {φ : Mp} {x : Bool} {y : Value} (h : VRel φ (.b x) y) : y = .bool x := by simpa only [VRel] using h
theorem VRel.int {φ : Mp} {k : IntKind} {n : Int} {y : Value} (h : VRel φ (.i k n) y) : y = .int k n := by simpa only [VRel] using h
theorem VRel.ptr {φ : Mp} {a : Ad} {y : Value} (h : VRel φ (.p (some a)) y) : ∃ pl, φ a.f a.v = some pl ∧ pl.d ≤ a.o ∧ y = .pointer (some ⟨pl.rb, a.o - pl.d, none⟩) := by simpa only [VRel] using h
theorem VRel.str {φ : Mp} {l : List UInt8} {y : Value} (h : VRel φ (.s l) y) : ∃ s, y = .string s ∧ s.data.toList = l := by simpa only [VRel] using h
theorem VRel.mk_str {φ : Mp} {s : ByteArray} {l : List UInt8} (h : s.data.toList = l) : VRel φ (.s l) (.string s) := by simp only [VRel]; exact ⟨s, rfl, h⟩
theorem VRel.mk_int {φ : Mp} {k : IntKind} {m n : Int} (h : m = n) : VRel φ (.i k m) (.int k n) := by simp only [VRel]; rw [h]
theorem VRel.mk_bool {φ : Mp} {m n : Bool} (h : m = n) : VRel φ (.b m) (.bool n) := by simp only [VRel]; rw [h]
theorem VRel.mk_ptr {φ : Mp} {a : Ad} {pl : Pl} {c : Addr} (h : φ a.f a.v = some pl) (hd : pl.d ≤ a.o) (hc : c = ⟨pl.rb, a.o - pl.d, none⟩) : VRel φ (.p (some a)) (.pointer (some c)) := by
  simp only [VRel]; exact ⟨pl, h, hd, by rw [hc]⟩

section ops
variable {P : Program} {E : Env} {φ : Mp} {t : T} {h h' : Heap} {ρ : Operand → Value} {v : V}

theorem opMove_ok {x : Operand} (r : RhoOk φ t ρ) (e : opMove x t h = some (v, h')) : h' = h ∧ VRel φ v (ρ x) := by
  unfold opMove at e
  split at e
  · rename_i u hu
    injection e with e
    injection e with e1 e2
    subst e1
    exact ⟨e2.symm, r _ _ hu⟩
  · cases e

theorem opPick_ok {c a b : Operand} (r : RhoOk φ t ρ) (e : opPick c a b t h = some (v, h')) :
    h' = h ∧ PureOk P φ (do pure (.value (if ← asBool (ρ c) then ρ a else ρ b))) v := by
  unfold opPick at e
  split at e
  · rename_i hc
    split at e
    · rename_i u hu
      injection e with e
      injection e with e1 e2
      subst e1
      have := (r _ _ hc).bool
      exact ⟨e2.symm, ρ a, fun w => by simp [this, asBool], r _ _ hu⟩
    · cases e
  · rename_i hc
    split at e
    · rename_i u hu
      injection e with e
      injection e with e1 e2
      subst e1
      have := (r _ _ hc).bool
      exact ⟨e2.symm, ρ b, fun w => by simp [this, asBool], r _ _ hu⟩
    · cases e
  · cases e

theorem opNilCheck_ok {x : Operand} (r : RhoOk φ t ρ) (e : opNilCheck x t h = some (v, h')) :
    h' = h ∧ VRel φ v (ρ x) ∧ ((∃ a, ρ x = .pointer (some a)) ∨ (∃ u y, ρ x = .iface u y) ∨ (∃ f y z, ρ x = .func (.func f) y z) ∨ (∃ f y z, ρ x = .func (.yield f) y z)) := by
  unfold opNilCheck at e
  split at e
  · rename_i a hu
    injection e with e
    injection e with e1 e2
    subst e1
    have k := r _ _ hu
    obtain ⟨pl, _, _, q⟩ := k.ptr
    exact ⟨e2.symm, k, .inl ⟨_, q⟩⟩
  · rename_i u y hu
    injection e with e
    injection e with e1 e2
    subst e1
    have k := r _ _ hu
    have k' := k
    simp only [VRel] at k'
    obtain ⟨z, q, _⟩ := k'
    exact ⟨e2.symm, k, .inr (.inl ⟨_, _, q⟩)⟩
  · rename_i f y z hu
    injection e with e
    injection e with e1 e2
    subst e1
    have k := r _ _ hu
    have k' := k
    simp only [VRel, FnRel] at k'
    obtain ⟨g, y', z', q, rfl, _⟩ := k'
    exact ⟨e2.symm, k, .inr (.inr (.inl ⟨_, _, _, q⟩))⟩
  · rename_i f y z hu
    injection e with e
    injection e with e1 e2
    subst e1
    have k := r _ _ hu
    have k' := k
    simp only [VRel, FnRel] at k'
    obtain ⟨g, y', z', q, ⟨pl, _, rfl⟩, _⟩ := k'
    exact ⟨e2.symm, k, .inr (.inr (.inr ⟨_, _, _, q⟩))⟩
  · cases e

end ops

/-! ### Numbers -/
theorem intEq_eq (a b : Int) : intEq a b = (a == b) := by
  cases a <;> cases b <;> simp only [intEq]
  · rename_i a b; rw [Bool.eq_iff_iff]; simp; omega
  · rfl
  · rfl
  · rename_i a b; rw [Bool.eq_iff_iff]; simp

theorem intLe_eq (a b : Int) : intLe a b = decide (a ≤ b) := by
  cases a <;> cases b <;> simp only [intLe]
  · rename_i a b; rw [Bool.eq_iff_iff]; simp
  · symm; simp; omega
  · symm; simp; omega
  · rename_i a b; rw [Bool.eq_iff_iff]; simp; omega

theorem inside_le {lo hi : Nat} {n : Int} (h : inside lo hi n = true) : -(lo : Int) ≤ n ∧ n ≤ hi := by
  cases n <;> simp only [inside] at h
  · have := Nat.le_of_ble_eq_true h; simp; omega
  · rename_i a
    have : a < lo := by simpa [Nat.blt_eq] using h
    rw [Int.negSucc_eq]; omega

theorem wrapF_eq (k : IntKind) (n : Int) : wrapF k n = k.wrap n := by
  unfold wrapF
  split
  · rename_i h
    cases k <;> simp only at h <;> first | cases h | skip
    all_goals
      have := inside_le h
      simp only [IntKind.wrap, IntKind.signed, IntKind.bits]
      simp
      omega
  · rfl

theorem kindEq_eq {a b : IntKind} (h : kindEq a b = true) : a = b := by cases a <;> cases b <;> simp_all [kindEq]

theorem bytesEq_eq : ∀ (x y : List UInt8), bytesEq x y = (x == y)
  | [], [] => rfl
  | [], _ :: _ => rfl
  | _ :: _, [] => rfl
  | a :: x, b :: y => by
    simp only [bytesEq, bytesEq_eq x y]
    rw [Bool.eq_iff_iff]
    simp [UInt8.toNat_inj]

theorem bytesLess_eq : ∀ (x y : List UInt8), bytesLess' x y = Op.bytesLess x y
  | [], [] => rfl
  | _ :: _, [] => rfl
  | [], _ :: _ => rfl
  | a :: x, b :: y => by
    simp only [bytesLess', Op.bytesLess, bytesLess_eq x y]
    congr 1
    · rw [Bool.eq_iff_iff]; simp [UInt8.lt_iff_toNat_lt]
    · congr 1
      rw [Bool.eq_iff_iff]; simp [UInt8.toNat_inj]

theorem toList_data (s : ByteArray) : s.toList = s.data.toList := ByteArray.toList_eq s

end Go.Am

/-
  OPERATORS.
-/
namespace Go.Am

section
variable {P : Program} {φ : Mp}

theorem binInt_ok {op : BinOp} {k : IntKind} {x y : Int} {v : V} (ty : TypeId) (e : binInt op k x y = some v) :
    ∃ u, (∀ w, (binOp op ty (.int k x) (.int k y)).run P w = .ok u w) ∧ VRel φ v u := by
  cases op <;> simp only [binInt] at e
  case add => injection e with e; subst e; exact ⟨_, fun w => by simp [binOp, Op.intArith], VRel.mk_int (wrapF_eq _ _)⟩
  case sub => injection e with e; subst e; exact ⟨_, fun w => by simp [binOp, Op.intArith], VRel.mk_int (wrapF_eq _ _)⟩
  case mul => injection e with e; subst e; exact ⟨_, fun w => by simp [binOp, Op.intArith], VRel.mk_int (wrapF_eq _ _)⟩
  case quo =>
    split at e
    · cases e
    · rename_i hy
      rw [intEq_eq] at hy
      have hy' : y ≠ 0 := by simpa using hy
      injection e with e; subst e
      exact ⟨_, fun w => by simp [binOp, Op.intDiv, hy'], VRel.mk_int (wrapF_eq _ _)⟩
  case rem =>
    split at e
    · cases e
    · rename_i hy
      rw [intEq_eq] at hy
      have hy' : y ≠ 0 := by simpa using hy
      injection e with e; subst e
      exact ⟨_, fun w => by simp [binOp, Op.intDiv, hy'], VRel.mk_int rfl⟩
  case and => injection e with e; subst e; exact ⟨_, fun w => by simp only [binOp, Op.intBits, ne_eq, not_true_eq_false, if_false]; rfl, VRel.mk_int rfl⟩
  case or => injection e with e; subst e; exact ⟨_, fun w => by simp only [binOp, Op.intBits, ne_eq, not_true_eq_false, if_false]; rfl, VRel.mk_int rfl⟩
  case xor => injection e with e; subst e; exact ⟨_, fun w => by simp only [binOp, Op.intBits, ne_eq, not_true_eq_false, if_false]; rfl, VRel.mk_int rfl⟩
  case andNot => injection e with e; subst e; exact ⟨_, fun w => by simp only [binOp, Op.intBits, ne_eq, not_true_eq_false, if_false]; rfl, VRel.mk_int rfl⟩
  case shl => cases e
  case shr => cases e
  case eql => injection e with e; subst e; exact ⟨.bool (x == y), fun w => by simp [binOp, Op.intCmp], VRel.mk_bool (intEq_eq _ _)⟩
  case neq => injection e with e; subst e; exact ⟨.bool (x != y), fun w => by simp [binOp, Op.intCmp], VRel.mk_bool (by rw [intEq_eq]; rfl)⟩
  case lss => injection e with e; subst e; exact ⟨.bool (x < y), fun w => by simp [binOp, Op.intCmp], VRel.mk_bool (by rw [intLe_eq, Bool.eq_iff_iff]; simp)⟩
  case leq => injection e with e; subst e; exact ⟨.bool (x ≤ y), fun w => by simp [binOp, Op.intCmp], VRel.mk_bool (intLe_eq _ _)⟩
  case gtr => injection e with e; subst e; exact ⟨.bool (x > y), fun w => by simp [binOp, Op.intCmp], VRel.mk_bool (by rw [intLe_eq, Bool.eq_iff_iff]; simp)⟩
  case geq => injection e with e; subst e; exact ⟨.bool (x ≥ y), fun w => by simp [binOp, Op.intCmp], VRel.mk_bool (by rw [intLe_eq])⟩

theorem shiftInt_ok {op : BinOp} {k j : IntKind} {x y : Int} {v : V} (ty : TypeId) (hop : op = .shl ∨ op = .shr) (e : shiftInt op k x y = some v) :
    ∃ u, (∀ w, (binOp op ty (.int k x) (.int j y)).run P w = .ok u w) ∧ VRel φ v u := by
  unfold shiftInt at e
  cases y with
  | negSucc n => cases e
  | ofNat n =>
    have hp : ((2 : Int) ^ (min n k.bits)) = Int.ofNat (2 ^ (Nat.min n k.bits)) := by
      show (2 : Int) ^ (min n k.bits) = ((2 ^ (min n k.bits) : Nat) : Int)
      simp
    rcases hop with rfl | rfl
    · simp only at e
      injection e with e; subst e
      refine ⟨_, fun w => by simp [binOp, Op.shift]; rfl, ?_⟩
      refine VRel.mk_int ?_
      rw [wrapF_eq, ← hp]
    · simp only at e
      injection e with e; subst e
      refine ⟨_, fun w => by simp [binOp, Op.shift]; rfl, ?_⟩
      refine VRel.mk_int ?_
      rw [← hp]

theorem binStr_ok {op : BinOp} {x y : ByteArray} {v : V} (ty : TypeId) (e : binStr op x.data.toList y.data.toList = some v) :
    ∃ u, (∀ w, (binOp op ty (.string x) (.string y)).run P w = .ok u w) ∧ VRel φ v u := by
  have hl : ∀ s : ByteArray, s.data.toList.length = s.size := fun s => by simp
  cases op <;> simp only [binStr] at e <;> first
    | (cases e; done)
    | (injection e with e; subst e
       refine ⟨_, fun w => by simp [binOp, Op.stringOp]; rfl, ?_⟩
       exact VRel.mk_bool (by simp [bytesEq_eq, bytesLess_eq, toList_data]))
    | (split at e
       · rename_i hsz
         injection e with e; subst e
         have h1 := Nat.le_of_ble_eq_true hsz
         rw [hl, hl] at h1
         refine ⟨_, fun w => by
           simp only [binOp, Op.stringOp]
           rw [if_neg (by simp only [IntKind.max, IntKind.signed, IntKind.bits]; simp; omega)]
           rfl, ?_⟩
         exact VRel.mk_str (by simp)
       · cases e)

end
end Go.Am

/-
  '==', AND THE OPERATION OF AN OPERATOR.
-/
namespace Go.Am

section
variable {P : Program} {φ : Mp}

theorem boolEq_eq (a b : Bool) : boolEq a b = (a == b) := by cases a <;> cases b <;> rfl

theorem eqCell_ok {d : Nat} {t : TypeId} {D : TypeDesc} {inf : Nat → Option TypeInfo} {x y : V} {X Y : Value} {r : Bool}
    (hu : P.underlying t = some D) (e : eqCell (tkOf inf D) x y = some r) (hx : VRel φ x X) (hy : VRel φ y Y) (w : World) :
    (Op.equalIn (d + 1) t X Y).run P w = .ok r w := by
  unfold Op.equalIn
  simp only [Sem.run_bind, r_und hu, Result.andThen_ok]
  cases D <;> simp only [tkOf] at e
  case bool =>
    cases x <;> cases y <;> simp only [eqCell] at e <;> try (cases e; done)
    simp only [VRel] at hx hy
    subst hx; subst hy
    injection e with e
    subst e
    simp [boolEq_eq]
  case int k =>
    cases x <;> cases y <;> simp only [eqCell] at e <;> try (cases e; done)
    simp only [VRel] at hx hy
    subst hx; subst hy
    split at e
    · rename_i hk
      have := kindEq_eq hk
      subst this
      injection e with e
      subst e
      simp [intEq_eq]
    · cases e
  case string =>
    cases x <;> cases y <;> simp only [eqCell] at e <;> try (cases e; done)
    simp only [VRel] at hx hy
    obtain ⟨s, rfl, hs⟩ := hx
    obtain ⟨u, rfl, hv⟩ := hy
    injection e with e
    subst e
    simp only [Sem.run_pure]
    rw [beq_toListBytes, toList_data, toList_data, hs, hv, bytesEq_eq]
  case pointer e' =>
    cases x <;> try (simp only [eqCell] at e; cases e; done)
    cases y <;> try (simp only [eqCell] at e; cases e; done)
    rename_i a c
    cases a <;> cases c <;> simp only [eqCell] at e <;> (try (cases e; done)) <;> simp only [VRel] at hx hy <;> injection e with e <;> subst e
    · subst hx; subst hy; rfl
    · obtain ⟨pl, _, _, rfl⟩ := hy; subst hx; rfl
    · obtain ⟨pl, _, _, rfl⟩ := hx; subst hy; rfl
  case slice e' =>
    cases x <;> try (simp only [eqCell] at e; cases e; done)
    cases y <;> try (simp only [eqCell] at e; cases e; done)
    rename_i a _ _ _ _ c _ _ _ _
    cases a <;> cases c <;> simp only [eqCell] at e <;> (try (cases e; done)) <;> simp only [VRel] at hx hy <;> injection e with e <;> subst e
    · obtain ⟨_, _, rfl⟩ := hx; obtain ⟨_, _, rfl⟩ := hy; rfl
    · obtain ⟨_, _, rfl⟩ := hx; obtain ⟨_, _, _, _, rfl, _⟩ := hy; rfl
    · obtain ⟨_, _, rfl⟩ := hy; obtain ⟨_, _, _, _, rfl, _⟩ := hx; rfl
  case map k' e' =>
    cases x <;> try (simp only [eqCell] at e; cases e; done)
    cases y <;> try (simp only [eqCell] at e; cases e; done)
    rename_i a c
    cases a <;> cases c <;> simp only [eqCell] at e <;> (try (cases e; done)) <;> simp only [VRel] at hx hy <;> injection e with e <;> subst e
    · subst hx; subst hy; rfl
    · obtain ⟨pl, _, rfl⟩ := hy; subst hx; rfl
    · obtain ⟨pl, _, rfl⟩ := hx; subst hy; rfl
  case func =>
    cases x <;> cases y <;> simp only [eqCell] at e <;> (try (cases e; done)) <;> simp only [VRel] at hx hy <;> injection e with e <;> subst e
    · obtain ⟨_, _, _, rfl, _⟩ := hx; subst hy; rfl
    · obtain ⟨_, _, _, rfl, _⟩ := hy; subst hx; rfl
    · subst hx; subst hy; rfl
  case interface =>
    cases x <;> cases y <;> simp only [eqCell] at e <;> (try (cases e; done)) <;> simp only [VRel] at hx hy <;> injection e with e <;> subst e
    · obtain ⟨_, rfl, _⟩ := hx; subst hy; rfl
    · obtain ⟨_, rfl, _⟩ := hy; subst hx; rfl
  case struct => split at e <;> (cases x <;> cases y <;> simp only [eqCell] at e <;> cases e)
  all_goals (cases x <;> cases y <;> simp only [eqCell] at e <;> cases e)

theorem flatD_ok {inf : Nat → Option TypeInfo} {d : TypeDesc} {k : TK} (h : flatD d = some k) : tkOf inf d = k := by
  cases d <;> simp only [flatD] at h <;> (try (cases h; done)) <;> injection h with h <;> subst h <;> rfl

theorem flatD_noAgg {d : TypeDesc} {k : TK} (h : flatD d = some k) : isAggD d = false := by
  cases d <;> simp only [flatD] at h <;> (try (cases h; done)) <;> rfl

theorem r_part {w : World} {t : TypeId} {d : TypeDesc} {cs : Array Value} {off : Nat} {v : Value} (h : P.underlying t = some d) (hd : isAggD d = false) (hv : cs[off]? = some v) :
    (part t cs off).run P w = .ok v w := by
  simp [part, r_agg h, hd, hv]

/-- A struct's '==', field by field. -/
theorem eqFields_ok {d : Nat} (w : World) {xs ys : Array Value} : ∀ (fs : List Field) (o : Nat) (ks : List TK) (x y : List V) (r : Bool),
    flatFields P.info? fs o = some ks → eqAgg ks x y = some r →
    (∀ (k : Nat) (v : V), x[k]? = some v → ∃ u, xs[o + k]? = some u ∧ VRel φ v u) → (∀ (k : Nat) (v : V), y[k]? = some v → ∃ u, ys[o + k]? = some u ∧ VRel φ v u) →
    (Op.eqFields (d + 1) xs ys fs).run P w = .ok r w := by
  intro fs
  induction fs with
  | nil =>
    intro o ks x y r hf he hx hy
    simp only [flatFields, Option.some.injEq] at hf
    subst hf
    cases x <;> cases y <;> simp only [eqAgg] at he <;> try (cases he; done)
    injection he with he
    subst he
    rfl
  | cons f fs ih =>
    intro o ks x y r hf he hx hy
    simp only [flatFields, undOf_info] at hf
    split at hf
    · cases hf
    · rename_i D hD
      split at hf
      · cases hf
      · rename_i k hk
        split at hf
        · cases hf
        · rename_i hb
          split at hf
          · cases hf
          · rename_i ks' hks
            injection hf with hf
            subst hf
            simp only [Bool.and_eq_true, Bool.not_eq_true', beq_eq_false_iff_ne] at hb
            have ho : f.offset = o := Nat.eq_of_beq_eq_true hb.1
            cases x with
            | nil => cases y <;> simp only [eqAgg] at he <;> cases he
            | cons a x =>
              cases y with
              | nil => simp only [eqAgg] at he; cases he
              | cons c y =>
                simp only [eqAgg] at he
                obtain ⟨A, hA, ra⟩ := hx 0 a (by simp)
                obtain ⟨C, hC, rc⟩ := hy 0 c (by simp)
                simp only [Nat.add_zero] at hA hC
                have hD' := flatD_ok (inf := P.info?) hk
                simp only [Op.eqFields, ne_eq, hb.2, not_false_eq_true, if_true, Sem.run_bind, ho, r_part hD (flatD_noAgg hk) hA, r_part hD (flatD_noAgg hk) hC, Result.andThen_ok]
                split at he
                · rename_i h1
                  rw [← hD'] at h1
                  rw [eqCell_ok hD h1 ra rc w]
                  simp only [Result.andThen_ok, Bool.not_true, Bool.false_eq_true, if_false]
                  exact ih (o + 1) ks' x y r hks he (fun k v hv => by rw [show o + 1 + k = o + (k + 1) from by omega]; exact hx (k + 1) v (by simpa using hv))
                    (fun k v hv => by rw [show o + 1 + k = o + (k + 1) from by omega]; exact hy (k + 1) v (by simpa using hv))
                · rename_i h1
                  rw [← hD'] at h1
                  rw [eqCell_ok hD h1 ra rc w]
                  injection he with he
                  subst he
                  simp
                · cases he

theorem r_equal {t : TypeId} {X Y : Value} {r : Bool} (w : World) (h : ∀ d, (Op.equalIn (d + 2) t X Y).run P w = .ok r w) : (Op.equal t X Y).run P w = .ok r w := h 9998

end

section
variable {P : Program} {E : Env} {φ : Mp} {t : T} {h h' : Heap} {ρ : Operand → Value} {v : V}

/-- Does the '==' look at two places? -/
def bothPtr : V → V → Bool
  | .p (some _), .p (some _) => true
  | _, _ => false

theorem eqV_ok (ok : EnvOk P E) {ty : TypeId} {x y : V} {X Y : Value} {r cst : Bool} (hb : bothPtr x y = false) (e : eqV E ty cst x y h = some r) (hx : VRel φ x X) (hy : VRel φ y Y) (w : World) :
    (Op.equal ty X Y).run P w = .ok r w ∧ (X = .nilIface → Y = .nilIface → cst = true) ∧ (∀ xs ys, X = .agg xs → Y = .agg ys → P.eqGuardType P.depth ty = false) := by
  unfold eqV at e
  split at e
  · cases e
  · rename_i ti hti
    obtain ⟨i, d, h1, h2, rfl⟩ := ok.ty _ _ hti
    split at e
    · simp [bothPtr] at hb
    · split at e
      · rename_i hk
        injection e with e
        subst e
        simp only [VRel] at hx hy
        subst hx; subst hy
        refine ⟨?_, fun _ _ => rfl, fun xs ys hX => by cases hX⟩
        have hd : ∃ ms, d = .interface ms := by
          cases d <;> simp only [tiOf, tkOf] at hk <;> first | (cases hk; done) | (split at hk <;> cases hk; done) | exact ⟨_, rfl⟩
        obtain ⟨ms, rfl⟩ := hd
        refine r_equal w fun d => ?_
        unfold Op.equalIn
        simp only [Sem.run_bind, r_und h2, Result.andThen_ok]
        rfl
      · cases e
    · split at e
      · rename_i ks hks
        simp only [VRel] at hx hy
        obtain ⟨xs, rfl, rx⟩ := hx
        obtain ⟨ys, rfl, ry⟩ := hy
        simp only [tiOf] at hks
        split at hks
        · rename_i fs
          split at hks
          · cases hks
          · rename_i hg
            simp only [Bool.or_eq_false_iff] at hg
            refine ⟨?_, fun hX => (by cases hX), fun _ _ _ _ => hg.2⟩
            refine r_equal w fun d => ?_
            have hfs : P.fieldsOf ty = fs := by simp [Program.fieldsOf, h2]
            rw [run_equalIn_struct w (d + 1) ty xs ys (by rw [hfs]; exact h2) hg.1, hfs]
            exact eqFields_ok (φ := φ) w fs.toList 0 ks _ _ r hks e (fun k v hv => by
              obtain ⟨u, q1, q2⟩ := rx.get k v hv
              exact ⟨u, by rw [Nat.zero_add]; simpa using q1, q2⟩) (fun k v hv => by
              obtain ⟨u, q1, q2⟩ := ry.get k v hv
              exact ⟨u, by rw [Nat.zero_add]; simpa using q1, q2⟩)
        · cases hks
      · cases e
    · rename_i n1 n2 n3
      refine ⟨r_equal w fun d => eqCell_ok h2 e hx hy w, ?_, ?_⟩
      · intro hX hY
        exfalso
        have e1 : x = .nifc := by
          subst hX
          cases x with
          | p a => cases a <;> simp [VRel] at hx
          | sl a => cases a <;> simp [VRel, SlRel] at hx
          | m a => cases a <;> simp [VRel] at hx
          | nifc => rfl
          | _ => simp [VRel] at hx
        have e2 : y = .nifc := by
          subst hY
          cases y with
          | p a => cases a <;> simp [VRel] at hy
          | sl a => cases a <;> simp [VRel, SlRel] at hy
          | m a => cases a <;> simp [VRel] at hy
          | nifc => rfl
          | _ => simp [VRel] at hy
        exact n2 e1 e2
      · intro xs ys hX hY
        exfalso
        have e1 : ∃ l, x = .agg l := by
          subst hX
          cases x with
          | p a => cases a <;> simp [VRel] at hx
          | sl a => cases a <;> simp [VRel, SlRel] at hx
          | m a => cases a <;> simp [VRel] at hx
          | agg l => exact ⟨l, rfl⟩
          | _ => simp [VRel] at hx
        have e2 : ∃ l, y = .agg l := by
          subst hY
          cases y with
          | p a => cases a <;> simp [VRel] at hy
          | sl a => cases a <;> simp [VRel, SlRel] at hy
          | m a => cases a <;> simp [VRel] at hy
          | agg l => exact ⟨l, rfl⟩
          | _ => simp [VRel] at hy
        obtain ⟨l, e1⟩ := e1
        obtain ⟨l', e2⟩ := e2
        exact n3 l l' e1 e2

theorem isConst_ok {x : Operand} (h : Am.isConst x = true) : ∃ c, x = .const c := by
  cases x <;> first | exact ⟨_, rfl⟩ | cases h

theorem guard_ne {op : BinOp} {ty : TypeId} {x y : Operand} {X Y : Value} (w : World) (h : op ≠ .eql) (h' : op ≠ .neq) : (eqGuard op ty x y X Y).run P w = .ok () w := by
  cases op <;> first | rfl | exact absurd rfl h | exact absurd rfl h'

theorem guard_other {op : BinOp} {ty : TypeId} {x y : Operand} {X Y : Value} (w : World) (h1 : ¬ (X = .nilIface ∧ Y = .nilIface)) (h2 : ∀ xs ys, ¬ (X = .agg xs ∧ Y = .agg ys)) :
    (eqGuard op ty x y X Y).run P w = .ok () w := by
  by_cases c : op = .eql ∨ op = .neq
  · rcases c with rfl | rfl
    all_goals
      unfold eqGuard
      simp only [Bool.not_true, Bool.false_eq_true, if_false]
      split
      · exact absurd ⟨rfl, rfl⟩ h1
      · exact absurd ⟨rfl, rfl⟩ (h2 _ _)
      · rfl
  · exact guard_ne w (fun q => c (.inl q)) (fun q => c (.inr q))

theorem guard_eq {op : BinOp} {ty : TypeId} {x y : Operand} {X Y : Value} (w : World) (h1 : X = .nilIface → Y = .nilIface → (Am.isConst x || Am.isConst y) = true)
    (h2 : ∀ xs ys, X = .agg xs → Y = .agg ys → P.eqGuardType P.depth ty = false) : (eqGuard op ty x y X Y).run P w = .ok () w := by
  by_cases c1 : X = .nilIface ∧ Y = .nilIface
  · obtain ⟨rfl, rfl⟩ := c1
    have := h1 rfl rfl
    rw [Bool.or_eq_true] at this
    by_cases c : op = .eql ∨ op = .neq
    · rcases this with q | q
      · obtain ⟨k, rfl⟩ := isConst_ok q; rcases c with rfl | rfl <;> simp [eqGuard]
      · obtain ⟨k, rfl⟩ := isConst_ok q; rcases c with rfl | rfl <;> simp [eqGuard]
    · exact guard_ne w (fun q => c (.inl q)) (fun q => c (.inr q))
  · by_cases c2 : ∃ xs ys, X = .agg xs ∧ Y = .agg ys
    · obtain ⟨xs, ys, rfl, rfl⟩ := c2
      exact run_eqGuard_agg w op ty x y xs ys (h2 xs ys rfl rfl)
    · exact guard_other w c1 fun xs ys q => c2 ⟨xs, ys, q⟩

/-- '==' of what is told by 'equal': no numbers, no strings. -/
theorem binOp_eql {ty : TypeId} {X Y : Value} {r : Bool} (w : World) (h : (Op.equal ty X Y).run P w = .ok r w)
    (n1 : ∀ k a j b, ¬ (X = .int k a ∧ Y = .int j b)) (n2 : ∀ a b, ¬ (X = .string a ∧ Y = .string b)) (n3 : ∀ k a j b, ¬ (X = .float k a ∧ Y = .float j b)) (n4 : ∀ k a c j b d, ¬ (X = .complex k a c ∧ Y = .complex j b d)) :
    (binOp .eql ty X Y).run P w = .ok (.bool r) w ∧ (binOp .neq ty X Y).run P w = .ok (.bool (!r)) w := by
  constructor
  · cases X <;> cases Y <;> first
      | exact absurd ⟨rfl, rfl⟩ (n1 _ _ _ _)
      | exact absurd ⟨rfl, rfl⟩ (n2 _ _)
      | exact absurd ⟨rfl, rfl⟩ (n3 _ _ _ _)
      | exact absurd ⟨rfl, rfl⟩ (n4 _ _ _ _ _ _)
      | (show ((Op.equal ty _ _) >>= fun b => (pure (.bool b) : Sem Value)).run P w = _
         rw [Sem.run_bind, h]; rfl)
  · cases X <;> cases Y <;> first
      | exact absurd ⟨rfl, rfl⟩ (n1 _ _ _ _)
      | exact absurd ⟨rfl, rfl⟩ (n2 _ _)
      | exact absurd ⟨rfl, rfl⟩ (n3 _ _ _ _)
      | exact absurd ⟨rfl, rfl⟩ (n4 _ _ _ _ _ _)
      | (show ((Op.equal ty _ _) >>= fun b => (pure (.bool (!b)) : Sem Value)).run P w = _
         rw [Sem.run_bind, h]; rfl)

theorem VRel.noFloat {x : V} {X : Value} (h : VRel φ x X) : (∀ k a, X ≠ .float k a) ∧ (∀ k a c, X ≠ .complex k a c) ∧ (∀ k a, X = .int k a → x = .i k a) ∧ (∀ s, X = .string s → x = .s s.data.toList) := by
  cases x with
  | p a => cases a <;> simp only [VRel] at h <;> (first | subst h | (obtain ⟨_, _, _, rfl⟩ := h)) <;> exact ⟨by simp, by simp, by simp, by simp⟩
  | sl a =>
    cases a <;> simp only [VRel] at h
    · obtain ⟨_, _, rfl⟩ := h; exact ⟨by simp, by simp, by simp, by simp⟩
    · obtain ⟨_, _, _, _, rfl, _⟩ := h; exact ⟨by simp, by simp, by simp, by simp⟩
  | m a => cases a <;> simp only [VRel] at h <;> (first | subst h | (obtain ⟨_, _, rfl⟩ := h)) <;> exact ⟨by simp, by simp, by simp, by simp⟩
  | s l => simp only [VRel] at h; obtain ⟨s, rfl, rfl⟩ := h; exact ⟨by simp, by simp, by simp, by simp⟩
  | fn f a b => simp only [VRel] at h; obtain ⟨_, _, _, rfl, _⟩ := h; exact ⟨by simp, by simp, by simp, by simp⟩
  | ifc t v => simp only [VRel] at h; obtain ⟨_, rfl, _⟩ := h; exact ⟨by simp, by simp, by simp, by simp⟩
  | agg l => simp only [VRel] at h; obtain ⟨_, rfl, _⟩ := h; exact ⟨by simp, by simp, by simp, by simp⟩
  | tup l => simp only [VRel] at h; obtain ⟨_, rfl, _⟩ := h; exact ⟨by simp, by simp, by simp, by simp⟩
  | i k n => simp only [VRel] at h; subst h; exact ⟨by simp, by simp, by simp, by simp⟩
  | b k => simp only [VRel] at h; subst h; exact ⟨by simp, by simp, by simp, by simp⟩
  | nf => simp only [VRel] at h; subst h; exact ⟨by simp, by simp, by simp, by simp⟩
  | nifc => simp only [VRel] at h; subst h; exact ⟨by simp, by simp, by simp, by simp⟩

theorem binV_ok (ok : EnvOk P E) {op : BinOp} {ty : TypeId} {x y : Operand} {a c : V} {X Y : Value} (hb : bothPtr a c = false) (e : binV E op ty (Am.isConst x || Am.isConst y) a c h = some v)
    (hx : VRel φ a X) (hy : VRel φ c Y) : ∃ u, (∀ w, (do eqGuard op ty x y X Y; binOp op ty X Y : Sem Value).run P w = .ok u w) ∧ VRel φ v u := by
  have hint : ∀ {k n}, X = .int k n → ∀ w, (eqGuard op ty x y X Y).run P w = .ok () w := fun hX w => guard_other w (by rintro ⟨q, _⟩; rw [hX] at q; cases q) (by rintro xs ys ⟨q, _⟩; rw [hX] at q; cases q)
  have hstr : ∀ {s}, X = .string s → ∀ w, (eqGuard op ty x y X Y).run P w = .ok () w := fun hX w => guard_other w (by rintro ⟨q, _⟩; rw [hX] at q; cases q) (by rintro xs ys ⟨q, _⟩; rw [hX] at q; cases q)
  unfold binV at e
  split at e
  · have h1 := hx.int
    have h2 := hy.int
    subst h1; subst h2
    obtain ⟨u, q1, q2⟩ := shiftInt_ok (P := P) (φ := φ) ty (.inl rfl) e
    exact ⟨u, fun w => by rw [Sem.run_bind, hint rfl w]; exact q1 w, q2⟩
  · have h1 := hx.int
    have h2 := hy.int
    subst h1; subst h2
    obtain ⟨u, q1, q2⟩ := shiftInt_ok (P := P) (φ := φ) ty (.inr rfl) e
    exact ⟨u, fun w => by rw [Sem.run_bind, hint rfl w]; exact q1 w, q2⟩
  · split at e
    · rename_i hk
      have := kindEq_eq hk
      subst this
      have h1 := hx.int
      have h2 := hy.int
      subst h1; subst h2
      obtain ⟨u, q1, q2⟩ := binInt_ok (P := P) (φ := φ) ty e
      exact ⟨u, fun w => by rw [Sem.run_bind, hint rfl w]; exact q1 w, q2⟩
    · cases e
  · obtain ⟨s, rfl, rfl⟩ := hx.str
    obtain ⟨s', rfl, rfl⟩ := hy.str
    obtain ⟨u, q1, q2⟩ := binStr_ok (P := P) (φ := φ) ty e
    exact ⟨u, fun w => by rw [Sem.run_bind, hstr rfl w]; exact q1 w, q2⟩
  · rename_i m1 m2 m3 m4
    split at e
    · rename_i r hr
      injection e with e
      subst e
      refine ⟨.bool r, fun w => ?_, VRel.mk_bool rfl⟩
      obtain ⟨q1, q2, q3⟩ := eqV_ok ok hb hr hx hy w
      rw [Sem.run_bind, guard_eq w q2 q3]
      obtain ⟨f1, f2, f3, f4⟩ := hx.noFloat
      obtain ⟨g1, g2, g3, g4⟩ := hy.noFloat
      exact (binOp_eql w q1 (fun k a j b q => m3 _ _ _ _ (f3 _ _ q.1) (g3 _ _ q.2)) (fun a b q => m4 _ _ (f4 _ q.1) (g4 _ q.2))
        (fun k a _ _ q => f1 k a q.1) (fun k a c _ _ _ q => f2 k a c q.1)).1
    · cases e
  · rename_i m1 m2 m3 m4
    split at e
    · rename_i r hr
      injection e with e
      subst e
      refine ⟨.bool (!r), fun w => ?_, VRel.mk_bool rfl⟩
      obtain ⟨q1, q2, q3⟩ := eqV_ok ok hb hr hx hy w
      rw [Sem.run_bind, guard_eq w q2 q3]
      obtain ⟨f1, f2, f3, f4⟩ := hx.noFloat
      obtain ⟨g1, g2, g3, g4⟩ := hy.noFloat
      exact (binOp_eql w q1 (fun k a j b q => m3 _ _ _ _ (f3 _ _ q.1) (g3 _ _ q.2)) (fun a b q => m4 _ _ (f4 _ q.1) (g4 _ q.2))
        (fun k a _ _ q => f1 k a q.1) (fun k a c _ _ _ q => f2 k a c q.1)).2
    · cases e
  · cases e

end
end Go.Am

