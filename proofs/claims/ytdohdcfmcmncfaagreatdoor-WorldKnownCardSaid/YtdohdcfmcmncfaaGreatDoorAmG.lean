/-
  ONE OPERATION, WHATEVER IT CALLS.
-/
import Derived.Test.YtdohdcfmcmncfaaGreatDoorAmF
import Derived.AtR
import Derived.RangeFuncRecord
namespace Go.Am

/-- A step comes to a value, through the calls that it makes. -/
def Goes (P : Program) (y : Value) (w' : World) : Result Next → Prop
  | .ok (.value v) w1 => y = v ∧ w' = w1
  | .ok .skip w1 => y = undef ∧ w' = w1
  | .ok (.enter f args) w1 => ∀ cs, ∃ fr, Steps P (lone (Frame.enter P f args .normal) cs w1) (lone fr cs w') ∧ fr.leaving P w' (.returned y)
  | .ok (.round l f tmps assign body) w1 => ∀ c cs, Steps P (lone (Frame.round l f tmps assign body .normal) (c :: cs) w1) (lone (c.finish y) cs w')
  | _ => False

/-- A step, what it comes to, and what it makes of the heap. -/
def OpOk (P : Program) (φ : Mp) (h : Heap) (w : World) (r : Result Next) (v : V) (h' : Heap) : Prop :=
  ∃ φ' w' y, HRel φ' h' w' ∧ Ext φ w φ' w' h.next ∧ h.next ≤ h'.next ∧ VRel φ' v y ∧ Goes P y w' r

theorem VRel.undef (φ : Mp) : VRel φ V.undef Go.undef := by simp only [V.undef, VRel]; exact ⟨#[], rfl, VRels.nil φ⟩

section
variable {P : Program} {E : Env} {φ : Mp} {t : T} {h h' : Heap} {ρ : Operand → Value} {v : V} {w : World}

theorem MemOk.op {s : Sem Next} (k : MemOk P φ h w s v h') : OpOk P φ h w (s.run P w) v h' := by
  obtain ⟨φ', w', a, b, c, d⟩ := k
  rcases d with ⟨y, d1, d2⟩ | ⟨d1, rfl⟩
  · exact ⟨φ', w', y, a, b, c, d2, by rw [d1]; exact ⟨rfl, rfl⟩⟩
  · exact ⟨φ', w', undef, a, b, c, VRel.undef _, by rw [d1]; exact ⟨rfl, rfl⟩⟩

/-- What the calls of an evaluator are in the model. -/
structure CallsOk (P : Program) (C : Calls') : Prop where
  call : ∀ (f : FuncId) (vs : List V) (h : Heap) (v : V) (h' : Heap), C.call f vs h = some (v, h') → ∀ (φ : Mp) (w : World) (as : Array Value), HRel φ h w → VRels φ vs as.toList →
    OpOk P φ h w ((callFunc f as).run P w) v h'
  yld : ∀ (l : Nat) (vs : List V) (h : Heap) (v : V) (h' : Heap), C.yld l vs h = some (v, h') → ∀ (φ : Mp) (w : World) (as : Array Value) (pl : Pl), HRel φ h w → φ l 0 = some pl → VRels φ vs as.toList →
    OpOk P φ h w ((Instr.yield pl.rb as).run P w) v h'

/-- A frame that makes a step. -/
theorem goes_steps' {s : Sem Next} {y : Value} {w' : World} {fr0 fr : Frame} {cs : List Frame} {w0 : World} (g : Goes P y w' (s.run P w))
    (hk : ∀ d r sv k, fr.todo ≠ .call d true r sv :: k)
    (ha : (stepG P true { frame := fr0, callers := cs, status := .running, dying := none } w0).bare = (stepG.apply P true fr cs none s w).bare) :
    Steps P (lone fr0 cs w0) (lone (fr.finish y) cs w') := by
  have hkind : (match fr.todo with | .call _ true _ _ :: _ => CallKind.wrapped | _ => CallKind.normal) = CallKind.normal := by
    split
    · rename_i heq; exact absurd heq (hk _ _ _ _)
    · rfl
  cases hr : s.run P w with
  | halt x w1 => rw [hr] at g; exact g.elim
  | ok n w1 =>
    rw [hr] at g
    cases n <;> simp only [Goes] at g
    case value v =>
      obtain ⟨rfl, rfl⟩ := g
      exact .one (step_lone_go (by rw [ha]; simp [stepG.apply, hr]))
    case skip =>
      obtain ⟨rfl, rfl⟩ := g
      exact .one (step_lone_go (by rw [ha]; simp [stepG.apply, hr]))
    case enter f args =>
      obtain ⟨fr', h1, h2⟩ := g (fr :: cs)
      refine .head (m₁ := lone (Frame.enter P f args .normal) (fr :: cs) w1) ?_ (h1.trans (.one (step_leave_returned h2)))
      refine step_lone_go ?_
      rw [ha]
      simp only [stepG.apply, Sem.runT_eq, if_true, hr, GStep.bare_after]
      rfl
    case round l f tmps assign body =>
      refine .head (m₁ := lone (Frame.round l f tmps assign body .normal) (fr :: cs) w1) ?_ (g fr cs)
      refine step_lone_go ?_
      rw [ha]
      simp [stepG.apply, hr]

theorem goes_steps {s : Sem Next} {y : Value} {w' : World} {fr : Frame} {cs : List Frame} (g : Goes P y w' (s.run P w))
    (hk : ∀ d r sv k, fr.todo ≠ .call d true r sv :: k)
    (ha : stepG P true { frame := fr, callers := cs, status := .running, dying := none } w = stepG.apply P true fr cs none s w) :
    Steps P (lone fr cs w) (lone (fr.finish y) cs w') := goes_steps' g hk (by rw [ha])

/-! ### Calls -/
theorem findM_ok (name : String) : ∀ (ms : List Method) (m : Method), findM name ms = some m → ms.find? (·.name == name) = some m
  | [], m, e => by cases e
  | a :: ms, m, e => by
    simp only [findM] at e
    rw [List.find?_cons]
    split at e
    · rename_i hn; rw [hn]; simpa using e
    · rename_i hn; rw [hn]; exact findM_ok name ms m e

theorem mth_ok (ok : EnvOk P E) {u : TypeId} {name : String} {g : FuncId} (e : E.mth u name = some g) (X : Value) (d : Nat) :
    (method (d + 1) u X name).run P w = .ok (g, X) w := by
  have e := ok.mth _ _ _ e
  unfold mthOf at e
  split at e
  · cases e
  · rename_i i hi
    split at e
    · cases e
    · rename_i m hm
      have hm' := findM_ok _ _ _ hm
      split at e
      · rename_i f ptr D hp hf hu
        rw [undOf_info] at hu
        have hu' := hu
        have hpath : m.path = #[] := Array.ext' hp
        have hfind : i.methods.find? (·.name == name) = some m := by rw [← Array.find?_toList]; exact hm'
        unfold method
        simp only [Sem.run_bind, r_info hi, Result.andThen_ok, hfind, follow, Sem.run_pure, hf, hpath]
        split at e
        · injection e with e
          subst e
          simp only [receiverAt, Sem.run_bind, r_und hu', Result.andThen_ok]
          rfl
        · cases e
        · cases e
        · rename_i hnp
          injection e with e
          subst e
          simp only [receiverAt, Sem.run_bind, r_und hu', Result.andThen_ok]
          rfl
      · cases e


theorem method_ok (ok : EnvOk P E) (C : Calls') (hC : CallsOk P C) {u : TypeId} {name : String} {g : FuncId} {x : V} {X : Value} {vs : List V} {as : Array Value} (hr : HRel φ h w)
    (e : E.mth u name = some g) (hx : VRel φ x X) (hv : VRels φ vs as.toList) (k : C.call g (x :: vs) h = some (v, h')) :
    OpOk P φ h w ((callMethod (.iface u X) name as).run P w) v h' := by
  have hd : P.types.size + Made.depth = (P.types.size + (Made.depth - 1)) + 1 := by
    have : 0 < Made.depth := by decide
    omega
  have := hC.call _ _ _ _ _ k φ w (#[X] ++ as) hr (by simpa using VRels.cons hx hv)
  simp only [callMethod, Sem.run_bind, run_program, Result.andThen_ok]
  rw [hd, mth_ok ok e]
  simpa using this

theorem callV_ok (ok : EnvOk P E) (C : Calls') (hC : CallsOk P C) {fv : V} {F : Value} {vs : List V} {as : Array Value} (hr : HRel φ h w)
    (hf : VRel φ fv F) (hv : VRels φ vs as.toList) (k : callV E C fv vs h = some (v, h')) :
    OpOk P φ h w ((do let d ← Deferred.ofValue F as; invoke d.target d.args : Sem Next).run P w) v h' := by
  unfold callV at k
  split at k
  · rename_i g first cap
    simp only [VRel, FnRel] at hf
    obtain ⟨g', x, y, rfl, rfl, h1, h2⟩ := hf
    have := hC.call _ _ _ _ _ k φ w ((x ++ as) ++ y) hr (by
      simp only [Array.toList_append, List.append_assoc]
      exact h1.append (hv.append h2))
    simpa [Deferred.ofValue, invoke] using this
  · rename_i l first cap
    simp only [VRel, FnRel] at hf
    obtain ⟨g', x, y, rfl, ⟨pl, p1, rfl⟩, h1, h2⟩ := hf
    have := hC.yld _ _ _ _ _ k φ w (x ++ as) pl hr p1 (by
      simp only [Array.toList_append]
      exact h1.append hv)
    simpa [Deferred.ofValue, invoke] using this
  · rename_i name first cap
    simp only [VRel, FnRel] at hf
    obtain ⟨g', x, y, rfl, rfl, h1, h2⟩ := hf
    split at k
    · rename_i u z r hcat
      have hall : VRels φ (first ++ vs) (x ++ as).toList := by
        simp only [Array.toList_append]
        exact h1.append hv
      rw [hcat, VRels.cons_iff] at hall
      obtain ⟨Y, ys, e1, e2, e3⟩ := hall
      split at k
      · rename_i g hg
        simp only [VRel] at e2
        obtain ⟨U, rfl, e4⟩ := e2
        have hxa : x ++ as = (.iface u U :: ys).toArray := Array.ext' (by rw [e1])
        have := method_ok ok C hC (as := ys.toArray) (w := w) hr hg e4 e3 k
        simp only [Deferred.ofValue, pure_bind, invoke, hxa]
        simpa using this
      · cases k
    · cases k
  · cases k

theorem opCall_ok (ok : EnvOk P E) (C : Calls') (hC : CallsOk P C) (hr : HRel φ h w) {c : Call} {ty : TypeId} (r : RhoOk φ t ρ) (k : opCall E C c t h = some (v, h')) :
    OpOk P φ h w ((do let d ← resolve ρ c ty; invoke d.target d.args : Sem Next).run P w) v h' := by
  unfold opCall at k
  split at k
  · cases k
  · rename_i args hargs
    have hv : VRels φ args (c.args.map ρ).toList := by simpa using r.evs hargs
    split at k
    · rename_i b hb
      have fin : ∀ s : Sem Value, Sem.run P (do let d ← resolve ρ c ty; invoke d.target d.args : Sem Next) w = (do pure (.value (← s)) : Sem Next).run P w → ValOk P φ h w s v h' →
          OpOk P φ h w ((do let d ← resolve ρ c ty; invoke d.target d.args : Sem Next).run P w) v h' := by
        intro s q1 q2
        rw [q1]
        exact q2.mem.op
      have hres : ∀ w', Sem.run P (do let d ← resolve ρ c ty; invoke d.target d.args : Sem Next) w' =
          (Go.builtin b c.argTypes ty (c.args.map fun | .const _ => true | _ => false) (c.args.map ρ)).run P w' := by
        intro w'
        simp only [resolve, hb, pure_bind, invoke]
        rfl
      unfold builtinV at k
      split at k
      · exact fin _ (hres w) (biLen_ok ok hr hv k).1
      · obtain ⟨e, y, y1, y2⟩ := biMin_ok (P := P) (ats := c.argTypes) (ty := ty) hv k
        subst e
        exact fin _ (hres w) (ValOk.same hr (y1 w) y2)
      · obtain ⟨e, y, y1, y2⟩ := biMax_ok (P := P) (ats := c.argTypes) (ty := ty) hv k
        subst e
        exact fin _ (hres w) (ValOk.same hr (y1 w) y2)
      · exact fin _ (hres w) (biAppend_ok ok hr hv k)
      · exact fin _ (hres w) (biCopy_ok ok hr hv k)
      · exact fin _ (hres w) (biClear_ok ok hr hv k)
      · cases k
    · rename_i x name hb
      split at k
      · rename_i u z hz
        split at k
        · rename_i g hg
          have hx := r _ _ hz
          simp only [VRel] at hx
          obtain ⟨U, hU, hu⟩ := hx
          have := method_ok ok C hC (w := w) hr hg hu hv k
          simp only [resolve, hb, pure_bind, invoke, hU]
          have e0 : (#[Value.iface u U] ++ c.args.map ρ)[0]? = some (.iface u U) := by rw [Array.getElem?_append_left (by simp)]; rfl
          have e1 : (#[Value.iface u U] ++ c.args.map ρ).extract 1 (#[Value.iface u U] ++ c.args.map ρ).size = c.args.map ρ := by
            apply Array.ext'
            simp [List.take_of_length_le]
          simp only [e0, e1]
          exact this
        · cases k
      · cases k
    · rename_i f hb
      split at k
      · rename_i fv hf
        have := callV_ok ok C hC (w := w) hr (r _ _ hf) hv k
        simp only [resolve, hb]
        exact this
      · cases k


theorem valOk_all {s : Sem Value} (hr : HRel φ h w) (e : h' = h) {u : Value} (y1 : ∀ w, s.run P w = .ok u w) (y2 : VRel φ v u) : MemOk P φ h w (do pure (.value (← s))) v h' := by
  subst e
  exact ⟨φ, w, hr, hr.ext_refl, Nat.le_refl _, .inl ⟨u, by rw [Sem.run_bind, y1]; rfl, y2⟩⟩

theorem opV_ok (ok : EnvOk P E) (C : Calls') (hC : CallsOk P C) (hr : HRel φ h w) {o : Oper} (r : RhoOk φ t ρ) (k : opV E C o t h = some (v, h')) :
    OpOk P φ h w ((execOp ρ o).run P w) v h' := by
  obtain ⟨dst, op, type, pos, after, guard⟩ := o
  have new : ∀ {s : Sem Next}, (∃ b, h' = h.newBlk b ∧ NewOk P φ h.next s v b) → OpOk P φ h w (s.run P w) v h' := by
    rintro s ⟨b, rfl, q⟩
    exact (q.mem hr).op
  have pure' : ∀ {s : Sem Next}, (h' = h ∧ PureOk P φ s v) → OpOk P φ h w (s.run P w) v h' := by
    rintro s ⟨rfl, q⟩
    exact (q.mem hr).op
  have val : ∀ {s : Sem Value}, (h' = h ∧ ∃ u, (∀ w, s.run P w = .ok u w) ∧ VRel φ v u) → OpOk P φ h w ((do pure (.value (← s)) : Sem Next).run P w) v h' := by
    rintro s ⟨e, u, y1, y2⟩
    exact (valOk_all hr e y1 y2).op
  have now : ∀ {u : Value}, h' = h → VRel φ v u → OpOk P φ h w ((pure (.value u) : Sem Next).run P w) v h' := by
    rintro u rfl y
    exact (PureOk.mem hr ⟨u, fun w => rfl, y⟩).op
  cases op <;> simp only [opV] at k <;> first | (cases k; done) | skip
  case move x => obtain ⟨a, b⟩ := opMove_ok r k; exact now a b
  case assign x => obtain ⟨a, b⟩ := opMove_ok r k; exact now a b
  case pick c a b => exact pure' (opPick_ok r k)
  case alloc e => exact new (opAlloc_ok ok k)
  case box e x => exact new (opBox_ok r k)
  case build ty ps => exact val (opBuild_ok ok r k)
  case buildSlice ty n ps => exact new (opBuildSlice_ok ok r k)
  case load ty a => exact (opLoad_ok ok hr r k).op
  case store ty a x => exact (opStore_ok ok hr r k).op
  case nilCheck x =>
    obtain ⟨a, b, c⟩ := opNilCheck_ok r k
    rcases c with ⟨p, c⟩ | ⟨u, y, c⟩ | ⟨f, y, z, c⟩ | ⟨f, y, z, c⟩ <;>
    · simp only [execOp, c]
      rw [c] at b
      exact now a b
  case binOp op ty x y yt => exact (opBinOp_ok ok hr r k).op
  case unOp op ty x => exact pure' (opUnOp_ok r k)
  case convert s d x => exact pure' (opConvert_ok ok r k)
  case makeInterface ty x => exact val (opMakeInterface_ok ok r k)
  case makeFunc fn a b =>
    obtain ⟨q1, q2⟩ := opMakeFunc_ok r k
    exact val ⟨q1, _, fun w => rfl, q2⟩
  case makeMap ty x => exact new (opMakeMap_ok ok r k)
  case makeSlice ty l c => exact new (opMakeSlice_ok ok r k)
  case slice ty x lo hi mx => exact val (opSlice_ok ok r k)
  case fieldAddr s x f => exact val (opFieldAddr_ok ok r k)
  case field s x f => exact val (opField_ok ok r k)
  case indexAddr ty x ix => exact val (opIndexAddr_ok ok r k)
  case index ty x ix => exact val (opIndex_ok ok r k)
  case lookup ty x ix c => exact (opLookup_ok ok hr r k).op
  case mapUpdate ty m kx x => exact (opMapUpdate_ok ok hr r k).op
  case mapEntry ty m kx => exact (opMapEntry_ok ok hr r k).op
  case entryStore ty m s x => exact (opEntryStore_ok hr r k).op
  case range ty x => exact (opRange_ok ok hr r k).op
  case next it s => exact (opNext_ok hr r k).op
  case extract x n => exact val (opExtract_ok r k)
  case call c => exact opCall_ok ok C hC hr r k

end
end Go.Am

/-
  A REGION IN THE TEXT's ORDER.
-/
namespace Go.Am

theorem HRel.mono_dom {φ : Mp} {h : Heap} {w : World} (r : HRel φ h w) : ∀ f v pl, φ f v = some pl → f < h.next := fun f v pl e => (r.at_ f v pl e).1

section
variable {P : Program} {E : Env} {φ : Mp} {t t' : T} {h h' : Heap} {v : V} {w : World}

theorem put_ok {a : Act} {d : Option Tmp} {x : V} {y : Value} (r : TmRel φ t.m t.n a.tmps) (hv : VRel φ x y) (e : t.put d x = some t') :
    TmRel φ t'.m t'.n (a.put d y).tmps ∧ (a.put d y).defers = a.defers := by
  unfold T.put at e
  cases d with
  | none =>
    injection e with e
    subst e
    exact ⟨r, rfl⟩
  | some k =>
    obtain ⟨n, m⟩ := t
    simp only at e
    split at e
    · rename_i hk
      have hk : k < n := by simpa using hk
      injection e with e
      subst e
      refine ⟨⟨?_, fun j z hz => ?_⟩, rfl⟩
      · have := r.1; simpa [Act.put] using this
      · have hsz : a.tmps.size = n := r.1
        simp only [Act.put]
        by_cases hj : j = k
        · subst hj
          rw [Tr.get_set_eq] at hz
          injection hz with hz
          subst hz
          have : (a.tmps.setIfInBounds j y).getD j undef = y := by
            simp [Array.getD_eq_getD_getElem?, hsz, hk]
          rw [this]; exact hv
        · rw [Tr.get_set_ne _ _ hj] at hz
          have := r.2 j z hz
          have e2 : (a.tmps.setIfInBounds k y).getD j undef = a.tmps.getD j undef := by
            simp [Array.getD_eq_getD_getElem?, Ne.symm hj]
          rw [e2]; exact this
    · cases e

theorem VRel.bool_back {x : V} {b : Bool} (h : VRel φ x (.bool b)) : x = .b b := by
  cases x with
  | b c => have := h.bool; injection this with this; subst this; rfl
  | p a =>
    cases a <;> simp only [VRel] at h
    · cases h
    · obtain ⟨_, _, _, q⟩ := h; cases q
  | sl a l c z e =>
    cases a <;> simp only [VRel] at h
    · obtain ⟨_, _, q⟩ := h; cases q
    · obtain ⟨_, _, _, _, q, _⟩ := h; cases q
  | m a =>
    cases a <;> simp only [VRel] at h
    · cases h
    · obtain ⟨_, _, q⟩ := h; cases q
  | i k n => have := h.int; cases this
  | s l => obtain ⟨_, q, _⟩ := h.str; cases q
  | fn f x y => simp only [VRel] at h; obtain ⟨_, _, _, q, _⟩ := h; cases q
  | nf => simp only [VRel] at h; cases h
  | ifc u x => simp only [VRel] at h; obtain ⟨_, q, _⟩ := h; cases q
  | nifc => simp only [VRel] at h; cases h
  | agg l => simp only [VRel] at h; obtain ⟨_, q, _⟩ := h; cases q
  | tup l => simp only [VRel] at h; obtain ⟨_, q, _⟩ := h; cases q

theorem yielded_ok {ops : Array Oper} {tmps : Array Value} {j : Nat} {r : Option Bool} (hr : ∀ d x, (ops[j]?).bind (·.dst) = some d → t.get d = some x → VRel φ x (tmps.getD d undef))
    (e : yieldedV ops t j = some r) : yielded ops tmps j = r := by
  unfold yieldedV at e
  unfold yielded
  split at e
  · rename_i hd
    injection e with e
    subst e
    rw [hd]; rfl
  · rename_i d hd
    rw [hd]
    simp only [Option.bind_some]
    split at e
    · rename_i x hx
      injection e with e
      subst e
      have hv := (hr d _ hd hx).bool
      cases ht : tmps[d]? with
      | none => rw [Array.getD_eq_getD_getElem?, ht] at hv; cases hv
      | some z =>
        rw [Array.getD_eq_getD_getElem?, ht] at hv
        simp only [Option.getD_some] at hv
        subst hv
        rfl
    · rename_i x hx hnb
      injection e with e
      subst e
      have hv := hr d _ hd hnb
      cases ht : tmps[d]? with
      | none => rfl
      | some z =>
        rw [Array.getD_eq_getD_getElem?, ht] at hv
        simp only [Option.getD_some] at hv
        cases z <;> try rfl
        have := hv.bool_back
        exact (hx _ this).elim
    · cases e

theorem wanted_ok {ops : Array Oper} {tmps : Array Value} {o : Oper} {b : Bool} (hr : ∀ g wt d x, o.guard = some (g, wt) → (ops[g]?).bind (·.dst) = some d → t.get d = some x → VRel φ x (tmps.getD d undef))
    (e : wantedV ops t o = some b) : Region.wanted o (yielded ops tmps) = b := by
  unfold wantedV at e
  unfold Region.wanted
  split at e
  · rename_i hg
    injection e with e
    subst e
    rw [hg]
  · rename_i j want hg
    rw [hg]
    simp only
    split at e
    · cases e
    · rename_i x hy
      injection e with e
      subst e
      rw [yielded_ok (fun d x hd hx => hr _ _ d x hg hd hx) hy, boolEq_eq]
      cases x <;> cases want <;> rfl
    · rename_i hy
      injection e with e
      subst e
      rw [yielded_ok (fun d x hd hx => hr _ _ d x hg hd hx) hy]
      rfl


/-- One operation, in a frame. -/
theorem op_steps {ops : Array Oper} {i : Nat} {o : Oper} {a : Act} {y : Value} {w' : World} (ho : ops[i]? = some o) (hw : Region.wanted o (yielded ops a.tmps) = true) (hd : ∀ c, o.op ≠ .defer c)
    (g : Goes P y w' ((execOp a.eval o).run P w)) (b : Frame) (rest : List Nat) (k : List Item) (cs : List Frame) :
    Steps P (lone (b.atR a (.inRegion ops (i :: rest) :: k)) cs w) (lone (b.atR (a.put o.dst y) (.inRegion ops rest :: k)) cs w') := by
  have h1 := stepGR_op (P := P) (b := b) (a := a) (k := k) (cs := cs) (w := w) (rest := rest) ho hw
  rw [Oper.semAt_eq _ _ _ hd] at h1
  have := goes_steps g (by intro d r sv k' q; cases q) h1
  rw [Frame.finish_atR, ho] at this
  exact this

theorem opV_noDefer {C : Calls'} {o : Oper} (k : opV E C o t h = some (v, h')) : ∀ c, o.op ≠ .defer c := by
  intro c q
  unfold opV at k
  rw [q] at k
  cases k

theorem stepV_ok (ok : EnvOk P E) (C : Calls') (hC : CallsOk P C) {ops : Array Oper} {i : Nat} {o : Oper} (ho : ops[i]? = some o) (hr : HRel φ h w) {a : Act} (ht : TmRel φ t.m t.n a.tmps)
    (e : stepV E C ops o t h = some (t', h')) :
    ∃ φ' w' a', HRel φ' h' w' ∧ Ext φ w φ' w' h.next ∧ h.next ≤ h'.next ∧ TmRel φ' t'.m t'.n a'.tmps ∧ a'.defers = a.defers ∧
      ∀ (b : Frame) (rest : List Nat) (k : List Item) (cs : List Frame),
        Steps P (lone (b.atR a (.inRegion ops (i :: rest) :: k)) cs w) (lone (b.atR a' (.inRegion ops rest :: k)) cs w') := by
  have hev : ∀ (d : Tmp) (x : V), t.get d = some x → VRel φ x (a.tmps.getD d undef) := fun d x hx => ht.2 d x hx
  unfold stepV at e
  split at e
  · cases e
  · rename_i hw
    have hw' := wanted_ok (tmps := a.tmps) (fun g wt d x _ _ hx => hev d x hx) hw
    split at e
    · rename_i t2 hp
      injection e with e
      injection e with e1 e2
      subst e1; subst e2
      obtain ⟨q1, q2⟩ := put_ok ht (VRel.undef φ) hp
      refine ⟨φ, w, a.put o.dst undef, hr, hr.ext_refl, Nat.le_refl _, q1, q2, fun b rest k cs => ?_⟩
      have := stepR_op_skip (P := P) (b := b) (a := a) (k := k) (cs := cs) (w := w) (ops := ops) (i := i) (rest := rest) (by simp [ho, hw'])
      rw [ho] at this
      exact .one this
    · cases e
  · rename_i hw
    have hw' := wanted_ok (tmps := a.tmps) (fun g wt d x _ _ hx => hev d x hx) hw
    split at e
    · cases e
    · rename_i x h2 hop
      split at e
      · rename_i t2 hp
        injection e with e
        injection e with e1 e2
        subst e1; subst e2
        obtain ⟨φ', w', y, r1, r2, r3, r4, r5⟩ := opV_ok ok C hC hr (rhoOk_eval ht) hop
        have ht2 : TmRel φ' t.m t.n a.tmps := ht.mono r2.le
        obtain ⟨q1, q2⟩ := put_ok ht2 r4 hp
        exact ⟨φ', w', a.put o.dst y, r1, r2, r3, q1, q2, fun b rest k cs => op_steps ho hw' (opV_noDefer hop) r5 b rest k cs⟩
      · cases e

theorem runV_ok (ok : EnvOk P E) (C : Calls') (hC : CallsOk P C) {ops : Array Oper} : ∀ (os : List Oper) (i : Nat) (t : T) (h : Heap) (φ : Mp) (w : World) (a : Act), ops.toList.drop i = os → HRel φ h w → TmRel φ t.m t.n a.tmps →
    runV E C ops os t h = some (t', h') →
    ∃ φ' w' a', HRel φ' h' w' ∧ Ext φ w φ' w' h.next ∧ h.next ≤ h'.next ∧ TmRel φ' t'.m t'.n a'.tmps ∧ a'.defers = a.defers ∧
      ∀ (b : Frame) (k : List Item) (cs : List Frame),
        Steps P (lone (b.atR a (.inRegion ops (List.range' i os.length) :: k)) cs w) (lone (b.atR a' k) cs w')
  | [], i, t, h, φ, w, a, _, hr, ht, e => by
    simp only [runV, Option.some.injEq, Prod.mk.injEq] at e
    obtain ⟨rfl, rfl⟩ := e
    exact ⟨φ, w, a, hr, hr.ext_refl, Nat.le_refl _, ht, rfl, fun b k cs => .one stepR_region_end⟩
  | o :: os, i, t, h, φ, w, a, hdrop, hr, ht, e => by
    simp only [runV] at e
    split at e
    · cases e
    · rename_i t2 h2 hs
      have ho : ops[i]? = some o := by
        have : (ops.toList.drop i)[0]? = some o := by rw [hdrop]; rfl
        rw [List.getElem?_drop] at this
        simpa using this
      have hdrop' : ops.toList.drop (i + 1) = os := by
        rw [← List.drop_drop, hdrop]; rfl
      obtain ⟨φ1, w1, a1, r1, r2, r3, r4, r5, r6⟩ := stepV_ok ok C hC ho hr ht hs
      obtain ⟨φ2, w2, a2, s1, s2, s3, s4, s5, s6⟩ := runV_ok ok C hC os (i + 1) t2 h2 φ1 w1 a1 hdrop' r1 r4 e
      exact ⟨φ2, w2, a2, s1, r2.trans r3 s2, Nat.le_trans r3 s3, s4, s5.trans r5, fun b k cs => (r6 b _ k cs).trans (s6 b k cs)⟩

theorem region_ok (ok : EnvOk P E) (C : Calls') (hC : CallsOk P C) {ops : Array Oper} {a : Act} (hr : HRel φ h w) (ht : TmRel φ t.m t.n a.tmps) (e : runV E C ops ops.toList t h = some (t', h')) :
    ∃ φ' w' a', HRel φ' h' w' ∧ Ext φ w φ' w' h.next ∧ h.next ≤ h'.next ∧ TmRel φ' t'.m t'.n a'.tmps ∧ a'.defers = a.defers ∧
      ∀ (id : Nat) (b : Frame) (k : List Item) (cs : List Frame),
        Steps P (lone (b.atR a (.code (.region id ops false) :: k)) cs w) (lone (b.atR a' k) cs w') := by
  obtain ⟨φ', w', a', r1, r2, r3, r4, r5, r6⟩ := runV_ok ok C hC ops.toList 0 t h φ w a rfl hr ht e
  refine ⟨φ', w', a', r1, r2, r3, r4, r5, fun id b k cs => .head stepR_region ?_⟩
  have := r6 b k cs
  rw [Array.length_toList, ← List.range_eq_range'] at this
  exact this

end
end Go.Am

/-
  A BODY, A CALL, A ROUND OF A LOOP OVER A FUNCTION.
-/
namespace Go.Am

/-- The marks of range-over-func loops among the deferred calls. -/
def DsRel (φ : Mp) : List Nat → List Deferred → Prop
  | [], l => l = []
  | d :: ds, l => ∃ pl r, l = { target := .collected pl.rb, args := #[] } :: r ∧ φ d 0 = some pl ∧ DsRel φ ds r

theorem DsRel.mono {φ ψ : Mp} (h : φ.le ψ) : ∀ {ds : List Nat} {l : List Deferred}, DsRel φ ds l → DsRel ψ ds l
  | [], _, r => r
  | _ :: _, _, ⟨pl, r, a, b, c⟩ => ⟨pl, r, a, h _ _ _ b, c.mono h⟩

def StRel (φ : Mp) (s : St) (a : Act) : Prop := TmRel φ s.t.m s.t.n a.tmps ∧ DsRel φ s.ds a.defers

theorem StRel.mono {φ ψ : Mp} (h : φ.le ψ) {s : St} {a : Act} (r : StRel φ s a) : StRel ψ s a := ⟨r.1.mono h, r.2.mono h⟩

/-- Where a body's end stands. -/
def Outc (P : Program) (m : Machine) (b : Frame) (k : List Item) (cs : List Frame) (a' : Act) (w' : World) : Ex → Prop
  | .nrm => Steps P m (lone (b.atR a' k) cs w')
  | .exit id => ∃ kk, exitTo id kk = exitTo id k ∧ Steps P m (lone (b.atR a' (.code (.exit id) :: kk)) cs w')
  | .ret => ∃ kk, Steps P m (lone (b.atR a' (.code .ret :: kk)) cs w')

theorem Outc.of_steps {P : Program} {m m1 : Machine} {b : Frame} {k : List Item} {cs : List Frame} {a' : Act} {w' : World} {x : Ex} (h : Steps P m m1) (o : Outc P m1 b k cs a' w' x) : Outc P m b k cs a' w' x := by
  cases x with
  | nrm => exact Steps.trans h o
  | exit id => obtain ⟨kk, a, b⟩ := o; exact ⟨kk, a, Steps.trans h b⟩
  | ret => obtain ⟨kk, b⟩ := o; exact ⟨kk, Steps.trans h b⟩

theorem Steps.tail {P : Program} {m m1 m' : Machine} (h : Steps P m m') (hs : step P m = .next m1) (hne : m ≠ m') : Steps P m1 m' := by
  obtain ⟨n, hn⟩ := h
  cases n with
  | zero => simp [runN] at hn; exact absurd hn hne
  | succ n =>
    simp only [runN, hs] at hn
    exact ⟨n, hn⟩

theorem lone_todo {fr fr' : Frame} {cs cs' : List Frame} {w w' : World} (h : lone fr cs w = lone fr' cs' w') : fr.todo = fr'.todo := by
  simp only [lone, Machine.mk.injEq] at h
  have := h.2.1
  simp at this
  exact congrArg Frame.todo this.1

theorem Outc.inLoop {P : Program} {b : Frame} {c : Code} {a : Act} {w : World} {k : List Item} {cs : List Frame} {a' : Act} {w' : World} {x : Ex}
    (o : Outc P (lone (b.atR a (.code (.loop c) :: k)) cs w) b k cs a' w' x) : Outc P (lone (b.atR a (.inLoop c :: k)) cs w) b k cs a' w' x := by
  have go : ∀ (kk : List Item) (fr : Act) (ww : World), (.code (.loop c) :: k : List Item) ≠ kk → Steps P (lone (b.atR a (.code (.loop c) :: k)) cs w) (lone (b.atR fr kk) cs ww) →
      Steps P (lone (b.atR a (.inLoop c :: k)) cs w) (lone (b.atR fr kk) cs ww) := by
    intro kk fr ww hne hst
    exact .head stepR_inLoop (Steps.tail hst stepR_loop fun e => hne (lone_todo e))
  cases x with
  | nrm => exact go _ _ _ (fun e => by have := congrArg List.length e; simp at this) o
  | exit id => obtain ⟨kk, e1, e2⟩ := o; exact ⟨kk, e1, go _ _ _ (fun e => by injection e with e; injection e with e; cases e) e2⟩
  | ret => obtain ⟨kk, e2⟩ := o; exact ⟨kk, go _ _ _ (fun e => by injection e with e; injection e with e; cases e) e2⟩

/-- What a body does from a state. -/
def CodeAt (P : Program) (f : FuncId) (ro : Option Nat) (c : Code) (s : St) (x : Ex) (s' : St) : Prop :=
  codeChk c = true → ∀ (φ : Mp) (w : World) (a : Act), HRel φ s.h w → StRel φ s a →
    ∃ φ' w' a', HRel φ' s'.h w' ∧ Ext φ w φ' w' s.h.next ∧ s.h.next ≤ s'.h.next ∧ StRel φ' s' a' ∧
      ∀ (b : Frame) (k : List Item) (cs : List Frame), b.fn = f → (ro = none → b.roundOf = none) → Outc P (lone (b.atR a (.code c :: k)) cs w) b k cs a' w' x

structure RcOk (P : Program) (R : Rc) : Prop where
  calls : CallsOk P R.toCalls'
  code : ∀ f ro c s x s', R.code f ro c s = some (x, s') → CodeAt P f ro c s x s'

section
variable {P : Program} {E : Env} {R : Rc} {f : FuncId} {ro : Option Nat} {s s' : St} {x : Ex}

theorem seq_at {a b : Code} {x1 : Ex} {s1 : St} (h1 : CodeAt P f ro a s x1 s1) (h2 : x1 = .nrm → CodeAt P f ro b s1 x s') (h3 : x1 ≠ .nrm → x = x1 ∧ s' = s1) : CodeAt P f ro (.seq a b) s x s' := by
  intro hc φ w ac hr hs
  simp only [codeChk, Bool.and_eq_true] at hc
  obtain ⟨φ1, w1, a1, r1, r2, r3, r4, r5⟩ := h1 hc.1 φ w ac hr hs
  by_cases hx : x1 = .nrm
  · subst hx
    obtain ⟨φ2, w2, a2, q1, q2, q3, q4, q5⟩ := h2 rfl hc.2 φ1 w1 a1 r1 r4
    refine ⟨φ2, w2, a2, q1, r2.trans r3 q2, Nat.le_trans r3 q3, q4, fun fr k cs hf hro => ?_⟩
    exact .of_steps (.head stepR_seq (r5 fr (.code b :: k) cs hf hro)) (q5 fr k cs hf hro)
  · obtain ⟨rfl, rfl⟩ := h3 hx
    refine ⟨φ1, w1, a1, r1, r2, r3, r4, fun fr k cs hf hro => ?_⟩
    have := r5 fr (.code b :: k) cs hf hro
    refine .of_steps (.one stepR_seq) ?_
    cases x with
    | nrm => exact absurd rfl hx
    | exit id => obtain ⟨kk, e1, e2⟩ := this; exact ⟨kk, e1, e2⟩
    | ret => exact this

theorem codeS_inv {r : Option (Ex × St)} {b : Code} (e : codeS R f ro b r = some (x, s')) :
    ∃ x1 s1, r = some (x1, s1) ∧ (x1 = .nrm → R.code f ro b s1 = some (x, s')) ∧ (x1 ≠ .nrm → x = x1 ∧ s' = s1) := by
  unfold codeS at e
  split at e
  · rename_i x1 s1
    refine ⟨x1, s1, rfl, ?_, ?_⟩
    · rintro rfl; exact e
    · intro hx
      cases x1 with
      | nrm => exact absurd rfl hx
      | exit j => simp only at e; injection e with e; injection e with e1 e2; exact ⟨e1.symm, e2.symm⟩
      | ret => simp only at e; injection e with e; injection e with e1 e2; exact ⟨e1.symm, e2.symm⟩
  · cases e

theorem loop_at {c : Code} {x1 : Ex} {s1 : St} (h1 : CodeAt P f ro c s x1 s1) (h2 : x1 = .nrm → CodeAt P f ro (.loop c) s1 x s') (h3 : x1 ≠ .nrm → x = x1 ∧ s' = s1) : CodeAt P f ro (.loop c) s x s' := by
  intro hc φ w ac hr hs
  have hc' : codeChk c = true := hc
  obtain ⟨φ1, w1, a1, r1, r2, r3, r4, r5⟩ := h1 hc' φ w ac hr hs
  by_cases hx : x1 = .nrm
  · subst hx
    obtain ⟨φ2, w2, a2, q1, q2, q3, q4, q5⟩ := h2 rfl hc φ1 w1 a1 r1 r4
    refine ⟨φ2, w2, a2, q1, r2.trans r3 q2, Nat.le_trans r3 q3, q4, fun fr k cs hf hro => ?_⟩
    exact .of_steps (.head stepR_loop (r5 fr (.inLoop c :: k) cs hf hro)) (q5 fr k cs hf hro).inLoop
  · obtain ⟨rfl, rfl⟩ := h3 hx
    refine ⟨φ1, w1, a1, r1, r2, r3, r4, fun fr k cs hf hro => ?_⟩
    have := r5 fr (.inLoop c :: k) cs hf hro
    refine .of_steps (.one stepR_loop) ?_
    cases x with
    | nrm => exact absurd rfl hx
    | exit id => obtain ⟨kk, e1, e2⟩ := this; exact ⟨kk, e1, e2⟩
    | ret => exact this


theorem block_at {c : Code} {id : Nat} {x1 : Ex} (h1 : CodeAt P f ro c s x1 s') (h2 : codeB id (some (x1, s')) = some (x, s')) : CodeAt P f ro (.block id c) s x s' := by
  intro hc φ w ac hr hs
  obtain ⟨φ1, w1, a1, r1, r2, r3, r4, r5⟩ := h1 hc φ w ac hr hs
  refine ⟨φ1, w1, a1, r1, r2, r3, r4, fun fr k cs hf hro => ?_⟩
  have g := r5 fr (.inBlock id :: k) cs hf hro
  refine .of_steps (.one stepR_block) ?_
  cases x1 with
  | nrm =>
    simp only [codeB, Option.some.injEq, Prod.mk.injEq, and_true] at h2
    subst h2
    exact Steps.trans g (.one stepR_inBlock)
  | exit j =>
    obtain ⟨kk, e1, e2⟩ := g
    simp only [codeB] at h2
    split at h2
    · rename_i hj
      have hj : j = id := Nat.eq_of_beq_eq_true hj
      subst hj
      simp only [Option.some.injEq, Prod.mk.injEq, and_true] at h2
      subst h2
      refine Steps.trans e2 (.one (stepR_exit ?_))
      rw [e1]
      simp [exitTo]
    · rename_i hj
      simp only [Option.some.injEq, Prod.mk.injEq, and_true] at h2
      subst h2
      refine ⟨kk, e1.trans ?_, e2⟩
      have : (id == j) = false := by
        rw [beq_eq_false_iff_ne]
        intro q
        subst q
        simp at hj
      simp [exitTo, this]
  | ret =>
    simp only [codeB, Option.some.injEq, Prod.mk.injEq, and_true] at h2
    subst h2
    exact g

theorem cond_at {c : Operand} {a b : Code} {t : Bool} (ht : s.t.ev c = some (.b t)) (h : CodeAt P f ro (if t then a else b) s x s') : CodeAt P f ro (.cond c a b) s x s' := by
  intro hc φ w ac hr hs
  simp only [codeChk, Bool.and_eq_true] at hc
  have hc' : codeChk (if t then a else b) = true := by cases t; exact hc.2; exact hc.1
  obtain ⟨φ1, w1, a1, r1, r2, r3, r4, r5⟩ := h hc' φ w ac hr hs
  refine ⟨φ1, w1, a1, r1, r2, r3, r4, fun fr k cs hf hro => ?_⟩
  exact .of_steps (.one (stepR_cond (rhoOk_eval hs.1 _ _ ht).bool)) (r5 fr k cs hf hro)

theorem skip_at : CodeAt P f ro .skip s .nrm s := fun _ φ w a hr hs => ⟨φ, w, a, hr, hr.ext_refl, Nat.le_refl _, hs, fun _ _ _ _ _ => .one stepR_skip⟩
theorem label_at {l : Nat} : CodeAt P f ro (.label l) s .nrm s := fun _ φ w a hr hs => ⟨φ, w, a, hr, hr.ext_refl, Nat.le_refl _, hs, fun _ _ _ _ _ => .one stepR_label⟩
theorem exit_at {id : Nat} : CodeAt P f ro (.exit id) s (.exit id) s := fun _ φ w a hr hs => ⟨φ, w, a, hr, hr.ext_refl, Nat.le_refl _, hs, fun _ k _ _ _ => ⟨k, rfl, .refl _ _⟩⟩
theorem ret_at : CodeAt P f ro .ret s .ret s := fun _ φ w a hr hs => ⟨φ, w, a, hr, hr.ext_refl, Nat.le_refl _, hs, fun _ k _ _ _ => ⟨k, .refl _ _⟩⟩

end
end Go.Am

/-
  LOOPS OVER FUNCTIONS.
-/
namespace Go.Am

section
variable {P : Program} {E : Env} {R : Rc} {f : FuncId} {ro : Option Nat} {s s' : St} {x : Ex} {φ : Mp} {h h' : Heap} {w : World}

def lpObj (p : Lp) (tm : Array Value) (d : Nat) : Loop := ⟨p.state, p.pending, p.fn, tm, p.params, p.assign, p.body, d⟩

theorem HRel.loopAt (hr : HRel φ h w) {l : Nat} {p : Lp} (e : lpOf h l = some p) {pl : Pl} (hp : φ l 0 = some pl) :
    h.blks.get l = some (.loop p) ∧ pl.d = 0 ∧ ∃ tm d', w.heap[pl.rb]? = some (.loop (lpObj p tm d')) ∧ TmRel φ p.tmps p.n tm ∧ (codeChk p.assign = true ∧ codeChk p.body = true) ∧
      ∃ q, φ p.dfr 0 = some q ∧ d' = q.rb := by
  unfold lpOf at e
  split at e
  · rename_i p' hb
    injection e with e
    subst e
    obtain ⟨_, _, b, q1, q2⟩ := hr.at_ _ _ _ hp
    rw [hb] at q1
    injection q1 with q1
    subst q1
    obtain ⟨_, d0, tm, d', a1, a2, a3, a4⟩ := q2
    exact ⟨hb, d0, tm, d', a1, a2, a3, a4⟩
  · cases e

theorem HRel.loopPut (hr : HRel φ h w) {l : Nat} {p : Lp} (e : lpOf h l = some p) {pl : Pl} (hp : φ l 0 = some pl) {tm : Array Value} {d' : Nat}
    (hw : w.heap[pl.rb]? = some (.loop (lpObj p tm d'))) (st : LoopState) (pd : Option Code) :
    HRel φ (h.setBlk l (.loop { p with state := st, pending := pd })) (w.putObj pl.rb (.loop { lpObj p tm d' with state := st, pending := pd })) ∧
      Ext φ w φ (w.putObj pl.rb (.loop { lpObj p tm d' with state := st, pending := pd })) h.next := by
  obtain ⟨hb, d0, tm2, d2, a1, a2, a3, a4⟩ := hr.loopAt e hp
  rw [hw] at a1
  injection a1 with a1
  injection a1 with a1
  have e1 : tm2 = tm := by have := congrArg Loop.tmps a1; exact this.symm
  have e2 : d2 = d' := by have := congrArg Loop.defers a1; exact this.symm
  subst e1; subst e2
  have hlt := (hr.at_ _ _ _ hp).2.1
  refine hr.put _ hp hb rfl ⟨rfl, d0, tm2, d2, ?_, a2, a3, a4⟩ rfl
  show (w.heap.setIfInBounds pl.rb _)[pl.rb]? = _
  rw [Array.getElem?_setIfInBounds, if_pos rfl, if_pos hlt]
  rfl

/-! ### A call of the round -/
theorem zipPut_ok : ∀ {ps : List Tmp} {vs : List V} {t t' : T} {as : List Value} {tm : Array Value}, zipPut ps vs t = some t' → VRels φ vs as → TmRel φ t.m t.n tm →
    as.length = ps.length ∧ TmRel φ t'.m t'.n ((ps.zip as).foldl (fun tmps (t, a) => tmps.setIfInBounds t a) tm)
  | [], [], t, t', as, tm, e, hv, ht => by
    rw [VRels.nil_iff] at hv
    subst hv
    simp only [zipPut, Option.some.injEq] at e
    subst e
    exact ⟨rfl, ht⟩
  | d :: ps, x :: vs, t, t', as, tm, e, hv, ht => by
    rw [VRels.cons_iff] at hv
    obtain ⟨y, ys, rfl, h1, h2⟩ := hv
    simp only [zipPut] at e
    split at e
    · rename_i t2 hp
      have := (put_ok (a := ⟨tm, []⟩) ht h1 hp).1
      obtain ⟨q1, q2⟩ := zipPut_ok e h2 this
      exact ⟨by simp [q1], q2⟩
    · cases e
  | [], _ :: _, _, _, _, _, e, _, _ => by cases e
  | _ :: _, [], _, _, _, _, e, _, _ => by cases e

theorem yld_at (hR : RcOk P R) {l : Nat} {vs : List V} {v : V} (e : yldF R l vs h = some (v, h')) {as : Array Value} {pl : Pl} (hr : HRel φ h w) (hp : φ l 0 = some pl) (hv : VRels φ vs as.toList) :
    OpOk P φ h w ((Instr.yield pl.rb as).run P w) v h' := by
  unfold yldF at e
  split at e
  · cases e
  · rename_i p hl
    split at e
    · cases e
    · rename_i t ht
      obtain ⟨hb, d0, tm, d', a1, a2, a3, a4⟩ := hr.loopAt hl hp
      obtain ⟨z1, z2⟩ := zipPut_ok ht hv a2
      have hrun : (Instr.yield pl.rb as).run P w = .ok (.round pl.rb p.fn ((p.params.zip as).foldl (fun tmps (t, a) => tmps.setIfInBounds t a) tm) p.assign p.body) w :=
        run_yield (P := P) a1 (by simpa [lpObj] using z1)
      rw [hrun]
      have hz : (p.params.zip as).foldl (fun tmps (t, a) => tmps.setIfInBounds t a) tm = (p.params.toList.zip as.toList).foldl (fun tmps (t, a) => tmps.setIfInBounds t a) tm := by
        rw [← Array.foldl_toList]
        simp
      rw [hz]
      split at e
      · rename_i s1 hc1
        obtain ⟨φ1, w1, ac1, r1, r2, r3, r4, r5⟩ := hR.code _ _ _ _ _ _ hc1 a3.1 φ w ⟨_, []⟩ hr ⟨z2, rfl⟩
        split at e
        · rename_i q hq hds
          have hp1 := r2.le _ _ _ hp
          obtain ⟨hb1, _, tm1, d1, b1, b2, b3, b4⟩ := r1.loopAt hq hp1
          split at e
          · rename_i hst
            obtain ⟨c1, c2⟩ := r1.loopPut hq hp1 b1 .busy q.pending
            have hbeg : (Instr.beginRound pl.rb).run P w1 = .ok () (w1.putObj pl.rb (.loop { lpObj q tm1 d1 with state := .busy })) := run_beginRound b1 hst
            split at e
            · rename_i x s2 hc2
              obtain ⟨φ2, w2, ac2, u1, u2, u3, u4, u5⟩ := hR.code _ _ _ _ _ _ hc2 a3.2 φ1 _ ac1 c1 r4
              have hp2 := u2.le _ _ _ hp1
              split at e
              · rename_i q2 hds2 hq2
                obtain ⟨hb2, _, tm2, d2, v1, v2, v3, v4⟩ := u1.loopAt hq2 hp2
                let b : Frame := Frame.round pl.rb p.fn ((p.params.toList.zip as.toList).foldl (fun tmps (t, a) => tmps.setIfInBounds t a) tm) p.assign p.body .normal
                have pre : ∀ (c : Frame) (cs : List Frame), Steps P (lone b (c :: cs) w) (lone (b.atR ac1 [.code p.body]) (c :: cs) (w1.putObj pl.rb (.loop { lpObj q tm1 d1 with state := .busy }))) := by
                  intro c cs
                  exact Steps.trans (r5 b [.beginRound, .code p.body] (c :: cs) rfl (by intro q; cases q)) (.one (stepR_beginRound rfl hbeg))
                have ext : Ext φ w φ2 w2 h.next := r2.trans r3 (c2.trans (Nat.le_refl _) u2)
                have hle : h.next ≤ s2.h.next := Nat.le_trans r3 u3
                have fin : ∀ (jump : Option Code) (st : LoopState), st = (if jump.isNone then .ready else .done) → v = .b jump.isNone → h' = s2.h.setBlk l (.loop { q2 with state := st, pending := jump }) →
                    (∀ (c : Frame) (cs : List Frame) (w' : World), (Instr.endRound pl.rb jump).run P w2 = .ok (.bool jump.isNone) w' →
                      Steps P (lone (b.atR ac1 [.code p.body]) (c :: cs) (w1.putObj pl.rb (.loop { lpObj q tm1 d1 with state := .busy }))) (lone (c.finish (.bool jump.isNone)) cs w')) →
                    OpOk P φ h w (.ok (.round pl.rb p.fn ((p.params.toList.zip as.toList).foldl (fun tmps (t, a) => tmps.setIfInBounds t a) tm) p.assign p.body) w) v h' := by
                  intro jump st e1 e2 e3 e4
                  subst e1; subst e2; subst e3
                  obtain ⟨g1, g2⟩ := u1.loopPut hq2 hp2 v1 (if jump.isNone then .ready else .done) jump
                  refine ⟨φ2, _, .bool jump.isNone, g1, ext.trans hle g2, hle, VRel.mk_bool rfl, fun c cs => ?_⟩
                  exact Steps.trans (pre c cs) (e4 c cs _ (run_endRound (P := P) jump v1))
                split at e
                · injection e with e
                  injection e with e1 e2
                  refine fin none .ready rfl e1.symm e2.symm fun c cs w' hw' => ?_
                  exact Steps.trans (u5 b [] (c :: cs) rfl (by intro q; cases q)) (.one (stepR_round_end rfl rfl hw'))
                · injection e with e
                  injection e with e1 e2
                  refine fin (some .ret) .done rfl e1.symm e2.symm fun c cs w' hw' => ?_
                  obtain ⟨kk, g⟩ := u5 b [] (c :: cs) rfl (by intro q; cases q)
                  exact Steps.trans g (.one (stepR_round_ret rfl rfl hw'))
                · rename_i j
                  injection e with e
                  injection e with e1 e2
                  refine fin (some (.exit j)) .done rfl e1.symm e2.symm fun c cs w' hw' => ?_
                  obtain ⟨kk, g0, g⟩ := u5 b [] (c :: cs) rfl (by intro q; cases q)
                  exact Steps.trans g (.one (stepR_round_exit rfl rfl g0 hw'))
              · cases e
            · cases e
          · cases e
        · cases e
      · cases e


/-! ### The loop -/
theorem stepR_range {fr : Frame} {a : Act} {k : List Item} {cs : List Frame} {g : Operand} {ps : Array Tmp} {assign body : Code} {l : Nat} {mark : List Deferred} {w1 : World}
    (hro : fr.roundOf = none) (hr : (Instr.enterLoop fr.fn a.tmps ps assign body none).run P w = .ok (l, mark) w1) :
    (stepG P true { frame := fr.atR a (.code (.rangeFunc g ps assign body) :: k), callers := cs, status := .running, dying := none } w).bare =
      (stepG.apply P true (fr.atR ⟨a.tmps, mark ++ a.defers⟩ (.inRangeFunc l :: k)) cs none
        (do let d ← Deferred.ofValue (a.eval g) #[.func (.yield l) #[] #[]]; invoke d.target d.args) w1).bare := by
  have he : ({ fr.atR a (.code (.rangeFunc g ps assign body) :: k) with todo := .inRangeFunc l :: k, defers := mark ++ a.defers } : Frame).eval g = a.eval g := by cases g <;> rfl
  simp only [Frame.atR, hro] at he
  simp only [stepG, stepG.exec, Frame.atR, hro, Sem.runT_eq, hr, GStep.bare_after, resolve, he, List.map_toArray, List.map_cons, List.map_nil]
  rfl

theorem stepR_endRange {fr : Frame} {a : Act} {k : List Item} {cs : List Frame} {l : Nat} {jump : Option Code} {w1 : World} (hr : (Instr.endLoop l).run P w = .ok jump w1) :
    step P (lone (fr.atR a (.endRangeFunc l :: k)) cs w) = .next (lone (fr.atR a ((jump.map Item.code).toList ++ k)) cs w1) :=
  step_lone_go (by simp [stepG, stepG.exec, Frame.atR, Sem.runT_eq, hr])

theorem range_at (ok : EnvOk P E) (hR : RcOk P R) {g : Operand} {ps : Array Tmp} {assign body : Code} (e : rangeV E R f g ps assign body s = some (x, s')) : CodeAt P f none (.rangeFunc g ps assign body) s x s' := by
  intro hc φ w a hr hs
  simp only [codeChk, Bool.and_eq_true] at hc
  obtain ⟨⟨n, m⟩, ds, ⟨next, blks⟩⟩ := s
  unfold rangeV at e
  simp only at e
  split at e
  · rename_i gv nx bl hg heq
    injection heq with q1 q2
    subst q1; subst q2
    obtain ⟨hs1, hs2⟩ := hs
    -- the two blocks
    obtain ⟨a1, a2⟩ := hr.push .dfr (.deferred (some [])) 0 ⟨rfl, rfl, heap_laid_new _ _⟩ (by intro _ _ _ _ q; cases q)
    let φ1 := φ.upd next 0 ⟨w.heap.size, 0, 0⟩
    let w1 := World.laid w (.deferred (some []))
    have hsz : w1.heap.size = w.heap.size + 1 := size_laid _ _
    have hdf : φ1 next 0 = some ⟨w.heap.size, 0, 0⟩ := Mp.upd_eq _ _ _ _
    let lp : Lp := ⟨.ready, none, f, n, m, ps, assign, body, next⟩
    let lo : Loop := ⟨.ready, none, f, a.tmps, ps, assign, body, w.heap.size⟩
    let φ2 := φ1.upd (Nat.succ next) 0 ⟨w1.heap.size, 0, 0⟩
    have hle2 : φ1.le φ2 := a1.le_upd _
    obtain ⟨b1, b2⟩ := a1.push (.loop lp) (.loop lo) 0 ⟨rfl, rfl, a.tmps, w.heap.size, heap_laid_new _ _, (hs1.mono a2.le).mono hle2, hc, ⟨w.heap.size, 0, 0⟩, hle2 _ _ _ hdf, rfl⟩ (by intro _ _ _ _ q; cases q)
    let w2 := World.laid w1 (.loop lo)
    have hlp : φ2 (Nat.succ next) 0 = some ⟨w1.heap.size, 0, 0⟩ := Mp.upd_eq _ _ _ _
    have hext : Ext φ w φ2 w2 next := a2.trans (Nat.le_succ _) b2
    split at e
    · cases e
    · rename_i v3 h3 hcall
      have hgv : VRel φ2 gv (a.eval g) := ((rhoOk_eval hs1 _ _ hg).mono a2.le).mono hle2
      obtain ⟨φ3, w3, y, r1, r2, r3, r4, r5⟩ := callV_ok ok R.toCalls' hR.calls (as := #[.func (.yield w1.heap.size) #[] #[]]) b1 hgv (by
        refine VRels.cons ?_ (VRels.nil _)
        simp only [VRel, FnRel]
        exact ⟨_, #[], #[], rfl, ⟨_, hlp, rfl⟩, VRels.nil _, VRels.nil _⟩) hcall
      have hlp3 := r2.le _ _ _ hlp
      have hext3 : Ext φ w φ3 w3 next := hext.trans (by show next ≤ _; simp [Heap.newBlk]; omega) r2
      have hle3 : next ≤ h3.next := by have : next + 2 ≤ h3.next := r3; omega
      split at e
      · cases e
      · rename_i state pending fn n' m' ps' asg bd d hlo
        obtain ⟨hb, _, tm3, d3, u1, u2, u3, u4⟩ := r1.loopAt hlo hlp3
        obtain ⟨g1, g2⟩ := r1.loopPut hlo hlp3 u1 .exhausted pending
        have ent : (Instr.enterLoop f a.tmps ps assign body none).run P w = .ok (w1.heap.size, [{ target := .collected w.heap.size, args := #[] }]) w2 := by
          rw [run_enterLoop_outer, hsz]; rfl
        have fin : ∀ jump : Option Code, pending = jump → state ≠ .busy →
            ∃ φ' w' a', HRel φ' (h3.setBlk (Nat.succ next) (.loop ⟨.exhausted, pending, fn, n', m', ps', asg, bd, d⟩)) w' ∧ Ext φ w φ' w' next ∧ next ≤ h3.next ∧
              StRel φ' ⟨⟨n, m⟩, next :: ds, h3.setBlk (Nat.succ next) (.loop ⟨.exhausted, pending, fn, n', m', ps', asg, bd, d⟩)⟩ a' ∧
              ∀ (b : Frame) (k : List Item) (cs : List Frame), b.fn = f → b.roundOf = none →
                Steps P (lone (b.atR a (.code (.rangeFunc g ps assign body) :: k)) cs w) (lone (b.atR a' ((jump.map Item.code).toList ++ k)) cs w') := by
          intro jump hj hst
          subst hj
          refine ⟨φ3, _, ⟨a.tmps, { target := .collected w.heap.size, args := #[] } :: a.defers⟩, g1, hext3.trans hle3 g2, hle3, ⟨((hs1.mono a2.le).mono hle2).mono r2.le, ⟨⟨w.heap.size, 0, 0⟩, _, rfl, r2.le _ _ _ (hle2 _ _ _ hdf), ((hs2.mono a2.le).mono hle2).mono r2.le⟩⟩, fun b k cs hf hro => ?_⟩
          have ent' := ent
          rw [← hf] at ent'
          have s1 := goes_steps' r5 (by intro d r sv k' q; cases q) (stepR_range (g := g) (k := k) (cs := cs) hro ent')
          refine Steps.trans s1 (.one ?_)
          have hend := run_endLoop (P := P) u1 hst
          exact stepR_endRange (fr := b) (a := ⟨a.tmps, { target := .collected w.heap.size, args := #[] } :: a.defers⟩) (k := k) (cs := cs) hend
        split at e
        · cases e
        · rename_i hnb
          split at e
          · injection e with e
            injection e with e1 e2
            subst e1; subst e2
            obtain ⟨φ', w', a', z1, z2, z3, z4, z5⟩ := fin none rfl hnb
            exact ⟨φ', w', a', z1, z2, z3, z4, fun b k cs hf hro => z5 b k cs hf (hro rfl)⟩
          · injection e with e
            injection e with e1 e2
            subst e1; subst e2
            obtain ⟨φ', w', a', z1, z2, z3, z4, z5⟩ := fin (some .ret) rfl hnb
            exact ⟨φ', w', a', z1, z2, z3, z4, fun b k cs hf hro => ⟨k, z5 b k cs hf (hro rfl)⟩⟩
          · rename_i j
            injection e with e
            injection e with e1 e2
            subst e1; subst e2
            obtain ⟨φ', w', a', z1, z2, z3, z4, z5⟩ := fin (some (.exit j)) rfl hnb
            exact ⟨φ', w', a', z1, z2, z3, z4, fun b k cs hf hro => ⟨k, rfl, z5 b k cs hf (hro rfl)⟩⟩
          · cases e
  · cases e

end
end Go.Am

/-
  A CALL OF A FUNCTION WITH A BODY.
-/
namespace Go.Am

section
variable {P : Program} {E : Env} {R : Rc} {f : FuncId} {s s' : St} {x : Ex} {φ : Mp} {h h' : Heap} {w : World} {t : T}

/-- The marks are taken. -/
theorem drop_ok : ∀ {ds : List Nat} {h h' : Heap} {w : World} {l : List Deferred}, HRel φ h w → DsRel φ ds l → dropDs h ds = some h' →
    ∃ w', HRel φ h' w' ∧ Ext φ w φ w' h.next ∧ h.next ≤ h'.next ∧ ∀ (fr : Frame) (cs : List Frame), fr.mode = .returning → fr.defers = l →
      Steps P (lone fr cs w) (lone { fr with defers := [] } cs w')
  | [], h, h', w, l, hr, hd, e => by
    have hl : l = [] := hd
    subst hl
    simp only [dropDs, Option.some.injEq] at e
    subst e
    refine ⟨w, hr, hr.ext_refl, Nat.le_refl _, fun fr cs hm hf => ?_⟩
    have : ({ fr with defers := [] } : Frame) = fr := by rw [← hf]
    rw [this]
    exact .refl _ _
  | d :: ds, h, h', w, l, hr, hd, e => by
    obtain ⟨pl, r, rfl, p1, p2⟩ := hd
    simp only [dropDs] at e
    split at e
    · rename_i hb
      obtain ⟨_, _, b, q1, q2⟩ := hr.at_ _ _ _ p1
      rw [hb] at q1
      injection q1 with q1
      subst q1
      obtain ⟨_, d0, hw⟩ := q2
      obtain ⟨a1, a2⟩ := hr.put (b := .dead) (.deferred none) p1 hb rfl rfl rfl
      obtain ⟨w', b1, b2, b3, b4⟩ := drop_ok a1 p2 e
      refine ⟨w', b1, a2.trans (Nat.le_refl _) b2, b3, fun fr cs hm hf => ?_⟩
      have hrun := run_takeDeferred (P := P) hw
      refine .head (m₁ := lone { fr with defers := r } cs (w.putObj pl.rb (.deferred none))) ?_ ?_
      · refine step_lone_go ?_
        simp only [stepG, hm, unwind, hf, Sem.runT_eq, hrun, GStep.bare_after]
        rfl
      · have := b4 { fr with defers := r } cs hm rfl
        exact this
    · cases e

theorem loadVar_ok (ok : EnvOk P E) {ty : TypeId} {a : Ad} {ti : TI} {xs : List V} {A : Value} (hr : HRel φ h w) (hty : E.ty ty = some ti) (ha : VRel φ (.p (some a)) A)
    (e : h.loads a.f a.v a.o (loadN ti) = some xs) :
    ∃ y, (do loadVar ty (← asAddr A) : Sem Value).run P w = .ok y w ∧ VRel φ (loadV ti.agg xs) y := by
  obtain ⟨y, y1, y2⟩ := load_ok ok hr hty ha e
  refine ⟨y, ?_, y2⟩
  obtain ⟨pl, _, _, rfl⟩ := ha.ptr
  exact y1

def resS (tmps : Array Value) : ResultVar → Sem Value
  | .tmp t => pure (tmps.getD t undef)
  | .cell a t => do loadVar t (← asAddr (tmps.getD a undef))

theorem resV_ok (ok : EnvOk P E) (hr : HRel φ h w) {tmps : Array Value} (ht : TmRel φ t.m t.n tmps) : ∀ {rs : List ResultVar} {vs : List V}, resV E t h rs = some vs →
    ∃ ys : List Value, VRels φ vs ys ∧ (rs.mapM (resS tmps) : Sem (List Value)).run P w = .ok ys w
  | [], vs, e => by
    simp only [resV, Option.some.injEq] at e
    subst e
    exact ⟨[], VRels.nil φ, rfl⟩
  | r :: rs, vs, e => by
    unfold resV at e
    split at e
    · cases e
    · rename_i v hv
      split at e
      · rename_i us hus
        injection e with e
        subst e
        obtain ⟨ys, q1, q2⟩ := resV_ok ok hr ht hus
        have one : ∃ y, VRel φ v y ∧ (resS tmps r).run P w = .ok y w := by
          cases r with
          | tmp k => exact ⟨_, ht.2 k v hv, rfl⟩
          | cell a ty =>
            simp only at hv
            split at hv
            · rename_i ad ti hp hti
              have hA := ht.2 _ _ hp
              split at hv
              · rename_i hagg
                split at hv
                · rename_i l hl
                  injection hv with hv
                  subst hv
                  obtain ⟨y, y1, y2⟩ := loadVar_ok ok hr hti hA (xs := l) (by simp only [loadN, hagg]; exact hl)
                  simp only [loadV, hagg] at y2
                  exact ⟨y, y2, y1⟩
                · cases hv
              · rename_i hagg
                obtain ⟨y, y1, y2⟩ := loadVar_ok ok hr hti hA (xs := [v]) (by simp only [loadN, hagg]; exact Heap.loads_one hv)
                simp only [loadV, hagg] at y2
                exact ⟨y, y2, y1⟩
            · cases hv
        obtain ⟨y, y1, y2⟩ := one
        refine ⟨y :: ys, VRels.cons y1 q1, ?_⟩
        rw [List.mapM_cons, Sem.run_bind, y2]
        simp only [Result.andThen_ok, Sem.run_bind, q2, Sem.run_pure]
      · cases e

theorem results_ok (ok : EnvOk P E) (hr : HRel φ h w) {tmps : Array Value} (ht : TmRel φ t.m t.n tmps) {fn : Func} {vs : List V} (e : resV E t h fn.results.toList = some vs) :
    ∃ y, VRel φ (single vs) y ∧ (results fn tmps).run P w = .ok y w := by
  obtain ⟨ys, q1, q2⟩ := resV_ok ok hr ht e
  refine ⟨if h : ys.toArray.size = 1 then ys.toArray[0] else .tuple ys.toArray, ?_, ?_⟩
  · cases vs with
    | nil =>
      rw [VRels.nil_iff] at q1
      subst q1
      simp [single, VRel, VRels]
    | cons v vs =>
      rw [VRels.cons_iff] at q1
      obtain ⟨y, ys, rfl, h1, h2⟩ := q1
      cases vs with
      | nil =>
        rw [VRels.nil_iff] at h2
        subst h2
        simpa [single] using h1
      | cons u vs =>
        rw [VRels.cons_iff] at h2
        obtain ⟨y', ys, rfl, h3, h4⟩ := h2
        simp only [single, VRel]
        refine ⟨(y :: y' :: ys).toArray, by simp, VRels.cons h1 (VRels.cons h3 h4)⟩
  · have hres : results fn tmps = (do let vs ← fn.results.mapM (resS tmps); pure (if h : vs.size = 1 then vs[0] else .tuple vs)) := by
      unfold results
      have : (fun (x : ResultVar) => (match x with
        | .tmp t => pure (tmps.getD t undef)
        | .cell a t => do loadVar t (← asAddr (tmps.getD a undef)) : Sem Value)) = resS tmps := funext fun x => by cases x <;> rfl
      rw [← this]
      rfl
    rw [hres, Sem.run_bind, Array.mapM_eq_mapM_toList]
    have : (List.toArray <$> List.mapM (resS tmps) fn.results.toList : Sem (Array Value)).run P w = .ok ys.toArray w := by
      rw [← bind_pure_comp, Sem.run_bind, q2]
      rfl
    rw [this]
    rfl


theorem layT_get : ∀ (l : List V) (k : Nat) (m : Tr V) (j : Nat), (layT k l m).get j = if k ≤ j ∧ j < k + l.length then l[j - k]? else m.get j
  | [], k, m, j => by simp [layT]; omega
  | x :: xs, k, m, j => by
    rw [layT, layT_get]
    by_cases h1 : j = k
    · subst h1
      rw [if_neg (by omega), if_pos (by simp), Tr.get_set_eq]
      simp
    · rw [Tr.get_set_ne _ _ h1]
      by_cases h2 : k + 1 ≤ j ∧ j < k + 1 + xs.length
      · rw [if_pos h2, if_pos (by simp only [List.length_cons]; omega), show j - k = (j - (k + 1)) + 1 from by omega]
        simp
      · rw [if_neg h2, if_neg (by simp only [List.length_cons]; omega)]

/-- A call of a function with a body: its frame goes to where it is left. -/
theorem call_at (ok : EnvOk P E) (hR : RcOk P R) {vs : List V} {v : V} {fi : FI} (hfi : E.fn f = some fi) (e : callF E R f vs h = some (v, h')) {as : Array Value} (hr : HRel φ h w) (hv : VRels φ vs as.toList) :
    ∃ φ' w' y, HRel φ' h' w' ∧ Ext φ w φ' w' h.next ∧ h.next ≤ h'.next ∧ VRel φ' v y ∧
      ∀ cs, ∃ fr, Steps P (lone (Frame.enter P f as .normal) cs w) (lone fr cs w') ∧ fr.fn = f ∧ fr.leaving P w' (.returned y) := by
  obtain ⟨g, g1, g2⟩ := ok.fn _ _ hfi
  unfold fiOf at g2
  split at g2
  · cases g2
  · rename_i body hbody
    split at g2
    · cases g2
    · rename_i hname
      split at g2
      · cases g2
      · rename_i hchk
        injection g2 with g2
        subst g2
        unfold callF at e
        rw [hfi] at e
        simp only at e
        have hlen : as.size = vs.length := by have := hv.length; simpa using this
        let tm : Array Value := as ++ Array.replicate (g.ntmps - as.size) undef
        have htm : TmRel φ (layT 0 vs .nil) (Nat.max vs.length g.ntmps) tm := by
          refine ⟨?_, fun k x hx => ?_⟩
          · simp only [tm, Array.size_append, Array.size_replicate, hlen]
            show vs.length + (g.ntmps - vs.length) = max vs.length g.ntmps
            omega
          · rw [layT_get] at hx
            split at hx
            · rename_i hk
              obtain ⟨y, y1, y2⟩ := hv.get _ _ hx
              have hy : as[k]? = some y := by simpa using y1
              have : tm.getD k undef = y := by
                simp only [tm, Array.getD_eq_getD_getElem?]
                rw [Array.getElem?_append_left (by omega), hy]
                rfl
              rw [this]; exact y2
            · cases hx
        have henter : Frame.enter P f as .normal = (Frame.enter P f as .normal).atR ⟨tm, []⟩ [.code body] := by
          simp only [Frame.enter, Frame.atR, g1, Option.map_some, Option.getD_some, Option.bind_some, hbody, tm]
        split at e
        · cases e
        · rename_i x0 s' hx0 hc
          obtain ⟨φ1, w1, a1, r1, r2, r3, r4, r5⟩ := hR.code _ _ _ _ _ _ hc hchk φ w ⟨tm, []⟩ hr ⟨htm, rfl⟩
          split at e
          · cases e
          · rename_i h2 hdrop
            split at e
            · rename_i us hus
              injection e with e
              injection e with e1 e2
              subst e1; subst e2
              obtain ⟨w2, d1, d2, d3, d4⟩ := drop_ok (P := P) r1 r4.2 hdrop
              obtain ⟨y, y1, y2⟩ := results_ok ok d1 r4.1 hus
              refine ⟨φ1, w2, y, d1, r2.trans r3 d2, Nat.le_trans r3 d3, y1, fun cs => ?_⟩
              have o := r5 (Frame.enter P f as .normal) [] cs rfl (fun _ => rfl)
              rw [← henter] at o
              have leave : ∃ fr : Frame, Steps P (lone (Frame.enter P f as .normal) cs w) (lone fr cs w1) ∧ fr.fn = f ∧ fr.mode = .returning ∧ fr.defers = a1.defers ∧ fr.kind = .normal ∧ fr.tmps = a1.tmps := by
                cases x0 with
                | nrm => exact ⟨_, Steps.trans o (.one (stepR_end rfl)), rfl, rfl, rfl, rfl, rfl⟩
                | ret =>
                  obtain ⟨kk, o⟩ := o
                  exact ⟨_, Steps.trans o (.one (stepR_ret rfl)), rfl, rfl, rfl, rfl, rfl⟩
                | exit j => exact (hx0 _ rfl).elim
              obtain ⟨fr, l1, l2, l3, l4, l5, l6⟩ := leave
              refine ⟨_, l1.trans (d4 fr cs l3 l4), l2, ?_⟩
              refine ⟨l3, rfl, l5, g, ?_, ?_⟩
              · rw [← l2] at g1; exact g1
              · show (results g fr.tmps).run P w2 = _
                rw [l6]; exact y2
            · cases e
        · cases e

theorem callFunc_ok (ok : EnvOk P E) (hR : RcOk P R) {vs : List V} {v : V} (e : callF E R f vs h = some (v, h')) {as : Array Value} (hr : HRel φ h w) (hv : VRels φ vs as.toList) :
    OpOk P φ h w ((callFunc f as).run P w) v h' := by
  cases hfi : E.fn f with
  | none => unfold callF at e; rw [hfi] at e; cases e
  | some fi =>
    obtain ⟨φ', w', y, r1, r2, r3, r4, r5⟩ := call_at ok hR hfi e hr hv
    refine ⟨φ', w', y, r1, r2, r3, r4, ?_⟩
    obtain ⟨g, g1, g2⟩ := ok.fn _ _ hfi
    unfold fiOf at g2
    split at g2
    · cases g2
    · rename_i body hbody
      split at g2
      · cases g2
      · rename_i hname
        have hrun : (callFunc f as).run P w = .ok (.enter f as) w := by
          simp only [callFunc, Sem.run_bind, run_program, Result.andThen_ok, g1, hname, hbody, Option.isNone_some, Bool.false_eq_true, if_false, Sem.run_pure]
        rw [hrun]
        exact fun cs => let ⟨fr, a, _, c⟩ := r5 cs; ⟨fr, a, c⟩

end
end Go.Am

/-
  THE PROGRAM's OWN ENVIRONMENT.
-/
namespace Go.Am

theorem treeOf_get {α : Type} : ∀ (l : List α) (n : Nat) (t : Tr α) (m : Nat), (treeOf l n t).get m = if n ≤ m ∧ m < n + l.length then l[m - n]? else t.get m
  | [], n, t, m => by simp [treeOf]; omega
  | x :: xs, n, t, m => by
    rw [treeOf, treeOf_get]
    by_cases h1 : m = n
    · subst h1
      rw [if_neg (by omega), if_pos (by simp), Tr.get_set_eq]
      simp
    · rw [Tr.get_set_ne _ _ h1]
      by_cases h2 : Nat.succ n ≤ m ∧ m < Nat.succ n + xs.length
      · rw [if_pos h2, if_pos (by simp only [List.length_cons]; omega), show m - n = (m - Nat.succ n) + 1 from by omega]
        simp
      · rw [if_neg h2, if_neg (by simp only [List.length_cons]; omega)]

theorem treeOf_nil {α : Type} (l : List α) (m : Nat) : (treeOf l 0 .nil).get m = l[m]? := by
  rw [treeOf_get]
  by_cases h : m < l.length
  · rw [if_pos (by omega)]; rfl
  · rw [if_neg (by omega), List.getElem?_eq_none (by omega)]; rfl

theorem askTr_get {α : Type} {f : Nat → Option α} : ∀ (d a s n : Nat) (x : α), (askTr f d a s).get n = some x → f (a + s * n) = some x
  | 0, _, _, _, _, e => by cases e
  | d + 1, a, s, n, x, e => by
    rw [askTr] at e
    cases n with
    | zero => rw [Nat.mul_zero, Nat.add_zero]; exact e
    | succ k =>
      rcases mod2 k with h | h
      · rw [Tr.get_odd _ _ _ _ h] at e
        have := askTr_get d _ _ _ _ e
        have hk : k = 2 * (k / 2) := by omega
        rw [show a + s * (k + 1) = a + s + 2 * s * (k / 2) from by
          rw [Nat.mul_add, Nat.mul_one]
          have : s * k = 2 * s * (k / 2) := by rw [Nat.mul_comm 2 s, Nat.mul_assoc, ← hk]
          omega]
        exact this
      · rw [Tr.get_even _ _ _ _ h] at e
        have := askTr_get d _ _ _ _ e
        have hk : k = 2 * (k / 2) + 1 := by omega
        rw [show a + s * (k + 1) = a + 2 * s + 2 * s * (k / 2) from by
          have h1 : s * (k + 1) = s * (2 * (k / 2) + 2) := congrArg (s * ·) (by omega)
          rw [h1, Nat.mul_add, Nat.mul_comm 2 s, ← Nat.mul_assoc]
          omega]
        exact this

theorem infGet_eq (P : Program) : infGet P = P.info? := by
  funext t
  unfold infGet
  split
  · rename_i i hi
    unfold infTr at hi
    rw [treeOf_nil] at hi
    have hi' : P.types[t]? = some i := by simpa using hi
    have hlt : t < P.types.size := (Array.getElem?_eq_some_iff.1 hi').1
    have : P.info? t = P.types[t]? := by
      show (if t < P.types.size then P.types[t]? else _) = _
      rw [if_pos hlt]
    rw [this, hi']
  · rfl

theorem envOf_ok (P : Program) : EnvOk P (envOf P) := by
  refine ⟨fun t ti e => ?_, fun f fi e => ?_, fun t n f e => ?_⟩
  · have h := askTr_get 10 0 1 t ti e
    rw [Nat.zero_add, Nat.one_mul, infGet_eq] at h
    unfold tyOf at h
    split at h
    · cases h
    · rename_i i hi
      split at h
      · cases h
      · rename_i d hd
        injection h with h
        rw [undOf_info] at hd
        exact ⟨i, d, hi, hd, h.symm⟩
  · have h := askTr_get (f := fun n => match (funTr P).get n with | none => none | some f => fiOf f) 10 0 1 f fi e
    rw [Nat.zero_add, Nat.one_mul] at h
    split at h
    · cases h
    · rename_i g hg
      unfold funTr at hg
      rw [treeOf_nil] at hg
      exact ⟨g, by simpa using hg, h⟩
  · have h : mthOf (infGet P) t n = some f := e
    rw [infGet_eq] at h
    exact h

end Go.Am

