/-
  MAPS AND RANGES.
-/
import Derived.Test.YtdohdcfmcmncfaaGreatDoorAmE
import Derived.Laws.StructEq
namespace Go.Am

section
variable {P : Program} {E : Env} {φ : Mp} {t : T} {h h' : Heap} {ρ : Operand → Value} {v : V} {w : World}

theorem EntRel.get : ∀ {es : List (V × V × Nat)} {l : List MapEntry}, EntRel φ es l → ∀ (k : Nat) (a b : V) (c : Nat), es[k]? = some (a, b, c) →
    ∃ e, l[k]? = some e ∧ VRel φ a e.key ∧ VRel φ b e.val ∧ e.born = c
  | [], _, _, k, a, b, c, h => by simp at h
  | (a0, b0, c0) :: es, _, r, k, a, b, c, h => by
    obtain ⟨e, l, rfl, r1, r2, r3, r4⟩ := r
    cases k with
    | zero =>
      simp at h
      obtain ⟨rfl, rfl, rfl⟩ := h
      exact ⟨e, by simp, r1, r2, r3⟩
    | succ k => simpa using r4.get k a b c (by simpa using h)

theorem EntRel.push {k x : V} {c : Nat} {e : MapEntry} (hk : VRel φ k e.key) (hx : VRel φ x e.val) (hc : e.born = c) :
    ∀ {es : List (V × V × Nat)} {l : List MapEntry}, EntRel φ es l → EntRel φ (es ++ [(k, x, c)]) (l ++ [e])
  | [], _, r => by
    have : _ = [] := r
    subst this
    exact ⟨e, [], rfl, hk, hx, hc, rfl⟩
  | (a0, b0, c0) :: es, _, r => by
    obtain ⟨e', l, rfl, r1, r2, r3, r4⟩ := r
    exact ⟨e', l ++ [e], rfl, r1, r2, r3, EntRel.push hk hx hc r4⟩

theorem EntRel.setAt {f : V × V × Nat → V × V × Nat} {g : MapEntry → MapEntry}
    (hf : ∀ a b c e, VRel φ a e.key → VRel φ b e.val → e.born = c → VRel φ (f (a, b, c)).1 (g e).key ∧ VRel φ (f (a, b, c)).2.1 (g e).val ∧ (g e).born = (f (a, b, c)).2.2) :
    ∀ {es : List (V × V × Nat)} {l : List MapEntry} (i : Nat), EntRel φ es l → EntRel φ (Am.setAt f es i) (l.modify i g)
  | [], _, i, r => by
    have : _ = [] := r
    subst this
    simp [Am.setAt, EntRel]
  | (a0, b0, c0) :: es, _, i, r => by
    obtain ⟨e', l, rfl, r1, r2, r3, r4⟩ := r
    cases i with
    | zero =>
      obtain ⟨q1, q2, q3⟩ := hf _ _ _ _ r1 r2 r3
      simp only [Am.setAt, List.modify_zero_cons]
      exact ⟨g e', l, rfl, q1, q2, q3, r4⟩
    | succ i =>
      simp only [Am.setAt, List.modify_succ_cons]
      exact ⟨e', _, rfl, r1, r2, r3, EntRel.setAt hf i r4⟩

theorem sameK_ok {inf : Nat → Option TypeInfo} {d : TypeDesc} {kd : TK} (hd : tkOf inf d = kd) {k x : V} {K X : Value} {r : Bool} (hk : VRel φ k K) (hx : VRel φ x X) (e : sameK kd k x = some r) :
    Instr.sameNow d K X = some r ∧ (r = true → X = K ∧ Instr.sameBits 10000 X K = true) := by
  unfold sameK at e
  split at e
  · have := tk_int hd; subst this
    split at e
    · rename_i hj
      have := kindEq_eq hj; subst this
      injection e with e
      subst e
      have := hk.int; subst this
      have := hx.int; subst this
      simp only [Instr.sameNow, intEq_eq]
      refine ⟨rfl, fun q => ?_⟩
      have := eq_of_beq q
      subst this
      exact ⟨rfl, by simp [Instr.sameBits]⟩
    · cases e
  · have := tk_string hd; subst this
    injection e with e
    subst e
    obtain ⟨s, rfl, rfl⟩ := hk.str
    obtain ⟨s', rfl, rfl⟩ := hx.str
    rw [bytesEq_eq]
    refine ⟨?_, fun q => ?_⟩
    · simp only [Instr.sameNow, beq_toListBytes, toList_data]
    · have q := eq_of_beq q
      have : s = s' := by cases s; cases s'; congr 1; exact Array.ext' q
      subst this
      exact ⟨rfl, by simp [Instr.sameBits, beq_toListBytes]⟩
  · have := tk_bool hd; subst this
    injection e with e
    subst e
    have := hk.bool; subst this
    have := hx.bool; subst this
    rw [boolEq_eq]
    refine ⟨rfl, fun q => ?_⟩
    have := eq_of_beq q
    subst this
    exact ⟨rfl, by simp [Instr.sameBits]⟩
  · cases e

def FindOk (φ : Mp) (d : TypeDesc) (K : Value) (l : List MapEntry) (i : Nat) : Option (Nat × V) → Prop
  | none => Instr.findNow d K l i = some none
  | some (j, v) => ∃ e, i ≤ j ∧ l[j - i]? = some e ∧ Instr.findNow d K l i = some (some (j, e.val)) ∧ VRel φ v e.val ∧ e.key = K ∧ Instr.sameBits 10000 e.key K = true

theorem findK_ok {inf : Nat → Option TypeInfo} {d : TypeDesc} {kd : TK} (hd : tkOf inf d = kd) {k : V} {K : Value} (hk : VRel φ k K) :
    ∀ {es : List (V × V × Nat)} {l : List MapEntry} (i : Nat) (r : Option (Nat × V)), EntRel φ es l → findK kd k es i = some r → FindOk φ d K l i r
  | [], _, i, r, hes, e => by
    have : _ = [] := hes
    subst this
    simp only [findK, Option.some.injEq] at e
    subst e
    rfl
  | (a0, b0, c0) :: es, _, i, r, hes, e => by
    obtain ⟨e', l, rfl, r1, r2, r3, r4⟩ := hes
    simp only [findK] at e
    split at e
    · rename_i hs
      injection e with e
      subst e
      obtain ⟨q1, q2⟩ := sameK_ok hd hk r1 hs
      refine ⟨e', Nat.le_refl _, by simp, ?_, r2, q2 rfl⟩
      simp only [Instr.findNow, q1]
    · rename_i hs
      obtain ⟨q1, _⟩ := sameK_ok hd hk r1 hs
      have := findK_ok hd hk (i + 1) r r4 e
      cases r with
      | none =>
        simp only [FindOk] at this ⊢
        simp only [Instr.findNow, q1, this]
      | some p =>
        obtain ⟨j, v⟩ := p
        obtain ⟨e2, p1, p2, p3, p4, p5⟩ := this
        refine ⟨e2, by omega, ?_, ?_, p4, p5⟩
        · rw [show j - i = (j - (i + 1)) + 1 from by omega]; simpa using p2
        · simp only [Instr.findNow, q1, p3]
    · cases e

theorem EnvOk.key (ok : EnvOk P E) {kt : TypeId} {kd : TK} (h : keyKind E kt = some kd) :
    ∃ d, P.underlying kt = some d ∧ tkOf P.info? d = kd ∧ ∀ (b : Bool) (K : Value) (w : World), (Instr.checkKey b 10000 kt K).run P w = .ok () w := by
  unfold keyKind at h
  split at h
  · rename_i ti hty
    obtain ⟨I, d, i1, i2, i3, _⟩ := ok.kind hty
    refine ⟨d, i2, ?_⟩
    split at h
    · rename_i k hk
      injection h with h
      subst h
      rw [hk] at i3
      refine ⟨i3, fun b K w => ?_⟩
      have := tk_int i3; subst this
      unfold Instr.checkKey
      simp only [Sem.run_bind, r_und i2, Result.andThen_ok]
      rfl
    · rename_i hk
      injection h with h
      subst h
      rw [hk] at i3
      refine ⟨i3, fun b K w => ?_⟩
      have := tk_string i3; subst this
      unfold Instr.checkKey
      simp only [Sem.run_bind, r_und i2, Result.andThen_ok]
      rfl
    · rename_i hk
      injection h with h
      subst h
      rw [hk] at i3
      refine ⟨i3, fun b K w => ?_⟩
      have := tk_bool i3; subst this
      unfold Instr.checkKey
      simp only [Sem.run_bind, r_und i2, Result.andThen_ok]
      rfl
    · cases h
  · cases h

theorem r_findKey {kt : TypeId} {d : TypeDesc} {K : Value} {l : List MapEntry} {r : Option (Nat × Value)} (w : World) (hd : P.underlying kt = some d) (h : Instr.findNow d K l 0 = some r) :
    (Instr.findKey kt K l).run P w = .ok r w := by
  simp only [Instr.findKey, Sem.run_bind, r_und hd, Result.andThen_ok, h, Sem.run_pure]

theorem zeroV_ok (ok : EnvOk P E) {e : TypeId} {z : V} (h : zeroV E e = some z) : ∃ y, (∀ w, (zeroValue e).run P w = .ok y w) ∧ ∀ φ, VRel φ z y := by
  unfold zeroV at h
  split at h
  · rename_i ti hty
    split at h
    · rename_i l hz
      obtain ⟨I', y, v, z1, z2, z3, rfl, z4⟩ := ok.zero2 hty hz
      refine ⟨y, fun w => r_zero z1 z2, fun ψ => ?_⟩
      have hy := (ofVal_rel (φ := ψ) z3).1
      split at h
      · rename_i ha
        rw [ha] at z4
        injection h with h
        subst h
        cases v <;> first
          | exact hy
          | (simp [V.one] at z4; done)
          | skip
        · unfold ofVal at z3
          split at z3
          · split at z3
            · cases z3
            · cases z3
          · unfold ofAtom at z3
            split at z3 <;> cases z3
      · rename_i ha
        rw [ha] at z4
        split at h
        · rename_i x hx
          injection h with h
          subst h
          cases v <;> simp_all [V.one, V.cells]
        · cases h
    · cases h
  · cases h


/-! ### Maps -/
theorem run_getObj_at {r : Nat} {o : Obj} (h : w.heap[r]? = some o) (hc : ∀ c e f, o ≠ .cells c e f) : (getObj r).run P w = .ok o w := by
  cases o <;> first | (simp [getObj, Sem.run, h]; done) | exact (hc _ _ _ rfl).elim

theorem opLookup_ok (ok : EnvOk P E) (hr : HRel φ h w) {ty : TypeId} {x ix : Operand} {c : Bool} (r : RhoOk φ t ρ) (e : opLookup E ty x ix c t h = some (v, h')) :
    MemOk P φ h w (do pure (.value (← Instr.lookup ty (ρ x) (ρ ix) c))) v h' := by
  unfold opLookup at e
  split at e
  · rename_i m k hm hk
    have hM := r _ _ hm
    have hK := r _ _ hk
    split at e
    · rename_i u hu
      injection e with e
      injection e with e1 e2
      subst e1; subst e2
      unfold lookupV at hu
      split at hu
      · rename_i kt et _ _ _ _ _ hty
        obtain ⟨I, D, i1, i2, i3, _⟩ := ok.kind hty
        have := tk_map i3; subst this
        split at hu
        · rename_i kd es hkd hes
          obtain ⟨d, d1, d2, d3⟩ := ok.key hkd
          have fin : ∀ (es' : Array MapEntry), EntRel φ es es'.toList →
              ∃ y, VRel φ u y ∧ ((∃ j u', Instr.findNow d (ρ ix) es'.toList 0 = some (some (j, u')) ∧ y = if c then .tuple #[u', .bool true] else u') ∨
                (∃ z, Instr.findNow d (ρ ix) es'.toList 0 = some none ∧ (zeroValue et).run P w = .ok z w ∧ y = if c then .tuple #[z, .bool false] else z)) := by
            intro es' q1
            split at hu
            · cases hu
            · rename_i i u hf
              obtain ⟨e', p1, p2, p3, p4, p5, p6⟩ := findK_ok d2 hK 0 _ q1 hf
              injection hu with hu
              refine ⟨if c then .tuple #[e'.val, .bool true] else e'.val, ?_, .inl ⟨_, _, p3, rfl⟩⟩
              subst hu
              cases c
              · exact p4
              · simp only [if_true, VRel]; exact ⟨_, rfl, VRels.cons p4 (VRels.cons (VRel.mk_bool rfl) (VRels.nil _))⟩
            · rename_i hf
              have p3 : Instr.findNow d (ρ ix) es'.toList 0 = some none := findK_ok d2 hK 0 _ q1 hf
              split at hu
              · cases hu
              · rename_i z hz
                obtain ⟨y, y1, y2⟩ := zeroV_ok ok hz
                injection hu with hu
                refine ⟨if c then .tuple #[y, .bool false] else y, ?_, .inr ⟨_, p3, y1 w, rfl⟩⟩
                subst hu
                cases c
                · exact y2 _
                · simp only [if_true, VRel]; exact ⟨_, rfl, VRels.cons (y2 _) (VRels.cons (VRel.mk_bool rfl) (VRels.nil _))⟩
          unfold entsOf at hes
          split at hes
          · injection hes with hes
            subst hes
            simp only [VRel] at hM
            obtain ⟨y, f1, f2⟩ := fin #[] rfl
            refine ⟨φ, w, hr, hr.ext_refl, Nat.le_refl _, .inl ⟨y, ?_, f1⟩⟩
            rcases f2 with ⟨j, u', g1, rfl⟩ | ⟨z, g1, g2, rfl⟩
            · simp only [Instr.lookup, Sem.run_bind, r_und i2, Result.andThen_ok, hM, Sem.run_pure, d3, r_findKey w d1 g1]
            · simp only [Instr.lookup, Sem.run_bind, r_und i2, Result.andThen_ok, hM, Sem.run_pure, d3, r_findKey w d1 g1, g2]
          · rename_i m
            split at hes
            · rename_i es2 clk hmo
              injection hes with hes
              subst hes
              simp only [VRel] at hM
              obtain ⟨pl, p1, p2⟩ := hM
              obtain ⟨g1, g2, es', g3, g4⟩ := hr.mapAt hmo p1
              obtain ⟨y, f1, f2⟩ := fin es' g4
              refine ⟨φ, w, hr, hr.ext_refl, Nat.le_refl _, .inl ⟨y, ?_, f1⟩⟩
              rcases f2 with ⟨j, u', g1, rfl⟩ | ⟨z, g1, g2, rfl⟩
              · simp only [Instr.lookup, Sem.run_bind, r_und i2, Result.andThen_ok, p2, run_getObj_at g3 (by intro _ _ _ q; cases q), Sem.run_pure, d3, r_findKey w d1 g1]
              · simp only [Instr.lookup, Sem.run_bind, r_und i2, Result.andThen_ok, p2, run_getObj_at g3 (by intro _ _ _ q; cases q), Sem.run_pure, d3, r_findKey w d1 g1, g2]
            · cases hes
          · cases hes
        · cases hu
      · cases hu
    · cases e
  · cases e

theorem opMapUpdate_ok (ok : EnvOk P E) (hr : HRel φ h w) {ty : TypeId} {m k x : Operand} (r : RhoOk φ t ρ) (e : opMapUpdate E ty m k x t h = some (v, h')) :
    MemOk P φ h w (do Instr.mapUpdate ty (ρ m) (ρ k) (ρ x); pure .skip) v h' := by
  unfold opMapUpdate at e
  split at e
  · rename_i mv kv xv hm hk hx
    have hM := r _ _ hm
    have hK := r _ _ hk
    have hX := r _ _ hx
    split at e
    · rename_i h2 hp
      injection e with e
      injection e with e1 e2
      subst e1; subst e2
      unfold mapPut at hp
      split at hp
      · rename_i kt et _ _ _ _ _ mr hty
        obtain ⟨I, D, i1, i2, i3, _⟩ := ok.kind hty
        have := tk_map i3; subst this
        split at hp
        · rename_i kd es c hkd hmo
          obtain ⟨d, d1, d2, d3⟩ := ok.key hkd
          simp only [VRel] at hM
          obtain ⟨pl, p1, p2⟩ := hM
          obtain ⟨g1, g2, es', g3, g4⟩ := hr.mapAt hmo p1
          split at hp
          · cases hp
          · rename_i i u hf
            injection hp with hp
            subst hp
            obtain ⟨e', q1, q2, q3, q4, q5, q6⟩ := findK_ok d2 hK 0 _ g4 hf
            obtain ⟨a1, a2⟩ := hr.mapPut hmo p1 (c2 := c) (es2' := es'.modify i fun e => { e with key := ρ k, val := ρ x }) (es2 := setAt (fun e => (kv, xv, e.2.2)) es i) (by
              rw [Array.toList_modify]
              exact EntRel.setAt (fun a b c e' r1 r2 r3 => ⟨hK, hX, r3⟩) i g4)
            refine ⟨φ, _, a1, a2, Nat.le_refl _, .inr ⟨?_, rfl⟩⟩
            have hkey : ((es'[i]?).map (·.key)).getD (ρ k) = e'.key := by
              have : es'[i]? = some e' := by simpa using q2
              rw [this]; rfl
            simp only [Instr.mapUpdate, Sem.run_bind, r_und i2, Result.andThen_ok, p2, run_getObj_at g3 (by intro _ _ _ q; cases q), d3, r_findKey w d1 q3, hkey, Instr.keyThatStays, q6, if_true, Sem.run_pure]
            simp [setObj, Sem.run, g3]
          · rename_i hf
            injection hp with hp
            subst hp
            have q3 : Instr.findNow d (ρ k) es'.toList 0 = some none := findK_ok d2 hK 0 _ g4 hf
            obtain ⟨a1, a2⟩ := hr.mapPut hmo p1 (c2 := c + 1) (es2' := es'.push { key := ρ k, val := ρ x, born := c }) (es2 := es ++ [(kv, xv, c)]) (by
              rw [Array.toList_push]
              exact EntRel.push (e := { key := ρ k, val := ρ x, born := c }) hK hX rfl g4)
            refine ⟨φ, _, a1, a2, Nat.le_refl _, .inr ⟨?_, rfl⟩⟩
            simp only [Instr.mapUpdate, Sem.run_bind, r_und i2, Result.andThen_ok, p2, run_getObj_at g3 (by intro _ _ _ q; cases q), d3, r_findKey w d1 q3]
            simp [setObj, Sem.run, g3]
        · cases hp
      · cases hp
    · cases e
  · cases e

theorem VRel.pair {a b : V} {A B : Value} (x : VRel φ a A) (y : VRel φ b B) : VRel φ (.tup [a, b]) (.tuple #[A, B]) := by
  simp only [VRel]; exact ⟨_, rfl, VRels.cons x (VRels.cons y (VRels.nil _))⟩

theorem opMapEntry_ok (ok : EnvOk P E) (hr : HRel φ h w) {ty : TypeId} {m k : Operand} (r : RhoOk φ t ρ) (e : opMapEntry E ty m k t h = some (v, h')) :
    MemOk P φ h w (do pure (.value (← Instr.mapEntry ty (ρ m) (ρ k)))) v h' := by
  unfold opMapEntry at e
  split at e
  · rename_i mv kv hm hk
    have hM := r _ _ hm
    have hK := r _ _ hk
    unfold mapEnt at e
    split at e
    · rename_i kt et _ _ _ _ _ mr hty
      obtain ⟨I, D, i1, i2, i3, _⟩ := ok.kind hty
      have := tk_map i3; subst this
      split at e
      · rename_i kd es c hkd hmo
        obtain ⟨d, d1, d2, d3⟩ := ok.key hkd
        simp only [VRel] at hM
        obtain ⟨pl, p1, p2⟩ := hM
        obtain ⟨g1, g2, es', g3, g4⟩ := hr.mapAt hmo p1
        split at e
        · cases e
        · rename_i i u hf
          split at e
          · rename_i k0 x0 b0 hat
            injection e with e
            injection e with e1 e2
            subst e1; subst e2
            obtain ⟨e', q1, q2, q3, q4, q5, q6⟩ := findK_ok d2 hK 0 _ g4 hf
            rw [at?_eq] at hat
            obtain ⟨e2, s1, s2, s3, s4⟩ := g4.get _ _ _ _ hat
            have he : es'[i]? = some e' := by simpa using q2
            have he2 : e2 = e' := by
              have : es'[i]? = some e2 := by simpa using s1
              rw [he] at this; injection this with this; exact this.symm
            subst he2
            obtain ⟨a1, a2⟩ := hr.mapPut hmo p1 (c2 := c) (es2' := es'.modify i fun e => { e with key := ρ k }) (es2 := setAt (fun e => (kv, e.2.1, e.2.2)) es i) (by
              rw [Array.toList_modify]
              exact EntRel.setAt (fun a b c e' r1 r2 r3 => ⟨hK, r2, r3⟩) i g4)
            refine ⟨φ, _, a1, a2, Nat.le_refl _, .inl ⟨.tuple #[e2.val, goInt b0], ?_, VRel.pair q4 (VRel.mk_int rfl)⟩⟩
            have hkey : ((es'[i]?).map (·.key)).getD (ρ k) = e2.key := by rw [he]; rfl
            simp only [Instr.mapEntry, Sem.run_bind, r_und i2, Result.andThen_ok, p2, run_getObj_at g3 (by intro _ _ _ q; cases q), d3, r_findKey w d1 q3, hkey, Instr.keyThatStays, q6, if_true, Sem.run_pure]
            simp [setObj, Sem.run, g3, he, s4]
          · cases e
        · rename_i hf
          split at e
          · rename_i z hz
            obtain ⟨y, y1, y2⟩ := zeroV_ok ok hz
            injection e with e
            injection e with e1 e2
            subst e1; subst e2
            have q3 : Instr.findNow d (ρ k) es'.toList 0 = some none := findK_ok d2 hK 0 _ g4 hf
            obtain ⟨a1, a2⟩ := hr.mapPut hmo p1 (c2 := c + 1) (es2' := es'.push { key := ρ k, val := y, born := c }) (es2 := es ++ [(kv, z, c)]) (by
              rw [Array.toList_push]
              exact EntRel.push (e := { key := ρ k, val := y, born := c }) hK (y2 _) rfl g4)
            refine ⟨φ, _, a1, a2, Nat.le_refl _, .inl ⟨.tuple #[y, goInt c], ?_, VRel.pair (y2 _) (VRel.mk_int rfl)⟩⟩
            simp only [Instr.mapEntry, Sem.run_bind, r_und i2, Result.andThen_ok, p2, run_getObj_at g3 (by intro _ _ _ q; cases q), d3, r_findKey w d1 q3, y1]
            simp [setObj, Sem.run, g3]
          · cases e
      · cases e
    · cases e
  · cases e

theorem bornAt_ok {n : Nat} : ∀ {es : List (V × V × Nat)} {l : List MapEntry} (i : Nat) (j : Nat), EntRel φ es l → bornAt n es i = some j →
    i ≤ j ∧ l.findIdx? (fun e => (e.born : Int) == Int.ofNat n) = some (j - i)
  | [], _, i, j, r, e => by cases e
  | (a0, b0, c0) :: es, _, i, j, r, e => by
    obtain ⟨e', l, rfl, r1, r2, r3, r4⟩ := r
    simp only [bornAt] at e
    rw [List.findIdx?_cons]
    split at e
    · rename_i hb
      have hb : c0 = n := Nat.eq_of_beq_eq_true hb
      injection e with e
      subst e
      refine ⟨Nat.le_refl _, ?_⟩
      rw [if_pos (by rw [r3, hb]; simp)]
      simp
    · rename_i hb
      obtain ⟨q1, q2⟩ := bornAt_ok (i + 1) j r4 e
      refine ⟨by omega, ?_⟩
      rw [if_neg (by
        intro hh
        have h1 := eq_of_beq hh
        rw [r3] at h1
        have h2 : c0 = n := Int.ofNat.inj h1
        subst h2
        simp at hb), q2]
      simp
      omega

theorem opEntryStore_ok (hr : HRel φ h w) {ty : TypeId} {m s x : Operand} (r : RhoOk φ t ρ) (e : opEntryStore m s x t h = some (v, h')) :
    MemOk P φ h w (do Instr.entryStore ty (ρ m) (ρ s) (ρ x); pure .skip) v h' := by
  unfold opEntryStore at e
  split at e
  · rename_i mv sv xv hm hs hx
    have hM := r _ _ hm
    have hS := r _ _ hs
    have hX := r _ _ hx
    split at e
    · rename_i h2 hp
      injection e with e
      injection e with e1 e2
      subst e1; subst e2
      unfold entSet at hp
      split at hp
      · rename_i mr kk n
        split at hp
        · rename_i es c hmo
          simp only [VRel] at hM
          obtain ⟨pl, p1, p2⟩ := hM
          obtain ⟨g1, g2, es', g3, g4⟩ := hr.mapAt hmo p1
          split at hp
          · rename_i i hb
            injection hp with hp
            subst hp
            obtain ⟨_, q⟩ := bornAt_ok 0 _ g4 hb
            have hi := hS.int
            obtain ⟨a1, a2⟩ := hr.mapPut hmo p1 (c2 := c) (es2' := es'.modify i fun e => { e with val := ρ x }) (es2 := setAt (fun e => (e.1, xv, e.2.2)) es i) (by
              rw [Array.toList_modify]
              exact EntRel.setAt (fun a b c e' r1 r2 r3 => ⟨r1, hX, r3⟩) i g4)
            refine ⟨φ, _, a1, a2, Nat.le_refl _, .inr ⟨?_, rfl⟩⟩
            have hfi : es'.findIdx? (fun e => (e.born : Int) == Int.ofNat n) = some i := by
              have q' := q
              rw [← List.findIdx?_toArray] at q'
              simpa using q'
            have hw1 : (asInt (ρ s)).run P w = .ok (Int.ofNat n) w := by simp [hi, asInt, asIntOf]
            simp only [Instr.entryStore, Sem.run_bind, Result.andThen_ok, p2, run_getObj_at g3 (by intro _ _ _ q; cases q), hw1, Sem.run_pure, hfi]
            simp [setObj, Sem.run, g3]
          · cases hp
        · cases hp
      · cases hp
    · cases e
  · cases e

end
end Go.Am

/-
  RANGES OVER STRINGS AND MAPS.
-/
namespace Go.Am

theorem drop_get {s : ByteArray} {pos : Nat} {l : List UInt8} (hl : s.data.toList.drop pos = l) (k : Nat) (c : UInt8) (h : l[k]? = some c) :
    pos + k < s.size ∧ s.get! (pos + k) = c := by
  subst hl
  rw [List.getElem?_drop] at h
  have h1 : s.data[pos + k]? = some c := by simpa using h
  obtain ⟨hlt, he⟩ := Array.getElem?_eq_some_iff.1 h1
  refine ⟨hlt, ?_⟩
  show s.data[pos + k]! = c
  rw [getElem!_pos s.data _ hlt]
  exact he

theorem drop_none {s : ByteArray} {pos : Nat} {l : List UInt8} (hl : s.data.toList.drop pos = l) (k : Nat) (h : l.length ≤ k) : ¬ (pos + k < s.size) := by
  subst hl
  simp at h
  have : s.data.size = s.size := rfl
  omega

theorem validN_eq (c : Nat) : validN c = Utf8.valid c := by
  unfold validN Utf8.valid
  rw [Bool.eq_iff_iff]
  simp only [Bool.or_eq_true, Bool.and_eq_true, Nat.blt_eq, decide_eq_true_eq]
  constructor
  · rintro (h | ⟨h, k⟩)
    · left; omega
    · right; have := Nat.le_of_ble_eq_true h; have := Nat.le_of_ble_eq_true k; omega
  · rintro (⟨h, k⟩ | ⟨h, k⟩)
    · left; omega
    · right; exact ⟨Nat.ble_eq_true_of_le (by omega), Nat.ble_eq_true_of_le (by omega)⟩

theorem beq_nat (a b : Nat) : Nat.beq a b = decide (a = b) := by rw [Bool.eq_iff_iff]; simp

theorem ble_nat (a b : Nat) : Nat.ble a b = decide (a ≤ b) := by rw [Bool.eq_iff_iff]; simp

theorem blt_nat (a b : Nat) : Nat.blt a b = decide (a < b) := by rw [Bool.eq_iff_iff]; simp

theorem beq_dec (a b : Nat) : (a == b) = decide (a = b) := by rw [Bool.eq_iff_iff]; simp

theorem ite_match {α : Type} (a : Prop) [Decidable a] (b : Bool) (x y : α) : (if a ∧ b = true then x else y) = (match decide a && b with | true => x | false => y) := by
  by_cases h : a <;> cases b <;> simp [h]

theorem decodeL_ok {s : ByteArray} {pos : Nat} {b : UInt8} {r : List UInt8} (hl : s.data.toList.drop pos = b :: r) : Utf8.decode s pos = decodeL (b :: r) := by
  obtain ⟨h0, e0⟩ := drop_get hl 0 b (by simp)
  rw [Nat.add_zero] at h0 e0
  unfold Utf8.decode decodeL
  simp only [Nat.add_zero, e0, blt_nat, beq_nat, ble_nat, beq_dec, validN_eq, Utf8.runeError]
  by_cases c0 : b.toNat < 128
  · simp [c0]
  · rcases r with _ | ⟨b1, r⟩
    · have n1 := drop_none hl 1 (by simp)
      simp [n1, c0]
    · obtain ⟨h1, e1⟩ := drop_get hl 1 b1 (by simp)
      by_cases k6 : b.toNat / 32 = 6
      · have k14 : ¬ b.toNat / 16 = 14 := by omega
        have k30 : ¬ b.toNat / 8 = 30 := by omega
        by_cases q1 : b1.toNat / 64 = 2
        · by_cases q2 : 128 ≤ (b.toNat % 32) * 64 + b1.toNat % 64 <;> simp [c0, h1, e1, k6, q1, q2]
        · simp [c0, h1, e1, k6, k14, k30, q1]
      · by_cases k14 : b.toNat / 16 = 14
        · have k30 : ¬ b.toNat / 8 = 30 := by omega
          rcases r with _ | ⟨b2, r⟩
          · have n2 := drop_none hl 2 (by simp)
            simp [c0, h1, e1, k6, k14, k30, n2]
          · obtain ⟨h2, e2⟩ := drop_get hl 2 b2 (by simp)
            by_cases q1 : b1.toNat / 64 = 2
            · by_cases q2 : b2.toNat / 64 = 2
              · simp [c0, h1, e1, h2, e2, k6, k14, q1, q2]
                exact ite_match _ _ _ _
              · simp [c0, h1, e1, h2, e2, k6, k14, k30, q1, q2]
            · simp [c0, h1, e1, h2, e2, k6, k14, k30, q1]
        · by_cases k30 : b.toNat / 8 = 30
          · rcases r with _ | ⟨b2, r⟩
            · have n2 := drop_none hl 2 (by simp)
              simp [c0, h1, e1, k6, k14, k30, n2]
            · obtain ⟨h2, e2⟩ := drop_get hl 2 b2 (by simp)
              rcases r with _ | ⟨b3, r⟩
              · have n3 := drop_none hl 3 (by simp)
                simp [c0, h1, e1, h2, e2, k6, k14, k30, n3]
              · obtain ⟨h3, e3⟩ := drop_get hl 3 b3 (by simp)
                by_cases q1 : b1.toNat / 64 = 2
                · by_cases q2 : b2.toNat / 64 = 2
                  · by_cases q4 : b3.toNat / 64 = 2
                    · simp [c0, h1, e1, h2, e2, h3, e3, k6, k14, k30, q1, q2, q4]
                      exact ite_match _ _ _ _
                    · simp [c0, h1, e1, h2, e2, h3, e3, k6, k14, k30, q1, q2, q4]
                  · simp [c0, h1, e1, h2, e2, h3, e3, k6, k14, k30, q1, q2]
                · simp [c0, h1, e1, h2, e2, h3, e3, k6, k14, k30, q1]
          · rcases r with _ | ⟨b2, r⟩
            · simp [c0, h1, e1, k6, k14, k30]
            · rcases r with _ | ⟨b3, r⟩ <;> simp [c0, h1, e1, k6, k14, k30]


theorem decodeL_le (b : UInt8) (r : List UInt8) : (decodeL (b :: r)).2 ≤ (b :: r).length := by
  unfold decodeL
  simp only [List.length_cons]
  repeat' split
  all_goals simp_all
  all_goals omega

section
variable {P : Program} {E : Env} {φ : Mp} {t : T} {h h' : Heap} {ρ : Operand → Value} {v : V} {w : World}

theorem opRange_ok (ok : EnvOk P E) (hr : HRel φ h w) {ty : TypeId} {x : Operand} (r : RhoOk φ t ρ) (e : opRange E ty x t h = some (v, h')) :
    MemOk P φ h w (do pure (.value (← Instr.range ty (ρ x)))) v h' := by
  have fin : ∀ (b : Blk) (o : Obj), b.isFam = false → BRel (φ.upd h.next 0 ⟨w.heap.size, 0, 0⟩) (World.laid w o) 0 ⟨w.heap.size, 0, 0⟩ b →
      (Instr.range ty (ρ x)).run P w = .ok (.pointer (some ⟨w.heap.size, 0, none⟩)) (World.laid w o) → v = .p (some ⟨h.next, 0, 0⟩) → h' = h.newBlk b →
      MemOk P φ h w (do pure (.value (← Instr.range ty (ρ x)))) v h' := by
    intro b o hb q1 q2 q3 q4
    subst q3; subst q4
    obtain ⟨a1, a2⟩ := hr.push b o 0 q1 (by intro _ _ _ _ q; subst q; cases hb)
    refine ⟨_, _, a1, a2, by rw [Heap.newBlk_next]; omega, .inl ⟨_, by rw [Sem.run_bind, q2]; rfl, ?_⟩⟩
    exact VRel.mk_ptr (pl := ⟨w.heap.size, 0, 0⟩) (by exact Mp.upd_eq _ _ _ _) (Nat.le_refl _) rfl
  unfold opRange at e
  split at e
  · rename_i _ _ _ _ _ l hty hx
    obtain ⟨I, d, i1, i2, i3, _⟩ := ok.kind hty
    have := tk_string i3; subst this
    injection e with e
    injection e with e1 e2
    obtain ⟨s, hs, hl⟩ := (r _ _ hx).str
    refine fin (.siter l 0) (.stringIter s 0) rfl ⟨rfl, rfl, s, heap_laid_new _ _, by simpa using hl, Nat.zero_le _⟩ ?_ e1.symm e2.symm
    simp only [Instr.range, Sem.run_bind, r_und i2, Result.andThen_ok, hs, Sem.run_pure, run_newObj]
    rfl
  · rename_i kt et _ _ _ _ _ hty hx
    obtain ⟨I, d, i1, i2, i3, _⟩ := ok.kind hty
    have := tk_map i3; subst this
    injection e with e
    injection e with e1 e2
    have hs := r _ _ hx
    simp only [VRel] at hs
    refine fin (.miter none 0 [] 0) (.mapIter none 0 #[] 0) rfl ⟨rfl, rfl, none, #[], heap_laid_new _ _, rfl, rfl⟩ ?_ e1.symm e2.symm
    simp only [Instr.range, Sem.run_bind, r_und i2, Result.andThen_ok, hs, Sem.run_pure, run_newObj]
    rfl
  · rename_i kt et _ _ _ _ _ m hty hx
    obtain ⟨I, d, i1, i2, i3, _⟩ := ok.kind hty
    have := tk_map i3; subst this
    split at e
    · rename_i es c hm
      injection e with e
      injection e with e1 e2
      have hs := r _ _ hx
      simp only [VRel] at hs
      obtain ⟨pl, p1, p2⟩ := hs
      obtain ⟨g1, g2, es', g3, g4⟩ := hr.mapAt hm p1
      refine fin (.miter (some m) c [] c) (.mapIter (some pl.rb) c #[] c) rfl ⟨rfl, rfl, some pl.rb, #[], heap_laid_new _ _, rfl, pl, hr.le_upd _ _ _ _ p1, rfl⟩ ?_ e1.symm e2.symm
      simp only [Instr.range, Sem.run_bind, r_und i2, Result.andThen_ok, p2, run_getObj_at g3 (by intro _ _ _ q; cases q), Sem.run_pure, run_newObj]
      rfl
    · cases e
  · cases e

theorem VRel.tup1 {ψ : Mp} {a : V} {A : Value} (x : VRel ψ a A) : VRel ψ (.tup [a]) (.tuple #[A]) := by
  simp only [VRel]; exact ⟨_, rfl, VRels.cons x (VRels.nil _)⟩

theorem VRel.tup3 {ψ : Mp} {a b c : V} {A B C : Value} (x : VRel ψ a A) (y : VRel ψ b B) (z : VRel ψ c C) : VRel ψ (.tup [a, b, c]) (.tuple #[A, B, C]) := by
  simp only [VRel]; exact ⟨_, rfl, VRels.cons x (VRels.cons y (VRels.cons z (VRels.nil _)))⟩

theorem opNext_ok (hr : HRel φ h w) {ty : TypeId} {x : Operand} {str : Bool} (r : RhoOk φ t ρ) (e : opNext x str t h = some (v, h')) :
    MemOk P φ h w (do pure (.value (← Instr.next (ρ x) str ty))) v h' := by
  unfold opNext at e
  split at e
  · rename_i f hx
    obtain ⟨pl, p1, p2, p3⟩ := (r _ _ hx).ptr
    have pd : pl.d = 0 := Nat.le_zero.1 p2
    simp only [Nat.zero_sub] at p3
    have hlt := (hr.at_ _ _ _ p1).2.1
    obtain ⟨_, _, b, q1, q2⟩ := hr.at_ _ _ _ p1
    have over : ∀ (o : Obj), v = .tup [.b false] → h' = h → (Instr.next (ρ x) str ty).run P w = .ok (.tuple #[.bool false]) w →
        MemOk P φ h w (do pure (.value (← Instr.next (ρ x) str ty))) v h' := by
      intro o e1 e2 e3
      subst e1; subst e2
      exact ⟨φ, w, hr, hr.ext_refl, Nat.le_refl _, .inl ⟨_, by rw [Sem.run_bind, e3]; rfl, VRel.tup1 (VRel.mk_bool rfl)⟩⟩
    split at e
    · rename_i l pos hb
      rw [hb] at q1
      injection q1 with q1
      subst q1
      obtain ⟨_, d0, s, s1, s2, s3⟩ := q2
      split at e
      · injection e with e
        injection e with e1 e2
        have hno : ¬ (pos < s.size) := by have := drop_none s2 0 (by simp); simpa using this
        refine over (.stringIter s pos) e1.symm e2.symm ?_
        simp only [Instr.next, p3, Sem.run_bind, run_getObj_at s1 (by intro _ _ _ q; cases q), Result.andThen_ok, hno, if_false, Sem.run_pure]
      · rename_i b r'
        have hdec := decodeL_ok s2
        have hyes : pos < s.size := by have := (drop_get s2 0 b (by simp)).1; simpa using this
        split at e
        rename_i c n hcn
        injection e with e
        injection e with e1 e2
        subst e1; subst e2
        have hn : n ≤ (b :: r').length := by have := decodeL_le b r'; rw [hcn] at this; exact this
        obtain ⟨a1, a2⟩ := hr.put (b := .siter ((b :: r').drop n) (pos + n)) (.stringIter s (pos + n)) p1 hb rfl (by
          refine ⟨rfl, d0, s, ?_, ?_, ?_⟩
          · show (w.heap.setIfInBounds pl.rb _)[pl.rb]? = _
            rw [Array.getElem?_setIfInBounds, if_pos rfl, if_pos hlt]
          · rw [← s2, List.drop_drop]
          · have : (b :: r').length = s.size - pos := by rw [← s2]; simp
            omega) rfl
        refine ⟨φ, _, a1, a2, Nat.le_refl _, .inl ⟨.tuple #[.bool true, goInt pos, .int .i32 c], ?_, VRel.tup3 (VRel.mk_bool rfl) (VRel.mk_int rfl) (VRel.mk_int rfl)⟩⟩
        rw [← hdec] at hcn
        simp only [Instr.next, p3, Sem.run_bind, run_getObj_at s1 (by intro _ _ _ q; cases q), Result.andThen_ok, hyes, if_true, hcn]
        simp [setObj, Sem.run, s1]
    · rename_i hb
      rw [hb] at q1
      injection q1 with q1
      subst q1
      obtain ⟨_, d0, m', seen', s1, s2, rfl⟩ := q2
      injection e with e
      injection e with e1 e2
      refine over (.stringIter default 0) e1.symm e2.symm ?_
      simp only [Instr.next, p3, Sem.run_bind, run_getObj_at s1 (by intro _ _ _ q; cases q), Result.andThen_ok, Sem.run_pure]
    · rename_i m since seen last hb
      rw [hb] at q1
      injection q1 with q1
      subst q1
      obtain ⟨_, d0, m', seen', s1, s2, q, c1, rfl⟩ := q2
      split at e
      · rename_i es clk hm
        obtain ⟨g1, g2, es', g3, g4⟩ := hr.mapAt hm c1
        split at e
        · injection e with e
          injection e with e1 e2
          have : es'.toList = [] := g4
          have : es' = #[] := Array.ext' this
          subst this
          refine over (.stringIter default 0) e1.symm e2.symm ?_
          simp only [Instr.next, p3, Sem.run_bind, run_getObj_at s1 (by intro _ _ _ q; cases q), run_getObj_at g3 (by intro _ _ _ q; cases q), Result.andThen_ok]
          have f0 : ∀ p, Array.filter p (#[] : Array MapEntry) 0 0 = #[] := fun p => rfl
          simp [Question.forced, f0]
        · rename_i k u born
          obtain ⟨e', l, q1, q2, q3, q4, q5⟩ := g4
          have : l = [] := q5
          subst this
          have : es' = #[e'] := Array.ext' q1
          subst this
          have : seen' = #[] := Array.ext' s2
          subst this
          split at e
          · rename_i hlt'
            have hlt' : born < since := by simpa using hlt'
            injection e with e
            injection e with e1 e2
            subst e1; subst e2
            have h1 : e'.born < since := by omega
            obtain ⟨a1, a2⟩ := hr.put (b := .miter (some m) since [born] clk) (.mapIter (some q.rb) since #[e'.born] clk) p1 hb rfl (by
              refine ⟨rfl, d0, some q.rb, #[e'.born], ?_, ?_, q, c1, rfl⟩
              · show (w.heap.setIfInBounds pl.rb _)[pl.rb]? = _
                rw [Array.getElem?_setIfInBounds, if_pos rfl, if_pos hlt]
              · rw [q4]) rfl
            refine ⟨φ, _, a1, a2, Nat.le_refl _, .inl ⟨.tuple #[.bool true, e'.key, e'.val], ?_, VRel.tup3 (VRel.mk_bool rfl) q2 q3⟩⟩
            simp only [Instr.next, p3, Sem.run_bind, run_getObj_at s1 (by intro _ _ _ q; cases q), run_getObj_at g3 (by intro _ _ _ q; cases q), Result.andThen_ok]
            have h2 : ¬ (since ≤ e'.born) := by omega
            simp [Question.forced, h1, h2, setObj, Sem.run, s1]
          · cases e
        · rename_i k u born b'
          obtain ⟨e', l, q1, q2, q3, q4, q5⟩ := g4
          have : l = [] := q5
          subst this
          have : es' = #[e'] := Array.ext' q1
          subst this
          have : seen' = #[b'] := Array.ext' s2
          subst this
          split at e
          · rename_i hc
            simp only [Bool.and_eq_true] at hc
            have hb1 : born = b' := Nat.eq_of_beq_eq_true hc.1
            have hb2 : born < last := by simpa using hc.2
            injection e with e
            injection e with e1 e2
            refine over (.stringIter default 0) e1.symm e2.symm ?_
            simp only [Instr.next, p3, Sem.run_bind, run_getObj_at s1 (by intro _ _ _ q; cases q), run_getObj_at g3 (by intro _ _ _ q; cases q), Result.andThen_ok]
            have h3 : e'.born = b' := by omega
            have f0 : ∀ p, Array.filter p (#[] : Array MapEntry) 0 0 = #[] := fun p => rfl
            simp [Question.forced, h3, f0]
            omega
          · cases e
        · cases e
      · cases e
    · cases e
  · cases e

end
end Go.Am

/-
  CONVERSIONS OF NUMBERS AND OF STRINGS TO STRINGS; UNARY OPERATIONS.
-/
namespace Go.Am

section
variable {P : Program} {E : Env} {φ : Mp} {t : T} {h h' : Heap} {ρ : Operand → Value} {v : V} {w : World}

theorem opConvert_ok (ok : EnvOk P E) {src dst : TypeId} {x : Operand} (r : RhoOk φ t ρ) (k : opConvert E src dst x t h = some (v, h')) :
    h' = h ∧ PureOk P φ (do pure (.value (← convert src dst (ρ x)))) v := by
  unfold opConvert at k
  split at k
  · rename_i u hu
    unfold convertV at k
    split at k
    · rename_i a d ha hd
      obtain ⟨I, D, i1, i2, i3, _⟩ := ok.kind ha
      obtain ⟨J, D', j1, j2, j3, _⟩ := ok.kind hd
      split at k
      · rename_i kk k0 n hk
        injection k with k
        injection k with k1 k2
        subst k1; subst k2
        rw [hk] at j3
        have := tk_int j3; subst this
        have hx := (r _ _ hu).int
        refine ⟨rfl, .int kk (kk.wrap n), fun w => ?_, VRel.mk_int (wrapF_eq _ _)⟩
        simp only [convert, Sem.run_bind, r_und i2, r_und j2, Result.andThen_ok, hx]
        cases D <;> rfl
      · rename_i l hk
        injection k with k
        injection k with k1 k2
        subst k1; subst k2
        rw [hk] at j3
        have := tk_string j3; subst this
        obtain ⟨s, hx, hs⟩ := (r _ _ hu).str
        refine ⟨rfl, .string s, fun w => ?_, VRel.mk_str hs⟩
        simp only [convert, Sem.run_bind, r_und i2, r_und j2, Result.andThen_ok, hx]
        cases D <;> rfl
      · cases k
    · cases k
  · cases k

theorem opUnOp_ok {op : UnOp} {x : Operand} (r : RhoOk φ t ρ) (k : opUnOp op x t h = some (v, h')) :
    h' = h ∧ PureOk P φ (do pure (.value (← Op.unary op (ρ x)))) v := by
  unfold opUnOp at k
  split at k
  · rename_i u hu
    split at k
    · rename_i z hz
      injection k with k
      injection k with k1 k2
      subst k1
      obtain ⟨y, y1, y2⟩ := unV_ok (P := P) hz (r _ _ hu)
      exact ⟨k2.symm, y, fun w => by rw [Sem.run_bind, y1]; rfl, y2⟩
    · cases k
  · cases k

end
end Go.Am

