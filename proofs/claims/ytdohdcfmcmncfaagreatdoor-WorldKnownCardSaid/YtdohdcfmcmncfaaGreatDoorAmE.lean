/-
  append.
-/
import Derived.Test.YtdohdcfmcmncfaaGreatDoorAmD
namespace Go.Am

theorem HRel.drew {φ : Mp} {h : Heap} {w : World} (r : HRel φ h w) (k : Nat) : HRel φ h { w with drawn := k } := ⟨r.at_, r.inj, r.st, r.bd⟩
theorem Ext.drew {φ φ' : Mp} {w w' : World} {n : Nat} (r : Ext φ w φ' w' n) (k : Nat) : Ext φ w φ' { w' with drawn := k } n := ⟨r.le, r.old, r.new, r.size, r.keep, r.os, r.tape, r.output⟩
theorem Ext.drew_left {φ φ' : Mp} {w w' : World} {n : Nat} {k : Nat} (r : Ext φ { w with drawn := k } φ' w' n) : Ext φ w φ' w' n := ⟨r.le, r.old, r.new, r.size, r.keep, r.os, r.tape, r.output⟩

section
variable {P : Program} {E : Env} {φ : Mp} {t : T} {h h' : Heap} {ρ : Operand → Value} {v : V} {w : World}

theorem r_choose_cap (need old : Nat) (e : TypeId) (w : World) : ∃ m, need ≤ m ∧ (choose (.appendCap need old e)).run P w = .ok m { w with drawn := w.drawn + 1 } :=
  ⟨_, Nat.le_add_right _ _, by simp only [run_choose, Question.forced, Bool.false_eq_true, if_false, Question.cut]; rfl⟩

theorem firstCells_ok (hr : HRel φ h w) {z n : Nat} {x : V} {X : Value} {l : List V} (hx : VRel φ x X) (e : firstCells h z n x = some l) :
    ∃ Y : Array Value, (∀ w2 : World, w2.heap = w.heap → (Builtin.firstCells z n X).run P w2 = .ok Y w2) ∧ VRels φ l Y.toList ∧ Y.size = l.length ∧ l.length = n * z := by
  unfold firstCells at e
  split at e
  · rename_i a len cap z' ex
    split at e
    · rename_i hc
      simp only [Bool.and_eq_true] at hc
      have hz := Nat.eq_of_beq_eq_true hc.1
      have hn := Nat.le_of_ble_eq_true hc.2
      simp only [VRel] at hx
      obtain ⟨pl, p1, a', c', rfl, p3, p4, p5, p6⟩ := hx
      rcases p6 with ⟨s1, s2, s3⟩ | s1
      · subst s2
        obtain ⟨ys, y1, y2⟩ := hr.loads_all (P := P) p1 s1 e
        exact ⟨ys.toArray, y2, by simpa using y1, by simpa using y1.length, (Heap.loads_some e).1⟩
      · have : n = 0 := by omega
        subst this
        rw [Nat.zero_mul] at e
        simp only [Heap.loads, Option.some.injEq] at e
        subst e
        refine ⟨#[], fun w2 _ => ?_, VRels.nil φ, rfl, by simp⟩
        simp [Builtin.firstCells, loadCells, loadCellsFrom]
    · cases e
  · simp only [VRel] at hx
    obtain ⟨_, _, rfl⟩ := hx
    split at e
    · injection e with e
      subst e
      exact ⟨#[], fun _ _ => rfl, VRels.nil φ, rfl, by simp⟩
    · cases e
  · split at e
    · rename_i r hr' hz1
      have hz1' : z = 1 := Nat.eq_of_beq_eq_true hz1
      injection e with e
      subst e
      obtain ⟨s, rfl, hs⟩ := hx.str
      obtain ⟨c1, c2, c3⟩ := cut_ok _ _ _ _ hr'
      have hlen : s.data.toList.length = s.size := by simp
      have hd : (s.extract 0 n).data.toList = r := by
        rw [c1, ← hs]
        simp [ByteArray.data_extract, List.extract_eq_take_drop]
      refine ⟨(s.extract 0 n).data.map fun b => .int .u8 b.toNat, fun _ _ => rfl, ?_, ?_, by rw [hz1']; simp [c3]⟩
      · rw [Array.toList_map, hd]
        refine VRels.of_get (by simp) fun k x hx => ?_
        rw [List.getElem?_map] at hx ⊢
        cases hk : r[k]? with
        | none => rw [hk] at hx; cases hx
        | some b => rw [hk] at hx; simp only [Option.map_some, Option.some.injEq] at hx; subst hx; exact ⟨_, rfl, VRel.mk_int rfl⟩
      · have := congrArg List.length hd
        simpa using this
    · cases e
  · cases e

theorem growBy_le (need : Nat) : ∀ (r c : Nat), c ≤ need + (need + 768) / 4 → Builtin.growBy need r c ≤ need + (need + 768) / 4
  | 0, c, h => h
  | r + 1, c, h => by
    unfold Builtin.growBy
    split
    · exact h
    · exact growBy_le need r _ (by omega)

theorem next_small {need old bytes : Nat} (h : ¬ need ≤ old) (hb : need * bytes ≤ 1099511627776) : ¬ Builtin.nextslicecap need old * bytes > 2 ^ 48 := by
  have hle : Builtin.nextslicecap need old ≤ 2 * need := by
    unfold Builtin.nextslicecap
    split
    · omega
    · split
      · omega
      · have := growBy_le need 4 old (by omega)
        omega
  have h1 := Nat.mul_le_mul_right bytes hle
  rw [Nat.mul_assoc] at h1
  omega

/-- The part of append behind the count of what comes in. -/
def tailS (zeros : Bool) (elem : TypeId) (size sLen sCap n : Nat) (base : Option Addr) (s x : Value) (appended : Sem (Array Value)) : Sem Value := do
  let need := sLen + n
  if need ≤ sCap then
    let new ← appended
    if let some a := base then storeCells (a.add (sLen * size)) new.toList
    pure (.slice base need sCap)
  else
    if (need : Int) > IntKind.i64.max ∧ (zeros ∨ (← typeInfo elem).bytes = 0) then runtimePanic (.error "growslice: len out of range")
    if Builtin.nextslicecap need sCap * (← typeInfo elem).bytes > 2 ^ 48 then (if zeros then runtimePanic (.error "growslice: len out of range") else do
      if !(← Builtin.mayShare size sLen n base x) then mark .noRoom
      unsupported (.resourceLimit "append: a slice or a string whose bytes no memory bears"))
    let newCap ← choose (.appendCap need sCap elem)
    askRoom (newCap * (← typeInfo elem).bytes)
    let old ← Builtin.firstCells size sLen s
    let new ← appended
    let rest := Builtin.zeroCells (← zeroValue elem).cells (newCap - need)
    pure (.slice (some (← newRow elem (old ++ new ++ rest))) need newCap)

theorem tail_in {zeros : Bool} {elem size sLen sCap n : Nat} {base : Option Addr} {s x : Value} {appended : Sem (Array Value)} {Y : Array Value} {w' : World} (hn : sLen + n ≤ sCap)
    (ha : appended.run P w = .ok Y w) (hs : ∀ a, base = some a → (storeCells (a.add (sLen * size)) Y.toList).run P w = .ok () w') (hb : base = none → w' = w) :
    (tailS zeros elem size sLen sCap n base s x appended).run P w = .ok (.slice base (sLen + n) sCap) w' := by
  unfold tailS
  simp only [hn, if_true, Sem.run_bind, ha, Result.andThen_ok]
  cases base with
  | none => rw [hb rfl]; rfl
  | some a => simp [hs a rfl]

theorem tail_out {zeros : Bool} {elem size sLen sCap n : Nat} {base : Option Addr} {s x : Value} {appended : Sem (Array Value)} {Y O : Array Value} {i : TypeInfo} {z : Value} (hn : ¬ sLen + n ≤ sCap)
    (hi : P.info? elem = some i) (hz : i.zero = some z) (h1 : (sLen + n) * i.bytes ≤ 1099511627776) (h2 : sLen + n ≤ 1099511627776)
    (ha : appended.run P { w with drawn := w.drawn + 1 } = .ok Y { w with drawn := w.drawn + 1 })
    (ho : (Builtin.firstCells size sLen s).run P { w with drawn := w.drawn + 1 } = .ok O { w with drawn := w.drawn + 1 }) :
    ∃ m, sLen + n ≤ m ∧ (tailS zeros elem size sLen sCap n base s x appended).run P w =
      .ok (.slice (some ⟨w.heap.size, 0, none⟩) (sLen + n) m) (World.laid { w with drawn := w.drawn + 1 } (.cells (O ++ Y ++ Builtin.zeroCells z.cells (m - (sLen + n))) elem)) := by
  obtain ⟨m, m1, m2⟩ := r_choose_cap (P := P) (sLen + n) sCap elem w
  refine ⟨m, m1, ?_⟩
  have hmax : ¬ ((sLen + n : Nat) : Int) > IntKind.i64.max := by simp only [IntKind.max, IntKind.signed, IntKind.bits]; simp; omega
  unfold tailS
  simp only [hn, if_false, Sem.run_bind, r_info hi, Result.andThen_ok, hmax, false_and, next_small hn h1, Sem.run_pure, m2, run_askRoom, ho, ha, r_zero hi hz, newRow, run_newObj, Sem.run_ite]
  rfl

end
end Go.Am

/-
  append, as the abstract machine has it.
-/
namespace Go.Am

section
variable {P : Program} {E : Env} {φ : Mp} {t : T} {h h' : Heap} {ρ : Operand → Value} {v : V} {w : World}

theorem run_loadRow {b : Nat} {c : Array Value} {el : TypeId} {fr : Nat × Nat} (hw : w.heap[b]? = some (.cells c el fr)) {p n : Nat} (hp : p + n ≤ c.size) :
    (loadCells ⟨b, p, none⟩ n).run P w = .ok (c.extract p (p + n)) w := by
  have := run_loadCellsFrom (P := P) (w := w) (b := b) n p 0 (c.extract p (p + n)).toList #[] (by simp; omega) (fun k y hy => by
    have hk : k < n := by
      have := (List.getElem?_eq_some_iff.1 hy).1
      simp at this
      omega
    have hy' : c[p + k]? = some y := by
      simp only [Array.toList_extract, List.extract_eq_take_drop, List.getElem?_take, List.getElem?_drop] at hy
      rw [if_pos (by omega)] at hy
      simpa using hy
    simp [World.cell?, hw, hy'])
  rw [show (c.extract p (p + n)).toList.toArray = c.extract p (p + n) from Array.toArray_toList] at this
  simpa only [loadCells, Array.empty_append] using this

theorem zeroCells_size (z : Array Value) (n : Nat) : (Builtin.zeroCells z n).size = n * z.size := by simp [Builtin.zeroCells]

theorem VRels.length' {l : List V} {Y : Array Value} (r : VRels φ l Y.toList) : Y.size = l.length := by simpa using r.length

/-- What is behind a new array for what was there, what comes, and room. -/
theorem alloc_app {w : World} (hr : HRel φ h w) {e : TypeId} {old nw : List V} {O Y R : Array Value} (hO : VRels φ old O.toList) (hY : VRels φ nw Y.toList) :
    HRel (φ.upd h.next 0 ⟨w.heap.size, 0, (O ++ Y ++ R).size⟩) (h.alloc e (old ++ nw)) (World.laid w (.cells (O ++ Y ++ R) e)) ∧
      Ext φ w (φ.upd h.next 0 ⟨w.heap.size, 0, (O ++ Y ++ R).size⟩) (World.laid w (.cells (O ++ Y ++ R) e)) h.next := by
  refine hr.alloc e (old ++ nw) false (O ++ Y ++ R) (0, 0) (fun k x hx => ?_) (by intro i _; omega) (by intro _ i; omega)
  have hON : VRels φ (old ++ nw) (O ++ Y).toList := by rw [Array.toList_append]; exact hO.append hY
  obtain ⟨u, hu, hv⟩ := hON.get k x hx
  refine ⟨u, ?_, hv⟩
  have hk : k < (O ++ Y).size := by
    have := (List.getElem?_eq_some_iff.1 hu).1
    simpa using this
  rw [Array.getElem?_append_left hk, ← Array.getElem?_toList]
  exact hu

theorem appendV_ok {zeros : Bool} {e z bytes n : Nat} {s : V} {S x : Value} {nw : List V} {appended : Sem (Array Value)} {Y : Array Value} {i : TypeInfo} {zv : Value}
    (hr : HRel φ h w) (hs : VRel φ s S) (hi : P.info? e = some i) (hz : i.zero = some zv) (hzs : zv.cells.size = z) (hby : i.bytes = bytes)
    (ha : ∀ k, appended.run P { w with drawn := k } = .ok Y { w with drawn := k }) (hY : VRels φ nw Y.toList) (hlen : Y.size = n * z) (k : appendV h e z bytes s n nw = some (v, h')) :
    ∃ base sLen sCap, S = .slice base sLen sCap ∧ ∃ φ' w' y, (tailS zeros e z sLen sCap n base S x appended).run P w = .ok y w' ∧ VRel φ' v y ∧ HRel φ' h' w' ∧ Ext φ w φ' w' h.next ∧ h.next ≤ h'.next := by
  have hlb : ∀ (k : Nat) (x : V), nw[k]? = some x → Bd h.next x := fun k x e => by
    obtain ⟨y, _, q⟩ := hY.get k x e
    exact VRel.bd hr.below _ _ q
  unfold appendV at k
  split at k
  · rename_i base len cap z' ex
    split at k
    · cases k
    · rename_i hc
      simp only [Bool.and_eq_true, Bool.not_eq_true', roomy] at hc
      obtain ⟨c1, c2, c3, c4⟩ := hc
      have c1' := Nat.le_of_ble_eq_true c1
      have c2' := Nat.le_of_ble_eq_true c2
      have c3' : z ≠ 0 := by intro q; rw [q] at c3; cases c3
      rw [← hby] at c1'
      have hnw : nw.length = n * z := by rw [← hlen]; exact hY.length'.symm
      split at k
      · -- nil
        split at k
        · cases k
        · rename_i hb
          simp only [Bool.and_eq_true] at hb
          have hl0 : len = 0 := Nat.eq_of_beq_eq_true hb.1
          simp only [VRel] at hs
          obtain ⟨_, hcap, rfl⟩ := hs
          subst hl0; subst hcap
          refine ⟨none, 0, 0, rfl, ?_⟩
          split at k
          · injection k with k
            injection k with k1 k2
            subst k1; subst k2
            refine ⟨φ, w, _, tail_in (w' := w) (Y := Y) (by omega) (ha w.drawn) (by intro a q; cases q) (fun _ => rfl), ?_, hr, hr.ext_refl, Nat.le_refl _⟩
            simp only [VRel]; exact ⟨trivial, trivial, trivial⟩
          · rename_i hn0
            injection k with k
            injection k with k1 k2
            subst k1; subst k2
            have hn0' : n ≠ 0 := fun q => hn0 q
            obtain ⟨m, m1, m2⟩ := tail_out (P := P) (w := w) (zeros := zeros) (elem := e) (size := z) (sLen := 0) (sCap := 0) (n := n) (base := none) (s := .slice none 0 0) (x := x) (appended := appended) (Y := Y) (O := #[]) (by omega) hi hz c1' c2'
              (ha _) rfl
            obtain ⟨a1, a2⟩ := alloc_app (hr.drew (w.drawn + 1)) (e := e) (old := []) (nw := nw) (O := #[]) (Y := Y) (R := Builtin.zeroCells zv.cells (m - (0 + n))) (VRels.nil φ) hY
            refine ⟨_, _, _, m2, ?_, a1, a2.drew_left, by rw [Heap.alloc_next]; omega⟩
            simp only [VRel]
            refine ⟨_, Mp.upd_eq _ _ _ _, _, m, rfl, Nat.le_refl _, m1, (by intro q; cases q), .inl ⟨Nat.zero_le _, rfl, ?_⟩⟩
            simp only [Array.size_append, zeroCells_size, hzs, hlen]
            have : n * z + (m - (0 + n)) * z = m * z := by rw [← Nat.add_mul]; congr 1; omega
            show 0 - 0 + m * z ≤ 0 + n * z + (m - (0 + n)) * z
            omega
      · rename_i a
        split at k
        · cases k
        · rename_i hzz
          have hzz' : z = z' := Nat.eq_of_beq_eq_true hzz
          subst hzz'
          have hs0 := hs
          simp only [VRel] at hs
          obtain ⟨pl, p1, a', c', rfl, p3, p4, p5, p6⟩ := hs
          refine ⟨some a', len, c', rfl, ?_⟩
          split at k
          · -- room enough, surely
            rename_i hle
            have hle' := Nat.le_of_ble_eq_true hle
            split at k
            · cases k
            · rename_i h2 hst
              injection k with k
              injection k with k1 k2
              subst k1; subst k2
              rcases p6 with ⟨s1, s2, s3⟩ | s1
              · subst s2
                obtain ⟨w', e1, e2, e3, e4⟩ := hr.stores (P := P) (o := a.o + len * z) p1 (by omega) hY hst
                refine ⟨φ, w', _, tail_in (w' := w') (Y := Y) (by omega) (ha w.drawn) ?_ (by intro q; cases q), ?_, e2, e3, by omega⟩
                · intro a0 q
                  injection q with q
                  subst q
                  rw [Addr.add_off, show a.o - pl.d + len * z = a.o + len * z - pl.d from by omega]
                  exact e1
                · simp only [VRel]
                  exact ⟨pl, p1, _, c', rfl, by omega, p4, p5, .inl ⟨s1, rfl, s3⟩⟩
              · have hn : n = 0 := by omega
                subst hn
                have : nw = [] := by
                  have : nw.length = 0 := by omega
                  exact List.length_eq_zero_iff.1 this
                subst this
                simp only [Heap.stores, Option.some.injEq] at hst
                subst hst
                have hY0 : Y.toList = [] := by rw [VRels.nil_iff] at hY; exact hY
                refine ⟨φ, w, _, tail_in (w' := w) (Y := Y) (by omega) (ha w.drawn) ?_ (by intro q; cases q), ?_, hr, hr.ext_refl, Nat.le_refl _⟩
                · intro a0 q; rw [hY0]; rfl
                · simp only [VRel]
                  exact ⟨pl, p1, _, c', rfl, by omega, p4, p5, .inr s1⟩
          · rename_i hle
            have hle' : ¬ len + n ≤ cap := by intro q; rw [Nat.ble_eq_true_of_le q] at hle; cases hle
            split at k
            · -- surely a new array
              split at k
              · cases k
              · rename_i old hold
                injection k with k
                injection k with k1 k2
                subst k1; subst k2
                have hcc : c' = cap := p5 rfl
                obtain ⟨O, o1, o2, o3⟩ : ∃ O : Array Value, (Builtin.firstCells z len (.slice (some a') len c')).run P { w with drawn := w.drawn + 1 } = .ok O { w with drawn := w.drawn + 1 } ∧ VRels φ old O.toList ∧ O.size = old.length := by
                  obtain ⟨O, q1, q2, q3, _⟩ := firstCells_ok (P := P) (z := z) (n := len) (l := old) (h := h) (x := .sl (some a) len cap z true) (hr.drew (w.drawn + 1)) hs0 (by
                    simp only [firstCells]
                    have : (Nat.beq z z && Nat.ble len len) = true := by simp
                    rw [this]
                    exact hold)
                  exact ⟨O, q1 _ rfl, q2, q3⟩
                have ho : old.length = len * z := (Heap.loads_some hold).1
                obtain ⟨m, m1, m2⟩ := tail_out (P := P) (w := w) (zeros := zeros) (elem := e) (size := z) (sLen := len) (sCap := c') (n := n) (base := some a') (s := .slice (some a') len c') (x := x) (appended := appended) (Y := Y) (O := O)
                  (by omega) hi hz c1' c2' (ha _) o1
                obtain ⟨a1, a2⟩ := alloc_app (hr.drew (w.drawn + 1)) (e := e) (old := old) (nw := nw) (O := O) (Y := Y) (R := Builtin.zeroCells zv.cells (m - (len + n))) o2 hY
                refine ⟨_, _, _, m2, ?_, a1, a2.drew_left, by rw [Heap.alloc_next]; omega⟩
                simp only [VRel]
                refine ⟨_, Mp.upd_eq _ _ _ _, _, m, rfl, Nat.le_refl _, m1, (by intro q; cases q), .inl ⟨Nat.zero_le _, rfl, ?_⟩⟩
                simp only [Array.size_append, zeroCells_size, hzs, hlen, o3, ho]
                have : len * z + n * z + (m - (len + n)) * z = m * z := by rw [← Nat.add_mul, ← Nat.add_mul]; congr 1; omega
                simp
                omega
            · -- who knows
              split at k
              · rename_i f hb
                split at k
                · cases k
                · rename_i hcc
                  injection k with k
                  injection k with k1 k2
                  subst k1; subst k2
                  simp only [Bool.and_eq_true] at hcc
                  have hav : a.v = f.ver := Nat.eq_of_beq_eq_true hcc.1
                  have hext := Nat.le_of_ble_eq_true hcc.2.1
                  have hext' : f.ext ≤ a.o + len * z + nw.length := by rw [hnw, Nat.add_assoc, ← Nat.add_mul]; exact hext
                  have p1' : φ a.f f.ver = some pl := by rw [← hav]; exact p1
                  have hcr := hr.fam_at p1' hb
                  by_cases hin : len + n ≤ c'
                  · -- in place
                    rcases p6 with ⟨s1, s2, s3⟩ | s1
                    case inr =>
                      omega
                    subst s2
                    obtain ⟨c, el, fr, b1, b2, b3, b4, b5, b6⟩ := hcr
                    have hsz : a.o - pl.d + len * z + Y.toList.length ≤ c.size := by
                      have h1 : (len + n) * z ≤ c' * z := Nat.mul_le_mul_right z hin
                      rw [Nat.add_mul] at h1
                      have h2 : Y.toList.length = n * z := by simpa using hlen
                      omega
                    obtain ⟨w', e1, e2, e3, e4, e5, e6, e7⟩ := run_storeRow (P := P) Y.toList (a.o - pl.d + len * z) 0 c w b1 (hY.ones c4) (by omega) b3
                    simp only [Nat.add_zero] at e2
                    have hov := over_get Y.toList c (a.o - pl.d + len * z)
                    have hYl : Y.toList.length = nw.length := hY.length
                    have hnew : ∀ vv q, φ a.f vv = some q ∨ (vv = f.ver + 1 ∧ q = pl) → vv ≤ f.ver + 1 →
                        CellsRel (φ.upd a.f (f.ver + 1) pl) w' ⟨f.elem, f.ver + 1, a.o + len * z + nw.length, f.str, lay (f.ver + 1) nw (a.o + len * z) f.cells⟩ vv q := by
                      intro vv q hq hvv
                      have hle2 : φ.le (φ.upd a.f (f.ver + 1) pl) := by
                        intro f' v' q' e
                        by_cases hc : f' = a.f ∧ v' = f.ver + 1
                        · exfalso
                          obtain ⟨rfl, rfl⟩ := hc
                          obtain ⟨_, _, _, _, _, _, _, g5, _⟩ := hr.fam_at e hb
                          omega
                        · rw [Mp.upd_ne _ _ hc]; exact e
                      -- the block of that version
                      have hblk : (q.rb = pl.rb ∧ q.d = pl.d ∧ q.sz = pl.sz) ∨ q.rb ≠ pl.rb := by
                        rcases hq with hq | ⟨_, rfl⟩
                        · by_cases hx : q.rb = pl.rb
                          · left
                            have hd := (hr.inj _ _ _ _ _ _ hq p1' hx).2
                            obtain ⟨c2, el2, fr2, g1, g2, _⟩ := hr.fam_at hq hb
                            rw [hx, b1] at g1
                            injection g1 with g1
                            injection g1 with g1 _ _
                            exact ⟨hx, hd, by rw [← g2, ← g1, b2]⟩
                          · exact .inr hx
                        · exact .inl ⟨rfl, rfl, rfl⟩
                      rcases hblk with ⟨hx1, hx2, hx3⟩ | hx
                      · refine ⟨over c (a.o - pl.d + len * z) Y.toList, el, fr, by rw [hx1]; exact e2, by rw [over_size, hx3]; exact b2, by rw [over_size]; exact b3, b4, hvv, ?_⟩
                        intro o x' st g1 g2 g3
                        rw [lay_get] at g1
                        rw [hx2] at g3 ⊢
                        rw [hov (o - pl.d) hsz]
                        split at g1
                        · rename_i hh
                          injection g1 with g1
                          injection g1 with g1 g1'
                          rw [if_pos (by omega)]
                          obtain ⟨u, hu, hv⟩ := hY.get (o - (a.o + len * z)) x' (by rw [List.getElem?_eq_getElem hh.2, ← g1])
                          exact ⟨u, by rw [show o - pl.d - (a.o - pl.d + len * z) = o - (a.o + len * z) from by omega]; exact hu, hv.mono hle2⟩
                        · rename_i hh
                          have hst2 : st ≤ f.ver := (hr.st _ _ _ _ _ hb g1).1
                          obtain ⟨u, hu, hv⟩ := b6 o x' st g1 hst2 g3
                          rw [if_neg (by omega)]
                          exact ⟨u, hu, hv.mono hle2⟩
                      · rcases hq with hq | ⟨_, rfl⟩
                        · obtain ⟨c2, el2, fr2, g1, g2, g3, g4, g5, g6⟩ := hr.fam_at hq hb
                          refine ⟨c2, el2, fr2, by rw [e3 _ hx]; exact g1, g2, g3, g4, by omega, ?_⟩
                          intro o x' st t1 t2 t3
                          rw [lay_get] at t1
                          split at t1
                          · injection t1 with t1
                            injection t1 with t1 t1'
                            omega
                          · obtain ⟨u, hu, hv⟩ := g6 o x' st t1 t2 t3
                            exact ⟨u, hu, hv.mono hle2⟩
                        · exact absurd rfl hx
                    obtain ⟨r1, r2⟩ := hr.grown (w' := w') (o := a.o + len * z) (pl' := pl) (l := nw) hb p1' hext' (.inl ⟨rfl, rfl, rfl⟩) (by rw [e4]; exact (hr.at_ _ _ _ p1').2.1) (by rw [e4]; exact Nat.le_refl _)
                      (fun kk _ hkk => e3 kk (hkk rfl)) (hnew _ _ (.inr ⟨rfl, rfl⟩) (Nat.le_refl _)) (fun vv q hq => hnew vv q (.inl hq) (by
                        obtain ⟨_, _, _, _, _, _, _, g5, _⟩ := hr.fam_at hq hb
                        omega)) e5 e6 e7 hlb
                    refine ⟨_, w', _, tail_in (w' := w') (Y := Y) hin (ha w.drawn) ?_ (by intro q; cases q), ?_, r1, r2, Nat.le_refl _⟩
                    · intro a0 q
                      injection q with q
                      subst q
                      rw [Addr.add_off]
                      exact e1
                    · simp only [VRel]
                      exact ⟨pl, Mp.upd_eq _ _ _ _, _, c', rfl, Nat.le_refl _, hin, (by intro q; cases q), .inl ⟨s1, rfl, s3⟩⟩
                  · -- a new array
                    obtain ⟨c, el, fr, b1, b2, b3, b4, b5, b6⟩ := hcr
                    obtain ⟨O, o1, o2, o3⟩ : ∃ O : Array Value, (Builtin.firstCells z len (.slice (some a') len c')).run P { w with drawn := w.drawn + 1 } = .ok O { w with drawn := w.drawn + 1 } ∧ O.size = len * z ∧
                        (∀ kk, kk < len * z → pl.d ≤ a.o ∧ O[kk]? = c[a.o - pl.d + kk]?) := by
                      rcases p6 with ⟨s1, s2, s3⟩ | s1
                      · subst s2
                        have hp : a.o - pl.d + len * z ≤ c.size := by
                          have h1 : len * z ≤ c' * z := Nat.mul_le_mul_right z (by omega)
                          omega
                        refine ⟨_, run_loadRow (w := { w with drawn := w.drawn + 1 }) b1 hp, by simp; omega, fun kk hk => ⟨s1, ?_⟩⟩
                        rw [Array.getElem?_extract]
                        rw [if_pos (by omega)]
                      · have hl : len = 0 := by omega
                        subst hl
                        refine ⟨#[], ?_, by simp, fun kk hk => by omega⟩
                        simp [Builtin.firstCells, loadCells, loadCellsFrom]
                    obtain ⟨m, m1, m2⟩ := tail_out (P := P) (w := w) (zeros := zeros) (elem := e) (size := z) (sLen := len) (sCap := c') (n := n) (base := some a') (s := .slice (some a') len c') (x := x) (appended := appended) (Y := Y) (O := O)
                      hin hi hz c1' c2' (ha _) o1
                    have hle2 : ∀ q : Pl, φ.le (φ.upd a.f (f.ver + 1) q) := by
                      intro q f' v' q' e
                      by_cases hc : f' = a.f ∧ v' = f.ver + 1
                      · exfalso
                        obtain ⟨rfl, rfl⟩ := hc
                        obtain ⟨_, _, _, _, _, _, _, g5, _⟩ := hr.fam_at e hb
                        omega
                      · rw [Mp.upd_ne _ _ hc]; exact e
                    have hCs : (O ++ Y ++ Builtin.zeroCells zv.cells (m - (len + n))).size = m * z := by
                      simp only [Array.size_append, zeroCells_size, hzs, hlen, o2]
                      rw [← Nat.add_mul, ← Nat.add_mul]; congr 1; omega
                    obtain ⟨r1, r2⟩ := (hr.drew (w.drawn + 1)).grown (w' := World.laid { w with drawn := w.drawn + 1 } (.cells (O ++ Y ++ Builtin.zeroCells zv.cells (m - (len + n))) e)) (o := a.o + len * z)
                      (pl' := ⟨w.heap.size, a.o, (O ++ Y ++ Builtin.zeroCells zv.cells (m - (len + n))).size⟩) (l := nw) hb p1' hext' (.inr (Nat.le_refl _)) (by rw [size_laid]; exact Nat.lt_succ_self _) (by rw [size_laid]; exact Nat.le_succ _)
                      (fun kk hk _ => heap_laid_old _ _ hk)
                      (by
                        refine ⟨_, e, (0, 0), heap_laid_new _ _, rfl, by intro i _; omega, by intro _ i; omega, Nat.le_refl _, ?_⟩
                        intro o x' st g1 g2 g3
                        have g3' : a.o ≤ o := g3
                        rw [lay_get] at g1
                        show ∃ y, (O ++ Y ++ Builtin.zeroCells zv.cells (m - (len + n)))[o - a.o]? = some y ∧ _
                        split at g1
                        · rename_i hh
                          injection g1 with g1
                          injection g1 with g1 g1'
                          obtain ⟨u, hu, hv⟩ := hY.get (o - (a.o + len * z)) x' (by rw [List.getElem?_eq_getElem hh.2, ← g1])
                          have hYs : Y.size = nw.length := hY.length'
                          refine ⟨u, ?_, hv.mono (hle2 _)⟩
                          rw [Array.getElem?_append_left (by rw [Array.size_append]; omega), Array.getElem?_append_right (by omega), o2, ← Array.getElem?_toList,
                            show o - a.o - len * z = o - (a.o + len * z) from by omega]
                          exact hu
                        · rename_i hh
                          obtain ⟨st2, hlt⟩ := hr.st _ _ _ _ _ hb g1
                          have hol : o < a.o + len * z := by
                            rcases Nat.lt_or_ge o (a.o + len * z) with q | q
                            · exact q
                            · exfalso; exact hh ⟨q, by omega⟩
                          obtain ⟨hd, hO⟩ := o3 (o - a.o) (by omega)
                          obtain ⟨u, hu, hv⟩ := b6 o x' st g1 st2 (by omega)
                          refine ⟨u, ?_, hv.mono (hle2 _)⟩
                          rw [Array.getElem?_append_left (by rw [Array.size_append]; omega), Array.getElem?_append_left (by omega), hO, show a.o - pl.d + (o - a.o) = o - pl.d from by omega]
                          exact hu)
                      (fun vv q hq => by
                        obtain ⟨c2, el2, fr2, g1, g2, g3, g4, g5, g6⟩ := hr.fam_at hq hb
                        refine ⟨c2, el2, fr2, (heap_laid_old _ _ (hr.at_ _ _ _ hq).2.1).trans g1, g2, g3, g4, by show vv ≤ f.ver + 1; omega, ?_⟩
                        intro o x' st t1 t2 t3
                        rw [lay_get] at t1
                        split at t1
                        · injection t1 with t1
                          injection t1 with t1 t1'
                          omega
                        · obtain ⟨u, hu, hv⟩ := g6 o x' st t1 t2 t3
                          exact ⟨u, hu, hv.mono (hle2 _)⟩) rfl rfl rfl hlb
                    refine ⟨_, _, _, m2, ?_, r1, r2.drew_left, Nat.le_refl _⟩
                    simp only [VRel]
                    refine ⟨_, Mp.upd_eq _ _ _ _, _, m, rfl, Nat.le_refl _, m1, (by intro q; cases q), .inl ⟨Nat.le_refl _, ?_, ?_⟩⟩
                    · show (⟨w.heap.size, 0, none⟩ : Addr) = ⟨w.heap.size, a.o - a.o, none⟩
                      rw [Nat.sub_self]
                    · show a.o - a.o + m * z ≤ (O ++ Y ++ Builtin.zeroCells zv.cells (m - (len + n))).size
                      rw [hCs]; omega
              · cases k
  · cases k

end
end Go.Am

/-
  THE BUILTINS.
-/
namespace Go.Am

/-- What a builtin gives, and what becomes of the heap. -/
def ValOk (P : Program) (φ : Mp) (h : Heap) (w : World) (s : Sem Value) (v : V) (h' : Heap) : Prop :=
  ∃ φ' w' y, s.run P w = .ok y w' ∧ VRel φ' v y ∧ HRel φ' h' w' ∧ Ext φ w φ' w' h.next ∧ h.next ≤ h'.next

section
variable {P : Program} {E : Env} {φ : Mp} {t : T} {h h' : Heap} {ρ : Operand → Value} {v : V} {w : World}

theorem ValOk.mem {s : Sem Value} (k : ValOk P φ h w s v h') : MemOk P φ h w (do pure (.value (← s))) v h' := by
  obtain ⟨φ', w', y, a, b, c, d, e⟩ := k
  exact ⟨φ', w', c, d, e, .inl ⟨y, by rw [Sem.run_bind, a]; rfl, b⟩⟩

theorem ValOk.same {s : Sem Value} {y : Value} (hr : HRel φ h w) (hs : s.run P w = .ok y w) (hv : VRel φ v y) : ValOk P φ h w s v h :=
  ⟨φ, w, y, hs, hv, hr, hr.ext_refl, Nat.le_refl _⟩

theorem args1 {vs : List V} {as : Array Value} {x : V} (r : VRels φ vs as.toList) (hv : vs = [x]) : ∃ X, as = #[X] ∧ VRel φ x X := by
  subst hv
  rw [VRels.cons_iff] at r
  obtain ⟨y, ys, e, a, b⟩ := r
  rw [VRels.nil_iff] at b
  subst b
  exact ⟨y, Array.ext' (by simpa using e), a⟩

theorem args2 {vs : List V} {as : Array Value} {x y : V} (r : VRels φ vs as.toList) (hv : vs = [x, y]) : ∃ X Y, as = #[X, Y] ∧ VRel φ x X ∧ VRel φ y Y := by
  subst hv
  rw [VRels.cons_iff] at r
  obtain ⟨X, ys, e, a, b⟩ := r
  rw [VRels.cons_iff] at b
  obtain ⟨Y, zs, rfl, b, c⟩ := b
  rw [VRels.nil_iff] at c
  subst c
  exact ⟨X, Y, Array.ext' (by simpa using e), a, b⟩

theorem lenOf_ok {x : V} {X : Value} {n : Nat} (hx : VRel φ x X) (e : lenOfV x = some n) (w : World) : (Builtin.lenOf X).run P w = .ok n w := by
  unfold lenOfV at e
  split at e
  · rename_i a n' c z ex
    injection e with e
    subst e
    cases a with
    | none => simp only [VRel] at hx; obtain ⟨rfl, _, rfl⟩ := hx; rfl
    | some a => simp only [VRel] at hx; obtain ⟨_, _, _, _, rfl, _⟩ := hx; rfl
  · injection e with e
    subst e
    obtain ⟨s, rfl, hs⟩ := hx.str
    rw [len_eq, ← hs]
    simp [Builtin.lenOf]
  · cases e

theorem biAppend_ok (ok : EnvOk P E) (hr : HRel φ h w) {ats : Array TypeId} {ty : TypeId} {vs : List V} {as : Array Value} (r : VRels φ vs as.toList) (k : biAppend E ats.toList vs h = some (v, h')) :
    ValOk P φ h w (Builtin.append_ ats ty as) v h' := by
  unfold biAppend at k
  split at k
  · rename_i s x
    obtain ⟨S, X, rfl, hs, hx⟩ := args2 r rfl
    split at k
    · rename_i ts tx hats
      have hats' : ats = #[ts, tx] := Array.ext' hats
      subst hats'
      split at k
      · rename_i e _ _ _ _ _ ix hts htx
        obtain ⟨I, D, i1, i2, i3, _⟩ := ok.kind hts
        have := tk_slice i3; subst this
        obtain ⟨J, D', j1, j2, j3, _⟩ := ok.kind htx
        split at k
        · cases k
        · rename_i te hte
          obtain ⟨K, D2, e1, e2, e3, e4, e5, _⟩ := ok.kind hte
          split at k
          · rename_i kk hk
            rw [hk] at j3
            have := tk_int j3; subst this
            split at k
            · rename_i kx n zs hz
              split at k
              · rename_i hc
                simp only [Bool.and_eq_true, roomy] at hc
                obtain ⟨c1, c2, c3⟩ := hc
                have c1' := Nat.le_of_ble_eq_true c1
                have c2' := Nat.le_of_ble_eq_true c2
                have c3' : zs.length = te.size := Nat.eq_of_beq_eq_true c3
                obtain ⟨K', z, z1, z2, z3⟩ := ok.zero hte hz
                have hK : K' = K := by rw [e1] at z1; injection z1 with z1; exact z1.symm
                subst hK
                have hzc : z.cells.size = te.size := by have := (z3 φ).length; simp at this; omega
                have hX := hx.int
                subst hX
                by_cases h0 : te.size = 0
                · exfalso
                  unfold appendV at k
                  split at k
                  · split at k
                    · cases k
                    · rename_i hb; simp [h0] at hb
                  · cases k
                let appended : Sem (Array Value) := if n * K'.size = 0 then pure #[] else do pure (Builtin.zeroCells (← zeroValue e).cells n)
                have happ : ∀ m, appended.run P { w with drawn := m } = .ok (Builtin.zeroCells z.cells n) { w with drawn := m } := by
                  intro m
                  simp only [appended, Sem.run_ite]
                  split
                  · rename_i hh
                    have hn : n = 0 := by
                      rcases Nat.mul_eq_zero.1 hh with q | q
                      · exact q
                      · rw [← e4] at q; exact absurd q h0
                    subst hn
                    simp [Builtin.zeroCells]
                  · simp [r_zero e1 z2]
                obtain ⟨base, sLen, sCap, hS, φ', w', y, q1, q2, q3, q4, q5⟩ := appendV_ok (zeros := true) (x := .int kx (Int.ofNat n)) hr hs e1 z2 (hzc) e5.symm happ
                  (by have := zeros_rel (z3 φ) (by omega) n; exact this) (by rw [zeroCells_size, hzc]) k
                refine ⟨φ', w', y, ?_, q2, q3, q4, q5⟩
                rw [← q1]
                subst hS
                have hw1 : IntKind.i64.wrap (Int.ofNat n) = Int.ofNat n := by simp only [IntKind.wrap, IntKind.signed, IntKind.bits]; simp; omega
                have hb2 : ¬ (Int.ofNat n * (K'.bytes : Int) > 2 ^ 48) := by
                  rw [← e5]
                  have := Int.ofNat_le.2 c1'
                  rw [Int.natCast_mul] at this
                  have h2 : Int.ofNat n * (te.bytes : Int) ≤ 1099511627776 := this
                  omega
                have hneg : ¬ (Int.ofNat n < 0) := by simp
                simp only [Builtin.append_, Sem.run_bind, r_und i2, r_und j2, Result.andThen_ok, r_size e1, List.getElem?_toArray, List.getElem?_cons_zero, List.getElem?_cons_succ, Sem.run_pure, if_true, asInt, asIntOf, hw1, hneg, if_false, r_info e1, hb2,
                  Bool.not_true, Bool.false_eq_true, Sem.run_ite, tailS, e4.symm, appended]
                rfl
              · cases k
            · cases k
          · rename_i hnk
            split at k
            · rename_i n zs hn hz
              split at k
              · rename_i nw hnw hzl
                have c3' : zs.length = te.size := Nat.eq_of_beq_eq_true hzl
                obtain ⟨K', z, z1, z2, z3⟩ := ok.zero hte hz
                have hK : K' = K := by rw [e1] at z1; injection z1 with z1; exact z1.symm
                subst hK
                have hzc : z.cells.size = te.size := by have := (z3 φ).length; simp at this; omega
                obtain ⟨Y, y1, y2, y3, y4⟩ := firstCells_ok (P := P) hr hx hnw
                have happ : ∀ m, (Builtin.firstCells te.size n X).run P { w with drawn := m } = .ok Y { w with drawn := m } := by
                  intro m
                  exact y1 _ rfl
                obtain ⟨base, sLen, sCap, hS, φ', w', y, q1, q2, q3, q4, q5⟩ := appendV_ok (zeros := false) (x := X) hr hs e1 z2 (hzc) e5.symm happ y2 (y3.trans y4) k
                refine ⟨φ', w', y, ?_, q2, q3, q4, q5⟩
                rw [← q1]
                subst hS
                cases D' <;> first
                  | exact (hnk _ j3.symm).elim
                  | (simp only [Builtin.append_, Sem.run_bind, r_und i2, r_und j2, Result.andThen_ok, r_size e1, List.getElem?_toArray, List.getElem?_cons_zero, List.getElem?_cons_succ, Sem.run_pure, Bool.false_eq_true, if_false, r_info e1,
                      lenOf_ok hx hn, Bool.not_false, Sem.run_ite, tailS, e4.symm]
                     rfl)
              · cases k
            · cases k
      · cases k
    · cases k
  · cases k

theorem biLen_ok (ok : EnvOk P E) (hr : HRel φ h w) {ats : Array TypeId} {ty : TypeId} {vs : List V} {as : Array Value} (r : VRels φ vs as.toList) (k : biLen E ats.toList vs h = some (v, h')) :
    ValOk P φ h w (Builtin.len_ ats ty as) v h' ∧ ((∃ l, vs = [.s l]) ∨ (∃ a l c z ex, vs = [.sl a l c z ex]) → h' = h ∧ ∃ y, (∀ w, (Builtin.len_ ats ty as).run P w = .ok y w) ∧ VRel φ v y) := by
  unfold biLen at k
  split at k
  · rename_i x
    obtain ⟨X, rfl, hx⟩ := args1 r rfl
    split at k
    · rename_i t0 rest hats
      have hats' : ats = (t0 :: rest).toArray := Array.ext' (by simpa using hats)
      subst hats'
      have mk : ∀ (n : Nat), (∀ w, (Builtin.len_ (t0 :: rest).toArray ty #[X]).run P w = .ok (goInt n) w) → v = goI n → h' = h →
          ValOk P φ h w (Builtin.len_ (t0 :: rest).toArray ty #[X]) v h' ∧ ((∃ l, [x] = [.s l]) ∨ (∃ a l c z ex, [x] = [.sl a l c z ex]) → h' = h ∧ ∃ y, (∀ w, (Builtin.len_ (t0 :: rest).toArray ty #[X]).run P w = .ok y w) ∧ VRel φ v y) := by
        intro n q1 q2 q3
        subst q2; subst q3
        exact ⟨ValOk.same hr (q1 w) (VRel.mk_int rfl), fun _ => ⟨rfl, _, q1, VRel.mk_int rfl⟩⟩
      split at k
      · rename_i _ _ _ _ _ l hty
        obtain ⟨I, D, i1, i2, i3, _⟩ := ok.kind hty
        have := tk_string i3; subst this
        obtain ⟨s, rfl, hs⟩ := hx.str
        injection k with k
        injection k with k1 k2
        refine mk (List.len l) (fun w => ?_) k1.symm k2.symm
        rw [len_eq, ← hs]
        simp [Builtin.len_, r_und i2]
      · rename_i e _ _ _ _ _ a n c z ex hty
        obtain ⟨I, D, i1, i2, i3, _⟩ := ok.kind hty
        have := tk_slice i3; subst this
        injection k with k
        injection k with k1 k2
        refine mk n (fun w => ?_) k1.symm k2.symm
        cases a with
        | none => simp only [VRel] at hx; obtain ⟨rfl, _, rfl⟩ := hx; simp [Builtin.len_, r_und i2]
        | some a => simp only [VRel] at hx; obtain ⟨_, _, _, _, rfl, _⟩ := hx; simp [Builtin.len_, r_und i2]
      · rename_i n e _ _ _ _ _ hty
        obtain ⟨I, D, i1, i2, i3, _⟩ := ok.kind hty
        have := tk_array i3; subst this
        injection k with k
        injection k with k1 k2
        refine mk n (fun w => ?_) k1.symm k2.symm
        simp [Builtin.len_, r_und i2]
      · rename_i kt et _ _ _ _ _ hty
        obtain ⟨I, D, i1, i2, i3, _⟩ := ok.kind hty
        have := tk_map i3; subst this
        injection k with k
        injection k with k1 k2
        simp only [VRel] at hx
        subst hx
        refine mk 0 (fun w => ?_) k1.symm k2.symm
        simp [Builtin.len_, r_und i2]
      · rename_i kt et _ _ _ _ _ r0 hty
        obtain ⟨I, D, i1, i2, i3, _⟩ := ok.kind hty
        have := tk_map i3; subst this
        split at k
        · rename_i es c hm
          injection k with k
          injection k with k1 k2
          subst k1; subst k2
          simp only [VRel] at hx
          obtain ⟨pl, p1, rfl⟩ := hx
          refine ⟨?_, by rintro (⟨l, q⟩ | ⟨a, l, c, z, ex, q⟩) <;> cases q⟩
          unfold mapOf at hm
          split at hm
          · rename_i es' c' hb
            injection hm with hm
            injection hm with hm1 hm2
            subst hm1; subst hm2
            obtain ⟨_, _, b, q1, q2⟩ := hr.at_ _ _ _ p1
            rw [hb] at q1
            injection q1 with q1
            subst q1
            obtain ⟨_, _, es2, q3, q4⟩ := q2
            have hlen : ∀ (es : List (V × V × Nat)) (l : List MapEntry), EntRel φ es l → l.length = es.length := by
              intro es
              induction es with
              | nil => intro l hl; rw [show l = [] from hl]; rfl
              | cons a es ih => intro l hl; obtain ⟨e, r, rfl, _, _, _, q⟩ := hl; simp [ih _ q]
            refine ValOk.same (y := goInt (List.len es')) hr ?_ (VRel.mk_int rfl)
            have h1 := hlen _ _ q4
            simp only [Builtin.len_, Sem.run_bind, r_und i2, Result.andThen_ok, List.getElem?_toArray, List.getElem?_cons_zero]
            simp [getObj, Sem.run, q3, len_eq, ← h1]
          · cases hm
        · cases k
      · cases k
    · cases k
  · cases k

theorem biMin_ok {ats : Array TypeId} {ty : TypeId} {vs : List V} {as : Array Value} (r : VRels φ vs as.toList) (k : biMin vs h = some (v, h')) :
    h' = h ∧ ∃ y, (∀ w, (Builtin.min_ ats ty as).run P w = .ok y w) ∧ VRel φ v y := by
  unfold biMin at k
  split at k
  · rename_i kx x ky y
    obtain ⟨X, Y, rfl, hx, hy⟩ := args2 r rfl
    have := hx.int; subst this
    have := hy.int; subst this
    split at k
    · rename_i hk
      injection k with k
      injection k with k1 k2
      subst k1
      refine ⟨k2.symm, .int kx (if y < x then y else x), fun w => rfl, VRel.mk_int ?_⟩
      rw [intLe_eq]
      by_cases hc : x ≤ y
      · rw [if_neg (by omega)]; simp [hc]
      · rw [if_pos (by omega)]; simp [hc]
    · cases k
  · cases k

theorem biMax_ok {ats : Array TypeId} {ty : TypeId} {vs : List V} {as : Array Value} (r : VRels φ vs as.toList) (k : biMax vs h = some (v, h')) :
    h' = h ∧ ∃ y, (∀ w, (Builtin.max_ ats ty as).run P w = .ok y w) ∧ VRel φ v y := by
  unfold biMax at k
  split at k
  · rename_i kx x ky y
    obtain ⟨X, Y, rfl, hx, hy⟩ := args2 r rfl
    have := hx.int; subst this
    have := hy.int; subst this
    split at k
    · rename_i hk
      injection k with k
      injection k with k1 k2
      subst k1
      refine ⟨k2.symm, .int kx (if y > x then y else x), fun w => rfl, VRel.mk_int ?_⟩
      rw [intLe_eq]
      by_cases hc : x ≤ y
      · by_cases hd : x = y
        · subst hd; simp
        · rw [if_pos (by omega)]; simp [hc]
      · rw [if_neg (by omega)]; simp [hc]
    · cases k
  · cases k

/-- A slice's row is stored from its start. -/
theorem storeSl_ok (hr : HRel φ h w) {a : Ad} {l c z : Nat} {ex : Bool} {X : Value} (hx : VRel φ (.sl (some a) l c z ex) X) {nw : List V} {ys : List Value}
    (hv : VRels φ nw ys) (hl : nw.length ≤ l * z) (e : h.stores a.f a.v a.o nw = some h') :
    ∃ b c' w', X = .slice (some b) l c' ∧ (storeCells b ys).run P w = .ok () w' ∧ HRel φ h' w' ∧ Ext φ w φ w' h.next ∧ h.next ≤ h'.next := by
  simp only [VRel] at hx
  obtain ⟨pl, p1, a', c', rfl, h1, h2, h3, h4⟩ := hx
  rcases h4 with ⟨q1, rfl, q3⟩ | q
  · obtain ⟨w', r1, r2, r3, r4⟩ := hr.stores (P := P) p1 q1 hv e
    exact ⟨_, _, w', rfl, r1, r2, r3, by omega⟩
  · have hl0 : l = 0 := by omega
    subst hl0
    have : nw = [] := List.eq_nil_of_length_eq_zero (by omega)
    subst this
    rw [VRels.nil_iff] at hv
    subst hv
    simp only [Heap.stores, Option.some.injEq] at e
    subst e
    exact ⟨_, _, w, rfl, rfl, hr, hr.ext_refl, Nat.le_refl _⟩

theorem biCopy_ok (ok : EnvOk P E) (hr : HRel φ h w) {ats : Array TypeId} {ty : TypeId} {vs : List V} {as : Array Value} (r : VRels φ vs as.toList) (k : biCopy E ats.toList vs h = some (v, h')) :
    ValOk P φ h w (Builtin.copy_ ats ty as) v h' := by
  unfold biCopy at k
  split at k
  · rename_i d x
    obtain ⟨D, X, rfl, hd, hx⟩ := args2 r rfl
    split at k
    · rename_i t0 rest hats
      have hats' : ats = (t0 :: rest).toArray := Array.ext' (by simpa using hats)
      subst hats'
      split at k
      · rename_i e _ _ _ _ _ base dl cap z ex hty
        obtain ⟨I, D', i1, i2, i3, _⟩ := ok.kind hty
        have := tk_slice i3; subst this
        split at k
        · rename_i te m hte hm
          obtain ⟨K, D2, e1, e2, e3, e4, e5, _⟩ := ok.kind hte
          have hsz := r_size (w := w) e1
          split at k
          · cases k
          · rename_i nw hnw
            obtain ⟨Y, y1, y2, y3, y4⟩ := firstCells_ok (P := P) hr hx hnw
            have y1' := y1 w rfl
            rw [e4] at y1'
            have hlen := lenOf_ok (P := P) hx hm w
            split at k
            · split at k
              · injection k with k
                injection k with k1 k2
                subst k1; subst k2
                simp only [VRel] at hd
                obtain ⟨rfl, _, rfl⟩ := hd
                refine ValOk.same (y := goInt (Nat.min m 0)) hr ?_ (VRel.mk_int rfl)
                simp only [Builtin.copy_, Sem.run_bind, r_und i2, Result.andThen_ok, List.getElem?_toArray, List.getElem?_cons_zero, List.getElem?_cons_succ, hlen, hsz, y1', Sem.run_pure]
              · cases k
            · rename_i a
              split at k
              · cases k
              · rename_i hz
                have hz' : z = te.size := Nat.eq_of_beq_eq_true hz
                subst hz'
                split at k
                · cases k
                · rename_i h2 hs
                  injection k with k
                  injection k with k1 k2
                  subst k1; subst k2
                  have hb : nw.length ≤ dl * te.size := by rw [y4]; exact Nat.mul_le_mul_right _ (Nat.min_le_right _ _)
                  obtain ⟨b, c', w', rfl, q1, q2, q3, q4⟩ := storeSl_ok (P := P) hr hd y2 hb hs
                  refine ⟨φ, w', goInt (Nat.min m dl), ?_, VRel.mk_int rfl, q2, q3, q4⟩
                  simp only [Builtin.copy_, Sem.run_bind, r_und i2, Result.andThen_ok, List.getElem?_toArray, List.getElem?_cons_zero, List.getElem?_cons_succ, hlen, hsz, y1', q1, Sem.run_pure]
        · cases k
      · cases k
    · cases k
  · cases k

theorem HRel.mapAt (hr : HRel φ h w) {m : Nat} {es : List (V × V × Nat)} {c : Nat} (hm : mapOf h m = some (es, c)) {pl : Pl} (p : φ m 0 = some pl) :
    h.blks.get m = some (.map es c) ∧ pl.d = 0 ∧ ∃ es' : Array MapEntry, w.heap[pl.rb]? = some (.map es' c) ∧ EntRel φ es es'.toList := by
  unfold mapOf at hm
  split at hm
  · rename_i es' c' hb
    injection hm with hm
    injection hm with hm1 hm2
    subst hm1; subst hm2
    obtain ⟨_, _, b, q1, q2⟩ := hr.at_ _ _ _ p
    rw [hb] at q1
    injection q1 with q1
    subst q1
    obtain ⟨_, d0, es2, q3, q4⟩ := q2
    exact ⟨hb, d0, es2, q3, q4⟩
  · cases hm

/-- A map's entries are laid anew. -/
theorem HRel.mapPut (hr : HRel φ h w) {m : Nat} {es : List (V × V × Nat)} {c : Nat} (hm : mapOf h m = some (es, c)) {pl : Pl} (p : φ m 0 = some pl)
    {es2 : List (V × V × Nat)} {c2 : Nat} {es2' : Array MapEntry} (hes : EntRel φ es2 es2'.toList) :
    HRel φ (h.setBlk m (.map es2 c2)) { w with heap := w.heap.setIfInBounds pl.rb (.map es2' c2) } ∧
      Ext φ w φ { w with heap := w.heap.setIfInBounds pl.rb (.map es2' c2) } h.next := by
  obtain ⟨hb, d0, _⟩ := hr.mapAt hm p
  have hlt := (hr.at_ _ _ _ p).2.1
  refine hr.put (.map es2' c2) p hb rfl ⟨rfl, d0, es2', ?_, hes⟩ rfl
  show (w.heap.setIfInBounds pl.rb _)[pl.rb]? = _
  rw [Array.getElem?_setIfInBounds, if_pos rfl, if_pos hlt]

theorem biClear_ok (ok : EnvOk P E) (hr : HRel φ h w) {ats : Array TypeId} {ty : TypeId} {vs : List V} {as : Array Value} (r : VRels φ vs as.toList) (k : biClear E ats.toList vs h = some (v, h')) :
    ValOk P φ h w (Builtin.clear_ ats ty as) v h' := by
  have tup0 : ∀ ψ, VRel ψ (.tup []) (.tuple #[]) := fun ψ => by simp only [VRel]; exact ⟨#[], rfl, VRels.nil ψ⟩
  unfold biClear at k
  split at k
  · rename_i x
    obtain ⟨X, rfl, hx⟩ := args1 r rfl
    split at k
    · rename_i t0 rest hats
      have hats' : ats = (t0 :: rest).toArray := Array.ext' (by simpa using hats)
      subst hats'
      split at k
      · rename_i e _ _ _ _ _ base n cap z ex hty
        obtain ⟨I, D', i1, i2, i3, _⟩ := ok.kind hty
        have := tk_slice i3; subst this
        split at k
        · injection k with k
          injection k with k1 k2
          subst k1; subst k2
          simp only [VRel] at hx
          obtain ⟨rfl, _, rfl⟩ := hx
          exact ValOk.same hr (by simp [Builtin.clear_, r_und i2]) (tup0 _)
        · injection k with k
          injection k with k1 k2
          subst k1; subst k2
          simp only [VRel] at hx
          obtain ⟨_, _, _, _, rfl, _⟩ := hx
          exact ValOk.same hr (by simp [Builtin.clear_, r_und i2]) (tup0 _)
        · rename_i a hn0
          split at k
          · rename_i kk sz by_ zs ag pe hte
            obtain ⟨K, D2, e1, e2, e3, e4, e5, _⟩ := ok.kind hte
            obtain ⟨K', zz, z1, z2, z3⟩ := ok.zero hte rfl
            have hK : K' = K := by rw [e1] at z1; injection z1 with z1; exact z1.symm
            subst hK
            split at k
            · cases k
            · rename_i hc
              simp only [Bool.and_eq_true, Bool.not_eq_true'] at hc
              obtain ⟨c1, c2, c3⟩ := hc
              have c1' : sz = z := Nat.eq_of_beq_eq_true c1
              have c2' : zs.length = sz := Nat.eq_of_beq_eq_true c2
              have c3' : sz ≠ 0 := by intro q; rw [q] at c3; cases c3
              have hzc : zz.cells.size = sz := by have := (z3 φ).length; simp at this; omega
              split at k
              · cases k
              · rename_i h2 hs
                injection k with k
                injection k with k1 k2
                subst k1; subst k2
                have hzr := zeros_rel (z3 φ) (by omega) n
                obtain ⟨b, c', w', rfl, q1, q2, q3, q4⟩ := storeSl_ok (P := P) hr hx hzr (by rw [rep_length, c2', c1']; exact Nat.le_refl _) hs
                refine ⟨φ, w', .tuple #[], ?_, tup0 _, q2, q3, q4⟩
                have hz0 : (zeroValue e).run P w = .ok zz w := r_zero z1 z2
                cases n with
                | zero => exact (hn0 rfl).elim
                | succ n =>
                  simp only [Builtin.clear_, Sem.run_bind, r_und i2, Result.andThen_ok, List.getElem?_toArray, List.getElem?_cons_zero, hz0]
                  simp only [Builtin.zeroCells]
                  rw [q1]
                  rfl
          · cases k
      · injection k with k
        injection k with k1 k2
        subst k1; subst k2
        rename_i hty
        obtain ⟨I, D', i1, i2, i3, _⟩ := ok.kind hty
        have := tk_map i3; subst this
        simp only [VRel] at hx
        subst hx
        exact ValOk.same hr (by simp [Builtin.clear_, r_und i2]) (tup0 _)
      · rename_i kt et _ _ _ _ _ r0 hty
        obtain ⟨I, D', i1, i2, i3, _⟩ := ok.kind hty
        have := tk_map i3; subst this
        split at k
        · rename_i es c hm
          injection k with k
          injection k with k1 k2
          subst k1; subst k2
          simp only [VRel] at hx
          obtain ⟨pl, p1, rfl⟩ := hx
          obtain ⟨hb, d0, es', g1, g2⟩ := hr.mapAt hm p1
          obtain ⟨q1, q2⟩ := hr.mapPut hm p1 (es2 := []) (c2 := c) (es2' := #[]) rfl
          refine ⟨φ, _, .tuple #[], ?_, tup0 _, q1, q2, Nat.le_refl _⟩
          simp [Builtin.clear_, r_und i2, getObj, Sem.run, g1, setObj]
        · cases k
      · cases k
    · cases k
  · cases k

end
end Go.Am

