/-
  THE PLACES CUT TO THE FAMILIES BELOW A NUMBER; OPERANDS ALONE.
-/
import Derived.Test.YtdohdcfmcmncfaaGreatDoorAmG
import Derived.Orders
namespace Go.Am

def Mp.cut (φ : Mp) (n : Nat) : Mp := fun f v => if f < n then φ f v else none

theorem Mp.cut_lt {φ : Mp} {n f v : Nat} (h : f < n) : φ.cut n f v = φ f v := if_pos h
theorem Mp.cut_some {φ : Mp} {n f v : Nat} {pl : Pl} (e : φ.cut n f v = some pl) : f < n ∧ φ f v = some pl := by
  unfold Mp.cut at e
  split at e
  · rename_i h; exact ⟨h, e⟩
  · cases e
theorem Mp.cut_le (φ : Mp) (n : Nat) : (φ.cut n).le φ := fun _ _ _ e => (Mp.cut_some e).2
theorem Mp.cut_below (φ : Mp) (n : Nat) : (φ.cut n).below n := fun _ _ _ e => (Mp.cut_some e).1

theorem FnRel.cut {φ : Mp} {n : Nat} {f g : Fn} (r : FnRel φ f g) (b : FnBd n f) : FnRel (φ.cut n) f g := by
  cases f <;> simp only [FnRel] at r ⊢ <;> first | exact r | (obtain ⟨pl, a, c⟩ := r; exact ⟨pl, by rw [Mp.cut_lt b]; exact a, c⟩)

mutual
theorem VRel.cut {φ : Mp} {n : Nat} : ∀ (x : V) (y : Value), VRel φ x y → Bd n x → VRel (φ.cut n) x y
  | .b _, _, r, _ => by simpa only [VRel] using r
  | .i _ _, _, r, _ => by simpa only [VRel] using r
  | .s _, _, r, _ => by simpa only [VRel] using r
  | .p none, _, r, _ => by simpa only [VRel] using r
  | .p (some a), _, r, b => by
    simp only [VRel] at r ⊢
    have b : a.f < n := b
    obtain ⟨pl, c, d⟩ := r; exact ⟨pl, by rw [Mp.cut_lt b]; exact c, d⟩
  | .sl none _ _ _ _, _, r, _ => by simpa only [VRel] using r
  | .sl (some a) _ _ _ _, _, r, b => by
    simp only [VRel] at r ⊢
    have b : a.f < n := b
    obtain ⟨pl, c, d⟩ := r; exact ⟨pl, by rw [Mp.cut_lt b]; exact c, d⟩
  | .m none, _, r, _ => by simpa only [VRel] using r
  | .m (some a), _, r, b => by
    simp only [VRel] at r ⊢
    have b : a < n := b
    obtain ⟨pl, c, d⟩ := r; exact ⟨pl, by rw [Mp.cut_lt b]; exact c, d⟩
  | .fn f x c, _, r, b => by
    simp only [VRel] at r ⊢
    simp only [Bd] at b
    obtain ⟨g, u, v, e, a, d, k⟩ := r
    exact ⟨g, u, v, e, a.cut b.1, VRels.cut x _ d b.2.1, VRels.cut c _ k b.2.2⟩
  | .nf, _, r, _ => by simpa only [VRel] using r
  | .ifc t x, _, r, b => by
    simp only [VRel] at r ⊢
    simp only [Bd] at b
    obtain ⟨u, e, a⟩ := r
    exact ⟨u, e, VRel.cut x _ a b⟩
  | .nifc, _, r, _ => by simpa only [VRel] using r
  | .agg l, _, r, b => by
    simp only [VRel] at r ⊢
    simp only [Bd] at b
    obtain ⟨u, e, a⟩ := r
    exact ⟨u, e, VRels.cut l _ a b⟩
  | .tup l, _, r, b => by
    simp only [VRel] at r ⊢
    simp only [Bd] at b
    obtain ⟨u, e, a⟩ := r
    exact ⟨u, e, VRels.cut l _ a b⟩
theorem VRels.cut {φ : Mp} {n : Nat} : ∀ (x : List V) (y : List Value), VRels φ x y → Bds n x → VRels (φ.cut n) x y
  | [], _, r, _ => by simpa only [VRels] using r
  | x :: xs, _, r, b => by
    simp only [VRels] at r ⊢
    simp only [Bds] at b
    obtain ⟨y, ys, e, a, c⟩ := r
    exact ⟨y, ys, e, VRel.cut x _ a b.1, VRels.cut xs _ c b.2⟩
end

theorem EntRel.cut {φ : Mp} {n : Nat} : ∀ {es : List (V × V × Nat)} {l : List MapEntry}, EntRel φ es l → EntBd n es → EntRel (φ.cut n) es l
  | [], _, r, _ => r
  | (_, _, _) :: _, _, ⟨e, r, a, b, c, d, k⟩, q => ⟨e, r, a, VRel.cut _ _ b q.1, VRel.cut _ _ c q.2.1, d, k.cut q.2.2⟩

theorem BRel.cut {φ : Mp} {n : Nat} {w : World} {v : Nat} {pl : Pl} {b : Blk} (r : BRel φ w v pl b) (hb : BlkBd n b) : BRel (φ.cut n) w v pl b := by
  cases b with
  | fam f =>
    obtain ⟨c, e, fr, a1, a2, a3, a4, a5, a6⟩ := r
    exact ⟨c, e, fr, a1, a2, a3, a4, a5, fun o x st g k d => let ⟨y, p, q⟩ := a6 o x st g k d; ⟨y, p, VRel.cut _ _ q (hb _ _ _ g)⟩⟩
  | map es c => obtain ⟨v0, d, es', a, b⟩ := r; exact ⟨v0, d, es', a, b.cut hb⟩
  | siter l p => exact r
  | miter m since seen st =>
    obtain ⟨v0, d, m', seen', a, b, c⟩ := r
    refine ⟨v0, d, m', seen', a, b, ?_⟩
    cases m with
    | none => exact c
    | some r =>
      have hb : r < n := hb
      obtain ⟨q, x, y⟩ := c; exact ⟨q, by rw [Mp.cut_lt hb]; exact x, y⟩
  | loop p =>
    obtain ⟨v0, d, tm, d', a, b, cc, q, x, y⟩ := r
    exact ⟨v0, d, tm, d', a, ⟨b.1, fun k z e => VRel.cut _ _ (b.2 k z e) (hb.1 k z e)⟩, cc, q, by rw [Mp.cut_lt hb.2]; exact x, y⟩
  | dfr => exact r
  | dead => exact r

/-! ### The slots that an operation reads -/
noncomputable def restr (m : Tr V) : List Tmp → Tr V
  | [] => .nil
  | k :: ks => match m.get k with
    | some x => (restr m ks).set k x
    | none => restr m ks

theorem restr_get (m : Tr V) : ∀ (l : List Tmp) (k : Tmp), (restr m l).get k = if k ∈ l then m.get k else none
  | [], k => by simp [restr, Tr.get_nil]
  | a :: l, k => by
    simp only [restr]
    by_cases h : k = a
    · subst h
      rw [if_pos (by simp)]
      split
      · rename_i x hx; rw [Tr.get_set_eq, hx]
      · rename_i hx
        rw [restr_get, hx]
        split <;> first | exact hx | rfl
    · have hm : (k ∈ a :: l) = (k ∈ l) := by simp [h]
      split
      · rw [Tr.get_set_ne _ _ h, restr_get]; simp only [hm]
      · rw [restr_get]; simp only [hm]

theorem mem_tmpsOf : ∀ {l : List Operand} {k : Tmp}, Operand.tmp k ∈ l → k ∈ tmpsOf l
  | x :: xs, k, h => by
    cases h with
    | head => simp [tmpsOf]
    | tail _ h =>
      have := mem_tmpsOf h
      cases x <;> simp [tmpsOf, this]

noncomputable def T.restr (t : T) (o : Oper) : T := ⟨t.n, Am.restr t.m (tmpsOf o.op.operands.toList)⟩

theorem T.restr_ev {t : T} {o : Oper} {x : Operand} (h : x ∈ o.op.operands.toList) : (t.restr o).ev x = t.ev x := by
  cases x with
  | tmp k =>
    show (Am.restr t.m _).get k = t.m.get k
    rw [restr_get, if_pos (mem_tmpsOf h)]
  | _ => rfl

theorem evs_congr {t t' : T} : ∀ {l : List Operand}, (∀ x ∈ l, t'.ev x = t.ev x) → t'.evs l = t.evs l
  | [], _ => rfl
  | x :: xs, h => by
    simp only [T.evs, h x (by simp), evs_congr (l := xs) fun y hy => h y (by simp [hy])]


theorem evParts_congr {t t' : T} : ∀ {l : List (Nat × Operand)}, (∀ x ∈ l.map (·.2), t'.ev x = t.ev x) → t'.evParts l = t.evParts l
  | [], _ => rfl
  | (i, x) :: xs, h => by
    simp only [T.evParts, h x (by simp), evParts_congr (l := xs) fun y hy => h y (by simp only [List.map_cons, List.mem_cons]; exact .inr hy)]

theorem evOpt_congr {t t' : T} {o : Option Operand} (h : ∀ x, o = some x → t'.ev x = t.ev x) : t'.evOpt o = t.evOpt o := by
  cases o with
  | none => rfl
  | some x => simp only [T.evOpt, h x rfl]

theorem opV_congr {E : Env} {C : Calls'} {o : Oper} {t t' : T} {h : Heap} (hx : ∀ x ∈ o.op.operands.toList, t'.ev x = t.ev x) : opV E C o t' h = opV E C o t h := by
  obtain ⟨dst, op, type, pos, after, guard⟩ := o
  cases op <;> simp only [Op.operands] at hx <;> simp only [opV]
  case move x => simp only [opMove, hx x (by simp)]
  case assign x => simp only [opMove, hx x (by simp)]
  case pick c a b => simp only [opPick, hx c (by simp), hx a (by simp), hx b (by simp)]
  case alloc e => rfl
  case box e x => simp only [opBox, hx x (by simp)]
  case build ty ps => simp only [opBuild, evParts_congr (l := ps.toList) (t := t) (t' := t') (fun x hm => hx x (by simpa using hm))]
  case buildSlice ty n ps => simp only [opBuildSlice, evParts_congr (l := ps.toList) (t := t) (t' := t') (fun x hm => hx x (by simpa using hm))]
  case load ty a => simp only [opLoad, hx a (by simp)]
  case store ty a x => simp only [opStore, hx a (by simp), hx x (by simp)]
  case nilCheck x => simp only [opNilCheck, hx x (by simp)]
  case binOp op ty x y yt => simp only [opBinOp, hx x (by simp), hx y (by simp)]
  case unOp op ty x => simp only [opUnOp, hx x (by simp)]
  case convert s d x => simp only [opConvert, hx x (by simp)]
  case makeInterface ty x => simp only [opMakeInterface, hx x (by simp)]
  case makeFunc fn a b =>
    simp only [opMakeFunc, evs_congr (l := a.toList) (t := t) (t' := t') (fun x hm => hx x (by simp at hm ⊢; exact .inl hm)), evs_congr (l := b.toList) (t := t) (t' := t') (fun x hm => hx x (by simp at hm ⊢; exact .inr hm))]
  case makeMap ty r =>
    cases r with
    | none => rfl
    | some x => simp only [opMakeMap, hx x (by simp)]
  case makeSlice ty l c => simp only [opMakeSlice, hx l (by simp), hx c (by simp)]
  case slice ty x lo hi mx =>
    simp only [opSlice, hx x (by simp), evOpt_congr (o := lo) (t := t) (t' := t') (fun y e => hx y (by subst e; simp)), evOpt_congr (o := hi) (t := t) (t' := t') (fun y e => hx y (by subst e; simp)), evOpt_congr (o := mx) (t := t) (t' := t') (fun y e => hx y (by subst e; simp))]
  case fieldAddr s x f => simp only [opFieldAddr, hx x (by simp)]
  case field s x f => simp only [opField, hx x (by simp)]
  case indexAddr ty x ix => simp only [opIndexAddr, hx x (by simp), hx ix (by simp)]
  case index ty x ix => simp only [opIndex, hx x (by simp), hx ix (by simp)]
  case lookup ty x ix c => simp only [opLookup, hx x (by simp), hx ix (by simp)]
  case mapUpdate ty m kx x => simp only [opMapUpdate, hx m (by simp), hx kx (by simp), hx x (by simp)]
  case mapEntry ty m kx => simp only [opMapEntry, hx m (by simp), hx kx (by simp)]
  case entryStore ty m s x => simp only [opEntryStore, hx m (by simp), hx s (by simp), hx x (by simp)]
  case range ty x => simp only [opRange, hx x (by simp)]
  case next it s => simp only [opNext, hx it (by simp)]
  case extract x n => simp only [opExtract, hx x (by simp)]
  case call c =>
    have ha : t'.evs c.args.toList = t.evs c.args.toList := evs_congr fun x hm => hx x (by simp only [Call.operands]; split <;> simp at hm ⊢ <;> first | exact .inr hm | exact hm)
    simp only [opCall, ha]
    cases hc : c.callee with
    | builtin b => rfl
    | invoke r m => simp only [hx r (by simp [Call.operands, hc])]
    | value f => simp only [hx f (by simp [Call.operands, hc])]

theorem kindOf_congr {o : Oper} {t t' : T} (hx : ∀ x ∈ o.op.operands.toList, t'.ev x = t.ev x) : kindOf t' o = kindOf t o := by
  obtain ⟨dst, op, type, pos, after, guard⟩ := o
  cases op <;> simp only [Op.operands] at hx <;> simp only [kindOf]
  case binOp op ty x y yt => simp only [hx x (by simp), hx y (by simp)]
  case convert s d x => simp only [hx x (by simp)]
  case call c =>
    have ha : t'.evs c.args.toList = t.evs c.args.toList := evs_congr fun x hm => hx x (by simp only [Call.operands]; split <;> simp at hm ⊢ <;> first | exact .inr hm | exact hm)
    obtain ⟨callee, args, argTypes⟩ := c
    cases callee <;> try rfl
    rename_i b
    cases b <;> first | rfl | simp only [ha]

end Go.Am

/-
  A REGION's ORDERS: what its check says of edges, writers and readers; every order lists all operations.
-/
namespace Go.Am

/-! ### Bits -/
theorem maskOf_bit {b : Tr Nat} {j : Nat} : ∀ (es : List Edge) (m : Nat), Nat.testBit (maskOf b es m) j = true →
    Nat.testBit m j = true ∨ ∃ e ∈ es, Region.binds .any e = true ∧ (e.on = j ∨ bitT b e.on j = true)
  | [], m, h => .inl h
  | e :: es, m, h => by
    simp only [maskOf] at h
    split at h
    · rename_i hb
      rcases maskOf_bit es _ h with h1 | ⟨e', q1, q2⟩
      · have h1 : Nat.testBit ((m ||| 2 ^ e.on) ||| (match b.get e.on with | some x => x | none => 0)) j = true := h1
        rw [Nat.testBit_or, Nat.testBit_or] at h1
        simp only [Bool.or_eq_true] at h1
        rcases h1 with (h1 | h1) | h1
        · exact .inl h1
        · rw [Nat.testBit_two_pow] at h1
          exact .inr ⟨e, by simp, hb, .inl (by simpa using h1)⟩
        · refine .inr ⟨e, by simp, hb, .inr ?_⟩
          unfold bitT
          split at h1
          · rename_i x hx; rw [hx]; exact h1
          · simp at h1
      · exact .inr ⟨e', by simp [q1], q2⟩
    · rcases maskOf_bit es _ h with h1 | ⟨e', q1, q2⟩
      · exact .inl h1
      · exact .inr ⟨e', by simp [q1], q2⟩

theorem befT_lt : ∀ (os : List Oper) (k : Nat) (b : Tr Nat) (i : Nat), i < k → (befT os k b).get i = b.get i
  | [], _, _, _, _ => rfl
  | o :: os, k, b, i, h => by
    simp only [befT]
    rw [befT_lt os (Nat.succ k) _ i (by omega), Tr.get_set_ne _ _ (by omega)]

theorem befT_at : ∀ (os : List Oper) (k : Nat) (b : Tr Nat) (i : Nat) (o : Oper), os[i]? = some o →
    ∃ b', (befT os k b).get (k + i) = some (maskOf b' o.after.toList 0) ∧ ∀ j, j < k + i → b'.get j = (befT os k b).get j
  | [], _, _, _, _, h => by simp at h
  | o :: os, k, b, 0, o', h => by
    simp at h
    subst h
    refine ⟨b, ?_, fun j hj => ?_⟩
    · simp only [befT]
      rw [befT_lt os (Nat.succ k) _ _ (by omega), Nat.add_zero, Tr.get_set_eq]
    · simp only [befT]
      rw [befT_lt os (Nat.succ k) _ j (by omega), Tr.get_set_ne _ _ (by omega)]
  | o :: os, k, b, i + 1, o', h => by
    simp only [befT]
    have := befT_at os (Nat.succ k) (b.set k (maskOf b o.after.toList 0)) i o' (by simpa using h)
    rw [show k + (i + 1) = Nat.succ k + i by omega]
    exact this

/-! ### What the check says -/
theorem edgesBack_at {k : Nat} : ∀ {es : List Edge}, edgesBack k es = true → ∀ e ∈ es, Region.binds .any e = true → e.on < k
  | x :: es, h, e, he, hb => by
    simp only [edgesBack, Bool.and_eq_true] at h
    cases he with
    | head => have := h.1; rw [hb] at this; simpa using this
    | tail _ he => exact edgesBack_at h.2 e he hb

theorem aheadOf_at {b : Tr Nat} {k d : Nat} : ∀ {r : List (Nat × Nat)}, aheadOf b k d r = true → ∀ i, (d, i) ∈ r → bitT b k i = true
  | (e, i) :: r, h, j, hj => by
    simp only [aheadOf] at h
    split at h
    · simp only [Bool.and_eq_true] at h
      cases hj with
      | head => exact h.1
      | tail _ hj => exact aheadOf_at h.2 j hj
    · rename_i hn
      cases hj with
      | head => simp at hn
      | tail _ hj => exact aheadOf_at h j hj

theorem aheadAll_at {b : Tr Nat} {k : Nat} {w : List (Nat × Nat)} : ∀ {ds : List Nat}, aheadAll b k w ds = true → ∀ d ∈ ds, ∀ i, (d, i) ∈ w → bitT b k i = true
  | x :: ds, h, d, hd, i, hi => by
    simp only [aheadAll, Bool.and_eq_true] at h
    cases hd with
    | head => exact aheadOf_at h.1 i hi
    | tail _ hd => exact aheadAll_at h.2 d hd i hi

theorem notIn_at {d : Nat} : ∀ {r : List (Nat × Nat)}, notIn d r = true → ∀ i, (d, i) ∉ r
  | [], _, i, hi => by cases hi
  | (e, j) :: r, h, i, hi => by
    simp only [notIn, Bool.and_eq_true] at h
    cases hi with
    | head => simp at h
    | tail _ hi => exact notIn_at h.2 i hi

theorem pairs_mem {k : Nat} {x : Nat × Nat} : ∀ {ds : List Nat} {r : List (Nat × Nat)}, x ∈ pairs k ds r ↔ (x.2 = k ∧ x.1 ∈ ds) ∨ x ∈ r
  | [], r => by simp [pairs]
  | d :: ds, r => by
    obtain ⟨a, b⟩ := x
    simp only [pairs, List.mem_cons, pairs_mem (ds := ds)]
    constructor
    · rintro (h | h | h)
      · injection h with h1 h2; subst h1; subst h2; simp
      · exact .inl ⟨h.1, .inr h.2⟩
      · exact .inr h
    · rintro (⟨h1, h2 | h2⟩ | h)
      · subst h1; subst h2; exact .inl rfl
      · exact .inr (.inl ⟨h1, h2⟩)
      · exact .inr (.inr h)

/-- What the check says of one operation. -/
structure ChkAt (ops : Array Oper) (b : Tr Nat) (k : Nat) (o : Oper) (ws rs : List (Nat × Nat)) : Prop where
  back : edgesBack k o.after.toList = true
  guard : guardOk ops k o = true
  nodef : noDefer o = true
  reads : ∀ d ∈ readsOf ops o, ∀ i, (d, i) ∈ ws → bitT b k i = true
  one : ∀ d, o.dst = some d → ∀ i, (d, i) ∉ ws
  after : ∀ d, o.dst = some d → ∀ i, (d, i) ∈ rs → bitT b k i = true

theorem regChk_at {ops : Array Oper} {b : Tr Nat} : ∀ (os : List Oper) (k : Nat) (ws rs : List (Nat × Nat)), regChk ops b os k ws rs = true → ∀ (i : Nat) (o : Oper), os[i]? = some o →
    ∃ ws' rs', (∀ x ∈ ws, x ∈ ws') ∧ (∀ x ∈ rs, x ∈ rs') ∧ (∀ (j : Nat) (o' : Oper) (d : Tmp), j < i → os[j]? = some o' → o'.dst = some d → (d, k + j) ∈ ws') ∧
      (∀ (j : Nat) (o' : Oper) (d : Tmp), j < i → os[j]? = some o' → d ∈ readsOf ops o' → (d, k + j) ∈ rs') ∧ ChkAt ops b (k + i) o ws' rs'
  | [], _, _, _, _, _, _, h => by simp at h
  | o :: os, k, ws, rs, h, 0, o', ho => by
    simp at ho
    subst ho
    simp only [regChk, Bool.and_eq_true] at h
    obtain ⟨h1, h2, h3, h4, h5⟩ := h
    refine ⟨ws, rs, fun _ h => h, fun _ h => h, fun j _ _ hj => by omega, fun j _ _ hj => by omega, ⟨h1, h2, h3, fun d hd i hi => aheadAll_at h4 d hd i hi, fun d hd i => ?_, fun d hd i hi => ?_⟩⟩
    · rw [hd] at h5; simp only [Bool.and_eq_true] at h5; exact notIn_at h5.1 i
    · rw [hd] at h5; simp only [Bool.and_eq_true] at h5; exact aheadOf_at h5.2.1 i hi
  | o :: os, k, ws, rs, h, i + 1, o', ho => by
    simp only [regChk, Bool.and_eq_true] at h
    obtain ⟨_, _, _, _, h5⟩ := h
    have key : ∃ ws1, regChk ops b os (Nat.succ k) ws1 (pairs k (readsOf ops o) rs) = true ∧ (∀ x ∈ ws, x ∈ ws1) ∧ ∀ d, o.dst = some d → (d, k) ∈ ws1 := by
      cases hd : o.dst with
      | none => rw [hd] at h5; exact ⟨ws, h5, fun _ h => h, fun d q => by cases q⟩
      | some d =>
        rw [hd] at h5
        simp only [Bool.and_eq_true] at h5
        exact ⟨(d, k) :: ws, h5.2.2, fun x hx => by simp [hx], fun d' q => by injection q with q; subst q; simp⟩
    obtain ⟨ws1, q1, q2, q3⟩ := key
    obtain ⟨ws', rs', r1, r2, r3, r4, r5⟩ := regChk_at os (Nat.succ k) ws1 _ q1 i o' (by simpa using ho)
    refine ⟨ws', rs', fun x hx => r1 x (q2 x hx), fun x hx => r2 x (pairs_mem.2 (.inr hx)), fun j oj d hj hoj hd => ?_, fun j oj d hj hoj hd => ?_, by rw [show k + (i + 1) = Nat.succ k + i by omega]; exact r5⟩
    · cases j with
      | zero => simp at hoj; subst hoj; exact r1 _ (q3 d hd)
      | succ j =>
        have := r3 j oj d (by omega) (by simpa using hoj) hd
        rw [show k + (j + 1) = Nat.succ k + j by omega]; exact this
    · cases j with
      | zero => simp at hoj; subst hoj; exact r2 _ (pairs_mem.2 (.inl ⟨rfl, hd⟩))
      | succ j =>
        have := r4 j oj d (by omega) (by simpa using hoj) hd
        rw [show k + (j + 1) = Nat.succ k + j by omega]; exact this

/-- The order's facts of a region. -/
structure OrdOk (ops : Array Oper) (b : Tr Nat) : Prop where
  back : ∀ (i : Nat) (o : Oper), ops[i]? = some o → ∀ e ∈ o.after.toList, Region.binds .any e = true → e.on < i
  bit : ∀ (i : Nat) (o : Oper) (j : Nat), ops[i]? = some o → bitT b i j = true → ∃ e ∈ o.after.toList, Region.binds .any e = true ∧ (e.on = j ∨ bitT b e.on j = true)
  guard : ∀ (i : Nat) (o : Oper), ops[i]? = some o → guardOk ops i o = true
  nodef : ∀ (i : Nat) (o : Oper), ops[i]? = some o → noDefer o = true
  one : ∀ (i : Nat) (o : Oper) (j : Nat) (o' : Oper) (d : Tmp), ops[i]? = some o → ops[j]? = some o' → o.dst = some d → o'.dst = some d → i = j
  rw_ : ∀ (i : Nat) (o : Oper) (j : Nat) (o' : Oper) (d : Tmp), ops[i]? = some o → ops[j]? = some o' → j < i → d ∈ readsOf ops o → o'.dst = some d → bitT b i j = true
  wr_ : ∀ (i : Nat) (o : Oper) (j : Nat) (o' : Oper) (d : Tmp), ops[i]? = some o → ops[j]? = some o' → j < i → o.dst = some d → d ∈ readsOf ops o' → bitT b i j = true

theorem ordOk {ops : Array Oper} (h : regChk ops (befT ops.toList 0 .nil) ops.toList 0 [] [] = true) : OrdOk ops (befT ops.toList 0 .nil) := by
  have at_ := regChk_at ops.toList 0 [] [] h
  have lst : ∀ {i : Nat} {o : Oper}, ops[i]? = some o → ops.toList[i]? = some o := fun h => by simpa using h
  have back : ∀ (i : Nat) (o : Oper), ops[i]? = some o → ∀ e ∈ o.after.toList, Region.binds .any e = true → e.on < i := by
    intro i o ho
    obtain ⟨_, _, _, _, _, _, c⟩ := at_ i o (lst ho)
    have := edgesBack_at c.back
    simpa using this
  have one : ∀ (i : Nat) (o : Oper) (j : Nat) (o' : Oper) (d : Tmp), ops[i]? = some o → ops[j]? = some o' → j < i → o.dst = some d → o'.dst ≠ some d := by
    intro i o j o' d hi hj hlt hd hd'
    obtain ⟨ws, rs, _, _, q3, _, c⟩ := at_ i o (lst hi)
    exact c.one d hd _ (q3 j o' d hlt (lst hj) hd')
  refine ⟨back, fun i o j ho hb => ?_, fun i o ho => ?_, fun i o ho => ?_, fun i o j o' d hi hj hd hd' => ?_, fun i o j o' d hi hj hlt hd hd' => ?_, fun i o j o' d hi hj hlt hd hd' => ?_⟩
  · obtain ⟨b', e1, e2⟩ := befT_at ops.toList 0 .nil i o (lst ho)
    rw [Nat.zero_add] at e1 e2
    unfold bitT at hb
    rw [e1] at hb
    rcases maskOf_bit _ _ hb with q | ⟨e, q1, q2, q3⟩
    · simp at q
    · refine ⟨e, q1, q2, ?_⟩
      rcases q3 with q3 | q3
      · exact .inl q3
      · refine .inr ?_
        unfold bitT at q3 ⊢
        rw [← e2 _ (back i o ho e q1 q2)]
        exact q3
  · obtain ⟨_, _, _, _, _, _, c⟩ := at_ i o (lst ho)
    have := c.guard
    rwa [Nat.zero_add] at this
  · obtain ⟨_, _, _, _, _, _, c⟩ := at_ i o (lst ho)
    exact c.nodef
  · rcases Nat.lt_trichotomy i j with hlt | hlt | hlt
    · exact absurd hd (one j o' i o d hj hi hlt hd')
    · exact hlt
    · exact absurd hd' (one i o j o' d hi hj hlt hd)
  · obtain ⟨ws, rs, _, _, q3, _, c⟩ := at_ i o (lst hi)
    have := c.reads d hd _ (q3 j o' d hlt (lst hj) hd')
    simpa using this
  · obtain ⟨ws, rs, _, _, _, q4, c⟩ := at_ i o (lst hi)
    have := c.after d hd _ (q4 j o' d hlt (lst hj) hd')
    simpa using this

theorem OrdOk.lt {ops : Array Oper} {b : Tr Nat} (k : OrdOk ops b) : ∀ (i : Nat) (o : Oper) (j : Nat), ops[i]? = some o → bitT b i j = true → j < i := by
  intro i
  induction i using Nat.strongRecOn with
  | _ i ih =>
    intro o j ho hb
    obtain ⟨e, q1, q2, q3⟩ := k.bit i o j ho hb
    have hlt := k.back i o ho e q1 q2
    rcases q3 with q3 | q3
    · omega
    · have hi : i < ops.size := by
        rw [Array.getElem?_eq_some_iff] at ho
        exact ho.1
      have := ih e.on hlt ops[e.on] j (by simp) q3
      omega

/-! ### What is done -/
def Dn (listed : Array Bool) (i : Nat) : Prop := listed.getD i false = true

/-- What is done, is done behind all that comes ahead of it. -/
def Closed (b : Tr Nat) (listed : Array Bool) : Prop := ∀ i j, Dn listed i → bitT b i j = true → Dn listed j

theorem dn_set {listed : Array Bool} {i j : Nat} (hi : i < listed.size) : Dn (listed.setIfInBounds i true) j ↔ j = i ∨ Dn listed j := by
  unfold Dn
  by_cases h : j = i
  · subst h
    simp [Array.getD_eq_getD_getElem?, hi]
  · simp [Array.getD_eq_getD_getElem?, h, Ne.symm h]

theorem Dn.lt {listed : Array Bool} {i : Nat} (h : Dn listed i) : i < listed.size := by
  unfold Dn at h
  rw [Array.getD_eq_getD_getElem?] at h
  cases hi : listed[i]? with
  | none => rw [hi] at h; cases h
  | some x => exact (Array.getElem?_eq_some_iff.1 hi).1

theorem ready_at {ops : Array Oper} {b : Tr Nat} (k : OrdOk ops b) {listed : Array Bool} (hc : Closed b listed) {i : Nat} {o : Oper} (ho : ops[i]? = some o) (hr : i ∈ Region.ready .any ops listed) :
    (∀ j, bitT b i j = true → Dn listed j) := by
  intro j hb
  obtain ⟨e, q1, q2, q3⟩ := k.bit i o j ho hb
  obtain ⟨h1, oi, h2, h3⟩ := mem_ready.1 hr
  rw [ho] at h2
  injection h2 with h2
  subst h2
  have hd : Dn listed e.on := by
    have := h3 e (by simpa using q1)
    simpa [q2, Dn] using this
  rcases q3 with q3 | q3
  · exact q3 ▸ hd
  · exact hc _ _ hd q3

/-- How many are not done yet. -/
def left (n : Nat) (listed : Array Bool) : Nat := ((List.range n).filter fun i => !listed.getD i false).length

theorem left_zero {n : Nat} {listed : Array Bool} (h : left n listed = 0) : ∀ i, i < n → Dn listed i := by
  intro i hi
  unfold left at h
  rw [List.length_eq_zero_iff, List.filter_eq_nil_iff] at h
  have := h i (by simpa using hi)
  simpa [Dn] using this

theorem left_set {n : Nat} {listed : Array Bool} {i : Nat} (hi : i < n) (hs : i < listed.size) (hd : ¬ Dn listed i) : left n (listed.setIfInBounds i true) < left n listed := by
  unfold left
  have e : ((List.range n).filter fun j => !(listed.setIfInBounds i true).getD j false) = (((List.range n).filter fun j => !listed.getD j false).filter fun j => j != i) := by
    rw [List.filter_filter]
    apply List.filter_congr
    intro j _
    have := dn_set (j := j) hs
    unfold Dn at this
    by_cases h : j = i
    · subst h
      simp [this.2 (.inl rfl)]
    · have h2 : (listed.setIfInBounds i true).getD j false = listed.getD j false := by
        rw [Bool.eq_iff_iff, this]
        simp [h]
      rw [h2]
      simp [h]
  rw [e, List.length_filter_lt_length_iff_exists]
  refine ⟨i, ?_, by simp⟩
  rw [List.mem_filter]
  refine ⟨by simpa using hi, ?_⟩
  unfold Dn at hd
  simpa using hd

theorem getD_false {listed : Array Bool} {i : Nat} (h : i < listed.size) : listed.getD i true = listed.getD i false := by
  simp [Array.getD_eq_getD_getElem?, h]

/-- Where something is left, something is ready. -/
theorem ready_none {ops : Array Oper} {b : Tr Nat} (k : OrdOk ops b) {listed : Array Bool} (hs : listed.size = ops.size) (h : Region.ready .any ops listed = []) : ∀ i, i < ops.size → Dn listed i := by
  intro i
  induction i using Nat.strongRecOn with
  | _ i ih =>
    intro hi
    by_cases hd : Dn listed i
    · exact hd
    · exfalso
      have : i ∈ Region.ready .any ops listed := by
        refine mem_ready.2 ⟨?_, ops[i], by simp, fun e he hb => ?_⟩
        · rw [getD_false (by omega)]
          unfold Dn at hd
          simpa using hd
        · have hlt := k.back i ops[i] (by simp) e (by simpa using he) hb
          exact ih e.on hlt (by omega)
      rw [h] at this
      cases this

end Go.Am

/-
  WHAT AN OPERATION's KIND SAYS OF IT: one that is pure looks at no memory, one that is new lays one block.
-/
namespace Go.Am

section
variable {P : Program} {E : Env} {φ : Mp} {t : T} {h h' : Heap} {ρ : Operand → Value} {v : V} {w : World}

theorem biLen_pure (ok : EnvOk P E) {ats : Array TypeId} {ty : TypeId} {vs : List V} {as : Array Value} (r : VRels φ vs as.toList) (hvs : (∃ l, vs = [.s l]) ∨ (∃ a l c z ex, vs = [.sl a l c z ex]))
    (k : biLen E ats.toList vs h = some (v, h')) : h' = h ∧ ∃ y, (∀ w, (Builtin.len_ ats ty as).run P w = .ok y w) ∧ VRel φ v y := by
  unfold biLen at k
  split at k
  · rename_i x
    obtain ⟨X, rfl, hx⟩ := args1 r rfl
    split at k
    · rename_i t0 rest hats
      have hats' : ats = (t0 :: rest).toArray := Array.ext' (by simpa using hats)
      subst hats'
      have mk : ∀ (n : Nat), (∀ w, (Builtin.len_ (t0 :: rest).toArray ty #[X]).run P w = .ok (goInt n) w) → v = goI n → h' = h →
          h' = h ∧ ∃ y, (∀ w, (Builtin.len_ (t0 :: rest).toArray ty #[X]).run P w = .ok y w) ∧ VRel φ v y := by
        intro n q1 q2 q3
        subst q2; subst q3
        exact ⟨rfl, _, q1, VRel.mk_int rfl⟩
      split at k
      · rename_i _ _ _ _ _ l hty
        obtain ⟨I, D, i1, i2, i3, _⟩ := ok.kind hty
        have := tk_string i3; subst this
        obtain ⟨s, rfl, hs⟩ := hx.str
        injection k with k
        injection k with k1 k2
        refine mk (List.len l) (fun w => ?_) k1.symm k2.symm
        rw [len_eq, ← hs]
        simp [Builtin.len_, r_und i2]
      · rename_i e _ _ _ _ _ a n c z ex hty
        obtain ⟨I, D, i1, i2, i3, _⟩ := ok.kind hty
        have := tk_slice i3; subst this
        injection k with k
        injection k with k1 k2
        refine mk n (fun w => ?_) k1.symm k2.symm
        cases a with
        | none => simp only [VRel] at hx; obtain ⟨rfl, _, rfl⟩ := hx; simp [Builtin.len_, r_und i2]
        | some a => simp only [VRel] at hx; obtain ⟨_, _, _, _, rfl, _⟩ := hx; simp [Builtin.len_, r_und i2]
      · rename_i n e _ _ _ _ _ hty
        obtain ⟨I, D, i1, i2, i3, _⟩ := ok.kind hty
        have := tk_array i3; subst this
        injection k with k
        injection k with k1 k2
        refine mk n (fun w => ?_) k1.symm k2.symm
        simp [Builtin.len_, r_und i2]
      · rcases hvs with ⟨l, q⟩ | ⟨a, l, c, z, ex, q⟩ <;> cases q
      · rcases hvs with ⟨l, q⟩ | ⟨a, l, c, z, ex, q⟩ <;> cases q
      · cases k
    · cases k
  · cases k

theorem kind_pure (ok : EnvOk P E) {C : Calls'} {o : Oper} (kd : kindOf t o = .pure) (r : RhoOk φ t ρ) (k : opV E C o t h = some (v, h')) : h' = h ∧ PureOk P φ (execOp ρ o) v := by
  obtain ⟨dst, op, type, pos, after, guard⟩ := o
  have val : ∀ {s : Sem Value}, (h' = h ∧ ∃ u, (∀ w, s.run P w = .ok u w) ∧ VRel φ v u) → h' = h ∧ PureOk P φ (do pure (.value (← s)) : Sem Next) v := by
    rintro s ⟨e, u, y1, y2⟩
    exact ⟨e, u, fun w => by rw [Sem.run_bind, y1]; rfl, y2⟩
  have now : ∀ {u : Value}, h' = h → VRel φ v u → h' = h ∧ PureOk P φ (pure (.value u) : Sem Next) v := by
    rintro u e y
    exact ⟨e, u, fun w => rfl, y⟩
  cases op <;> simp only [opV] at k <;> simp only [kindOf] at kd <;> first | (cases k; done) | (cases kd; done) | skip
  case move x => obtain ⟨a, b⟩ := opMove_ok r k; exact now a b
  case assign x => obtain ⟨a, b⟩ := opMove_ok r k; exact now a b
  case pick c a b => exact opPick_ok r k
  case build ty ps => exact val (opBuild_ok ok r k)
  case nilCheck x =>
    obtain ⟨a, b, c⟩ := opNilCheck_ok r k
    rcases c with ⟨p, c⟩ | ⟨u, y, c⟩ | ⟨f, y, z, c⟩ | ⟨f, y, z, c⟩ <;>
    · simp only [execOp, c]
      rw [c] at b
      exact now a b
  case binOp op ty x y yt =>
    unfold opBinOp at k
    split at k
    · rename_i a c ha hc
      split at k
      · rename_i u hu
        injection k with k
        injection k with k1 k2
        subst k1; subst k2
        have hb : bothPtr a c = false := by
          rw [ha, hc] at kd
          cases hbp : bothPtr a c with
          | false => rfl
          | true =>
            obtain ⟨p, q, rfl, rfl⟩ := bothPtr_cases hbp
            simp [isPtr] at kd
        obtain ⟨y', y1, y2⟩ := binV_ok ok hb hu (r _ _ ha) (r _ _ hc)
        exact val ⟨rfl, y', y1, y2⟩
      · cases k
    · cases k
  case unOp op ty x => exact opUnOp_ok r k
  case convert s d x => exact opConvert_ok ok r k
  case makeInterface ty x => exact val (opMakeInterface_ok ok r k)
  case makeFunc fn a b =>
    obtain ⟨q1, q2⟩ := opMakeFunc_ok r k
    exact val ⟨q1, _, fun w => rfl, q2⟩
  case slice ty x lo hi mx => exact val (opSlice_ok ok r k)
  case fieldAddr s x f => exact val (opFieldAddr_ok ok r k)
  case field s x f => exact val (opField_ok ok r k)
  case indexAddr ty x ix => exact val (opIndexAddr_ok ok r k)
  case index ty x ix => exact val (opIndex_ok ok r k)
  case extract x n => exact val (opExtract_ok r k)
  case call c =>
    obtain ⟨callee, args, ats⟩ := c
    cases callee <;> first | (cases kd; done) | skip
    rename_i b
    have fin : ∀ s : Sem Value, (∀ w, Sem.run P (do let d ← resolve ρ ⟨.builtin b, args, ats⟩ type; invoke d.target d.args : Sem Next) w = (do pure (.value (← s)) : Sem Next).run P w) →
        (h' = h ∧ ∃ u, (∀ w, s.run P w = .ok u w) ∧ VRel φ v u) → h' = h ∧ PureOk P φ (do let d ← resolve ρ ⟨.builtin b, args, ats⟩ type; invoke d.target d.args : Sem Next) v := by
      intro s q1 q2
      obtain ⟨e, u, y1, y2⟩ := val q2
      exact ⟨e, u, fun w => by rw [q1]; exact y1 w, y2⟩
    have hres : ∀ w', Sem.run P (do let d ← resolve ρ ⟨.builtin b, args, ats⟩ type; invoke d.target d.args : Sem Next) w' =
        (Go.builtin b ats type (args.map fun | .const _ => true | _ => false) (args.map ρ)).run P w' := by
      intro w'
      simp only [resolve, pure_bind, invoke]
      rfl
    unfold opCall at k
    simp only at k
    split at k
    · cases k
    · rename_i vs hvs
      have hv : VRels φ vs (args.map ρ).toList := by simpa using r.evs hvs
      unfold builtinV at k
      cases b <;> first | (cases kd; done) | (cases k; done) | skip
      · change (match t.evs args.toList with | some [.s _] | some [.sl _ _ _ _ _] => Kd.pure | _ => Kd.eff) = .pure at kd
        rw [hvs] at kd
        have hvs2 : (∃ l, vs = [.s l]) ∨ (∃ a l c z ex, vs = [.sl a l c z ex]) := by
          split at kd
          · rename_i l q; injection q with q; exact .inl ⟨l, q⟩
          · rename_i a l c z ex q; injection q with q; exact .inr ⟨a, l, c, z, ex, q⟩
          · cases kd
        obtain ⟨e, y, y1, y2⟩ := biLen_pure (P := P) ok (ty := type) hv hvs2 k
        exact fin _ hres ⟨e, y, y1, y2⟩
      · obtain ⟨e, y, y1, y2⟩ := biMax_ok (P := P) (ats := ats) (ty := type) hv k
        exact fin _ hres ⟨e, y, y1, y2⟩
      · obtain ⟨e, y, y1, y2⟩ := biMin_ok (P := P) (ats := ats) (ty := type) hv k
        exact fin _ hres ⟨e, y, y1, y2⟩

theorem kind_new (ok : EnvOk P E) {C : Calls'} {o : Oper} (kd : kindOf t o = .new) (r : RhoOk φ t ρ) (k : opV E C o t h = some (v, h')) : ∃ b, h' = h.newBlk b ∧ NewOk P φ h.next (execOp ρ o) v b := by
  obtain ⟨dst, op, type, pos, after, guard⟩ := o
  cases op <;> simp only [opV] at k <;> simp only [kindOf] at kd <;> first | (cases k; done) | (cases kd; done) | skip
  case alloc e => exact opAlloc_ok ok k
  case box e x => exact opBox_ok r k
  case buildSlice ty n ps => exact opBuildSlice_ok ok r k
  case makeMap ty x => exact opMakeMap_ok ok r k
  case makeSlice ty l c => exact opMakeSlice_ok ok r k
  case binOp op ty x y yt => split at kd <;> cases kd
  case convert s d x => split at kd <;> cases kd
  case call c => 
    obtain ⟨callee, args, ats⟩ := c
    cases callee <;> first | (cases kd; done) | skip
    rename_i b
    cases b <;> first | (cases kd; done) | skip
    change (match t.evs args.toList with | some [.s _] | some [.sl _ _ _ _ _] => Kd.pure | _ => Kd.eff) = .new at kd
    split at kd <;> cases kd

end
end Go.Am

/-
  VALUES AND BLOCKS THAT ARE SAID TO BE ONE ARE ONE.
-/
namespace Go.Am

theorem optAdEq_eq {a b : Option Ad} (h : optAdEq a b = true) : a = b := by
  cases a with
  | none => cases b with
    | none => rfl
    | some _ => simp [optAdEq] at h
  | some a => cases b with
    | none => simp [optAdEq] at h
    | some b =>
      obtain ⟨f, v, o⟩ := a
      obtain ⟨f', v', o'⟩ := b
      simp only [optAdEq, adEq, Bool.and_eq_true, Nat.beq_eq] at h
      obtain ⟨rfl, rfl, rfl⟩ := h
      rfl

theorem optNatEq_eq {a b : Option Nat} (h : optNatEq a b = true) : a = b := by
  cases a <;> cases b <;> simp_all [optNatEq]

theorem fnEq_eq {a b : Fn} (h : fnEq a b = true) : a = b := by
  cases a <;> cases b <;> simp_all [fnEq]

theorem boolEq_true {a b : Bool} (h : boolEq a b = true) : a = b := by cases a <;> cases b <;> simp_all [boolEq]

mutual
theorem V.same_eq : ∀ (x y : V), V.same x y = true → x = y
  | .b x, y, h => by cases y <;> simp only [V.same] at h <;> first | (cases h; done) | (rw [boolEq_true h])
  | .i k n, y, h => by
    cases y <;> simp only [V.same] at h <;> first | (cases h; done) | skip
    simp only [Bool.and_eq_true] at h
    rw [kindEq_eq h.1]
    have := h.2
    rw [intEq_eq] at this
    rw [eq_of_beq this]
  | .s l, y, h => by
    cases y <;> simp only [V.same] at h <;> first | (cases h; done) | skip
    rw [bytesEq_eq] at h
    rw [eq_of_beq h]
  | .p a, y, h => by
    cases y <;> simp only [V.same] at h <;> first | (cases h; done) | (rw [optAdEq_eq h])
  | .sl a l c z e, y, h => by
    cases y <;> simp only [V.same] at h <;> first | (cases h; done) | skip
    simp only [Bool.and_eq_true, Nat.beq_eq] at h
    obtain ⟨h1, h2, h3, h4, h5⟩ := h
    rw [optAdEq_eq h1, h2, h3, h4, boolEq_true h5]
  | .m a, y, h => by
    cases y <;> simp only [V.same] at h <;> first | (cases h; done) | (rw [optNatEq_eq h])
  | .fn f u c, y, h => by
    cases y <;> simp only [V.same] at h <;> first | (cases h; done) | skip
    simp only [Bool.and_eq_true] at h
    obtain ⟨h1, h2, h3⟩ := h
    rw [fnEq_eq h1, V.sames_eq u _ h2, V.sames_eq c _ h3]
  | .nf, y, h => by cases y <;> simp only [V.same] at h <;> first | (cases h; done) | rfl
  | .ifc t x, y, h => by
    cases y <;> simp only [V.same] at h <;> first | (cases h; done) | skip
    simp only [Bool.and_eq_true, Nat.beq_eq] at h
    rw [h.1, V.same_eq x _ h.2]
  | .nifc, y, h => by cases y <;> simp only [V.same] at h <;> first | (cases h; done) | rfl
  | .agg l, y, h => by
    cases y <;> simp only [V.same] at h <;> first | (cases h; done) | (rw [V.sames_eq l _ h])
  | .tup l, y, h => by
    cases y <;> simp only [V.same] at h <;> first | (cases h; done) | (rw [V.sames_eq l _ h])
theorem V.sames_eq : ∀ (x y : List V), V.sames x y = true → x = y
  | [], y, h => by cases y <;> simp only [V.sames] at h <;> first | (cases h; done) | rfl
  | x :: xs, y, h => by
    cases y <;> simp only [V.sames] at h <;> first | (cases h; done) | skip
    simp only [Bool.and_eq_true] at h
    rw [V.same_eq x _ h.1, V.sames_eq xs _ h.2]
end

theorem cellSame_eq {x y : Option (V × Nat)} (h : cellSame x y = true) : x = y := by
  cases x with
  | none => cases y with
    | none => rfl
    | some _ => simp [cellSame] at h
  | some a => cases y with
    | none => simp [cellSame] at h
    | some b =>
      obtain ⟨x, s⟩ := a
      obtain ⟨y, u⟩ := b
      simp only [cellSame, Bool.and_eq_true, Nat.beq_eq] at h
      rw [V.same_eq _ _ h.1, h.2]

theorem trSame_eq : ∀ (x y : Tr (V × Nat)), trSame x y = true → x = y
  | .nil, y, h => by cases y <;> simp only [trSame] at h <;> first | (cases h; done) | rfl
  | .node v l r, y, h => by
    cases y <;> simp only [trSame] at h <;> first | (cases h; done) | skip
    simp only [Bool.and_eq_true] at h
    rw [cellSame_eq h.1, trSame_eq l _ h.2.1, trSame_eq r _ h.2.2]

theorem sameBlk_eq {x y : Blk} (h : sameBlk x y = true) : x = y := by
  cases x with
  | fam f =>
    cases y with
    | fam g =>
      obtain ⟨e, v, x, s, c⟩ := f
      obtain ⟨e', v', x', s', c'⟩ := g
      simp only [sameBlk, Bool.and_eq_true, Nat.beq_eq] at h
      obtain ⟨h1, h2, h3, h4, h5⟩ := h
      rw [h1, h2, h3, boolEq_true h4, trSame_eq _ _ h5]
    | _ => simp [sameBlk] at h
  | map es c =>
    cases y with
    | map es' c' =>
      cases es <;> cases es' <;> simp only [sameBlk] at h <;> first | (cases h; done) | skip
      simp only [Nat.beq_eq] at h
      rw [h]
    | _ => cases es <;> simp [sameBlk] at h
  | _ => simp [sameBlk] at h

/-! ### The checks -/
theorem apart_false {b : Tr Nat} {pe ne : Option Nat} {i : Nat} : (∀ e, pe = some e → bitT b e i = false) → (∀ e, ne = some e → bitT b i e = false) →
    ((match pe with | none => false | some e => bitT b e i) || (match ne with | none => false | some e => bitT b i e)) = false := by
  intro hp hn
  cases pe <;> cases ne <;> simp_all

theorem sameAt_mem {b : Tr Nat} {g : Heap} {pe ne : Option Nat} : ∀ {l : List (Nat × Ad × Nat × List V)}, sameAt b g pe ne l = true → ∀ {i : Nat} {a : Ad} {n : Nat} {xs : List V}, (i, a, n, xs) ∈ l →
    (∀ e, pe = some e → bitT b e i = false) → (∀ e, ne = some e → bitT b i e = false) → a.f < g.next → g.loads a.f a.v a.o n = some xs
  | [], _, _, _, _, _, hm, _, _, _ => by cases hm
  | (j, a', n', xs') :: r, h, i, a, n, xs, hm, hp, hn, hf => by
    simp only [sameAt, Bool.and_eq_true] at h
    cases hm with
    | tail _ hm => exact sameAt_mem h.2 hm hp hn hf
    | head =>
      have h := h.1
      split at h
      · rename_i q
        exact absurd ((apart_false hp hn).symm.trans q) (by simp)
      · split at h
        · rename_i h2
          have h3 : Nat.blt a'.f g.next = true := by simpa using hf
          rw [h3] at h2; cases h2
        · split at h
          · rename_i ys hy
            rw [hy, V.sames_eq _ _ h]
          · cases h

theorem bornSame_mem {b : Tr Nat} {g : Heap} {pe ne : Option Nat} : ∀ {l : List (Nat × Nat × Blk)}, bornSame b g pe ne l = true → ∀ {i f : Nat} {k : Blk}, (i, f, k) ∈ l →
    (∀ e, pe = some e → bitT b e i = false) → (∀ e, ne = some e → bitT b i e = false) → f < g.next → g.blks.get f = some k
  | [], _, _, _, _, hm, _, _, _ => by cases hm
  | (j, f', k') :: r, h, i, f, k, hm, hp, hn, hf => by
    simp only [bornSame, Bool.and_eq_true] at h
    cases hm with
    | tail _ hm => exact bornSame_mem h.2 hm hp hn hf
    | head =>
      have h := h.1
      split at h
      · rename_i q
        exact absurd ((apart_false hp hn).symm.trans q) (by simp)
      · split at h
        · rename_i h2
          have h3 : Nat.blt f' g.next = true := by simpa using hf
          rw [h3] at h2; cases h2
        · split at h
          · rename_i ys hy
            rw [hy, sameBlk_eq h]
          · cases h

theorem sameAll_mem {b : Tr Nat} {loads : List (Nat × Ad × Nat × List V)} {news : List (Nat × Nat × Blk)} : ∀ {l : List (Option Nat × Nat × Heap)}, sameAll b loads news l = true →
    ∀ {pe : Option Nat} {e : Nat} {g : Heap}, (pe, e, g) ∈ l → sameAt b g pe (some e) loads = true ∧ bornSame b g pe (some e) news = true
  | [], _, _, _, _, hm => by cases hm
  | (pe', e', g') :: r, h, pe, e, g, hm => by
    simp only [sameAll, Bool.and_eq_true] at h
    cases hm with
    | tail _ hm => exact sameAll_mem h.2.2 hm
    | head => exact ⟨h.1, h.2.1⟩

/-! ### The text's run -/
section
variable (E : Env) (C : Calls') (ops : Array Oper)

noncomputable def stAt (t : T) (h : Heap) : Nat → T × Heap
  | 0 => (t, h)
  | i + 1 => match ops[i]? with
    | none => stAt t h i
    | some o => match stepV E C ops o (stAt t h i).1 (stAt t h i).2 with
      | some p => p
      | none => stAt t h i

/-- An operation that is done, of a kind. -/
def KAt (ts : Nat → T) (i : Nat) (kd : Kd) : Prop := ∃ o, ops[i]? = some o ∧ wantedV ops (ts i) o = some true ∧ kindOf (ts i) o = kd

/-- The effect ahead. -/
def Prev (ts : Nat → T) (pe : Option Nat) (i : Nat) : Prop :=
  match pe with
  | none => ∀ j, j < i → ¬ KAt ops ts j .eff
  | some e => e < i ∧ KAt ops ts e .eff ∧ ∀ j, e < j → j < i → ¬ KAt ops ts j .eff

/-- What the log says, up to an operation. -/
structure Logged (b : Tr Nat) (ts : Nat → T) (hs : Nat → Heap) (k : Nat) (l : Log) : Prop where
  run : ∀ (i : Nat) (o : Oper), i < k → ops[i]? = some o → stepV E C ops o (ts i) (hs i) = some (ts (i + 1), hs (i + 1))
  last : Prev ops ts l.last k
  eff : ∀ i, i < k → KAt ops ts i .eff → ∃ pe, (pe, i, hs i) ∈ l.snaps ∧ Prev ops ts pe i ∧ ∀ e, pe = some e → bitT b i e = true
  ld : ∀ i, i < k → KAt ops ts i .load → ∃ o ty x a ti xs, ops[i]? = some o ∧ o.op = .load ty x ∧ (ts i).ev x = some (.p (some a)) ∧ E.ty ty = some ti ∧
    (hs i).loads a.f a.v a.o (loadN ti) = some xs ∧ (i, a, loadN ti, xs) ∈ l.loads
  nw : ∀ i, i < k → KAt ops ts i .new → ∃ bl, (hs (i + 1)).blks.get (hs i).next = some bl ∧ (i, (hs i).next, bl) ∈ l.news
end

section
variable {E : Env} {C : Calls'} {ops : Array Oper}

theorem Prev.step {ts : Nat → T} {pe : Option Nat} {k : Nat} (h : Prev ops ts pe k) (hn : ¬ KAt ops ts k .eff) : Prev ops ts pe (k + 1) := by
  cases pe with
  | none =>
    intro j hj
    rcases Nat.lt_or_ge j k with h1 | h1
    · exact h j h1
    · obtain rfl : j = k := by omega
      exact hn
  | some e =>
    obtain ⟨h1, h2, h3⟩ := h
    refine ⟨by omega, h2, fun j hj hlt => ?_⟩
    rcases Nat.lt_or_ge j k with h4 | h4
    · exact h3 j hj h4
    · obtain rfl : j = k := by omega
      exact hn

theorem KAt.uniq {ts : Nat → T} {k : Nat} {o : Oper} {kd kd' : Kd} (ho : ops[k]? = some o) (h : kindOf (ts k) o = kd) (hne : kd ≠ kd') : ¬ KAt ops ts k kd' := by
  rintro ⟨o', h1, _, h3⟩
  rw [ho] at h1
  injection h1 with h1
  subst h1
  exact hne (h.symm.trans h3)

theorem KAt.unwanted {ts : Nat → T} {k : Nat} {o : Oper} {kd : Kd} (ho : ops[k]? = some o) (h : wantedV ops (ts k) o ≠ some true) : ¬ KAt ops ts k kd := by
  rintro ⟨o', h1, h2, _⟩
  rw [ho] at h1
  injection h1 with h1
  subst h1
  exact h h2

end
end Go.Am

/-
  WHAT THE LOG OF A DRAWN REGION SAYS OF THE TEXT's RUN.
-/
namespace Go.Am

section
variable {E : Env} {C : Calls'} {ops : Array Oper} {b : Tr Nat}

theorem Logged.next {ts : Nat → T} {hs : Nat → Heap} {k : Nat} {l l' : Log} {o : Oper} (g : Logged E C ops b ts hs k l) (ho : ops[k]? = some o)
    (hst : stepV E C ops o (ts k) (hs k) = some (ts (k + 1), hs (k + 1)))
    (s1 : ∀ x ∈ l.snaps, x ∈ l'.snaps) (s2 : ∀ x ∈ l.loads, x ∈ l'.loads) (s3 : ∀ x ∈ l.news, x ∈ l'.news)
    (hl : Prev ops ts l'.last (k + 1))
    (h1 : KAt ops ts k .eff → ∃ pe, (pe, k, hs k) ∈ l'.snaps ∧ Prev ops ts pe k ∧ ∀ e, pe = some e → bitT b k e = true)
    (h2 : KAt ops ts k .load → ∃ o ty x a ti xs, ops[k]? = some o ∧ o.op = .load ty x ∧ (ts k).ev x = some (.p (some a)) ∧ E.ty ty = some ti ∧
      (hs k).loads a.f a.v a.o (loadN ti) = some xs ∧ (k, a, loadN ti, xs) ∈ l'.loads)
    (h3 : KAt ops ts k .new → ∃ bl, (hs (k + 1)).blks.get (hs k).next = some bl ∧ (k, (hs k).next, bl) ∈ l'.news) : Logged E C ops b ts hs (k + 1) l' := by
  refine ⟨fun i o' hi ho' => ?_, hl, fun i hi hk => ?_, fun i hi hk => ?_, fun i hi hk => ?_⟩
  · rcases Nat.lt_or_ge i k with q | q
    · exact g.run i o' q ho'
    · obtain rfl : i = k := by omega
      rw [ho] at ho'
      injection ho' with ho'
      subst ho'
      exact hst
  · rcases Nat.lt_or_ge i k with q | q
    · obtain ⟨pe, q1, q2, q3⟩ := g.eff i q hk
      exact ⟨pe, s1 _ q1, q2, q3⟩
    · obtain rfl : i = k := by omega
      exact h1 hk
  · rcases Nat.lt_or_ge i k with q | q
    · obtain ⟨o, ty, x, a, ti, xs, q1, q2, q3, q4, q5, q6⟩ := g.ld i q hk
      exact ⟨o, ty, x, a, ti, xs, q1, q2, q3, q4, q5, s2 _ q6⟩
    · obtain rfl : i = k := by omega
      exact h2 hk
  · rcases Nat.lt_or_ge i k with q | q
    · obtain ⟨bl, q1, q2⟩ := g.nw i q hk
      exact ⟨bl, q1, s3 _ q2⟩
    · obtain rfl : i = k := by omega
      exact h3 hk

theorem draw_logged {t t' : T} {h h' : Heap} {l' : Log} : ∀ (os : List Oper) (k : Nat) (l : Log), ops.toList.drop k = os → k ≤ ops.size →
    Logged E C ops b (fun i => (stAt E C ops t h i).1) (fun i => (stAt E C ops t h i).2) k l →
    drawV E C ops b k os (stAt E C ops t h k).1 (stAt E C ops t h k).2 l = some (t', h', l') →
    Logged E C ops b (fun i => (stAt E C ops t h i).1) (fun i => (stAt E C ops t h i).2) ops.size l' ∧ (stAt E C ops t h ops.size).1 = t' ∧ (stAt E C ops t h ops.size).2 = h'
  | [], k, l, hd, hk, g, e => by
    have hk2 : ops.size ≤ k := by
      have := congrArg List.length hd
      simp at this
      omega
    obtain rfl : k = ops.size := by omega
    simp only [drawV, Option.some.injEq, Prod.mk.injEq] at e
    obtain ⟨e1, e2, e3⟩ := e
    subst e3
    exact ⟨g, e1, e2⟩
  | o :: os, k, l, hd, hk, g, e => by
    have ho : ops[k]? = some o := by
      have : (ops.toList.drop k)[0]? = some o := by rw [hd]; rfl
      rw [List.getElem?_drop] at this
      simpa using this
    have hlt : k < ops.size := (Array.getElem?_eq_some_iff.1 ho).1
    have hd' : ops.toList.drop (k + 1) = os := by
      rw [← List.drop_drop, hd]; rfl
    simp only [drawV] at e
    split at e
    · cases e
    · rename_i t1 h1 hst
      have hnx : stAt E C ops t h (k + 1) = (t1, h1) := by
        simp only [stAt, ho, hst]
      have hst' : stepV E C ops o (stAt E C ops t h k).1 (stAt E C ops t h k).2 = some ((stAt E C ops t h (k + 1)).1, (stAt E C ops t h (k + 1)).2) := by
        rw [hnx]; exact hst
      have e1 : t1 = (stAt E C ops t h (k + 1)).1 := by rw [hnx]
      have e2 : h1 = (stAt E C ops t h (k + 1)).2 := by rw [hnx]
      rw [e1, e2] at e
      split at e
      · rename_i hw
        split at e
        · -- an effect
          rename_i hkd
          split at e
          · rename_i hb
            refine draw_logged os (k + 1) ⟨(l.last, k, (stAt E C ops t h k).2) :: l.snaps, l.loads, l.news, some k⟩ hd' hlt (g.next ho hst' (fun x hx => by simp [hx]) (fun x hx => hx) (fun x hx => hx) ?_ ?_ ?_ ?_) e
            · exact ⟨by omega, ⟨o, ho, hw, hkd⟩, fun j h1 h2 => by omega⟩
            · intro _
              refine ⟨l.last, by simp, g.last, fun e he => ?_⟩
              rw [he] at hb
              exact hb
            · intro q; exact absurd q (KAt.uniq ho hkd (by decide))
            · intro q; exact absurd q (KAt.uniq ho hkd (by decide))
          · cases e
        · -- a load
          rename_i hkd
          split at e
          · rename_i ty x hop
            split at e
            · rename_i a ti ha hty
              split at e
              · rename_i xs hxs
                refine draw_logged os (k + 1) ⟨l.snaps, (k, a, loadN ti, xs) :: l.loads, l.news, l.last⟩ hd' hlt (g.next ho hst' (fun x hx => hx) (fun x hx => by simp [hx]) (fun x hx => hx) ?_ ?_ ?_ ?_) e
                · exact Prev.step g.last (KAt.uniq ho hkd (by decide))
                · intro q; exact absurd q (KAt.uniq ho hkd (by decide))
                · intro _
                  exact ⟨o, ty, x, a, ti, xs, ho, hop, ha, hty, hxs, by simp⟩
                · intro q; exact absurd q (KAt.uniq ho hkd (by decide))
              · cases e
            · cases e
          · cases e
        · -- a new block
          rename_i hkd
          split at e
          · rename_i bl hbl
            refine draw_logged os (k + 1) ⟨l.snaps, l.loads, (k, (stAt E C ops t h k).2.next, bl) :: l.news, l.last⟩ hd' hlt (g.next ho hst' (fun x hx => hx) (fun x hx => hx) (fun x hx => by simp [hx]) ?_ ?_ ?_ ?_) e
            · exact Prev.step g.last (KAt.uniq ho hkd (by decide))
            · intro q; exact absurd q (KAt.uniq ho hkd (by decide))
            · intro q; exact absurd q (KAt.uniq ho hkd (by decide))
            · intro _
              exact ⟨bl, by simpa using hbl, by simp⟩
          · cases e
        · -- pure
          rename_i hkd
          refine draw_logged os (k + 1) _ hd' hlt (g.next ho hst' (fun x hx => hx) (fun x hx => hx) (fun x hx => hx) ?_ ?_ ?_ ?_) e
          · exact Prev.step g.last (KAt.uniq ho hkd (by decide))
          · intro q; exact absurd q (KAt.uniq ho hkd (by decide))
          · intro q; exact absurd q (KAt.uniq ho hkd (by decide))
          · intro q; exact absurd q (KAt.uniq ho hkd (by decide))
      · rename_i hw
        have hw' : wantedV ops (stAt E C ops t h k).1 o ≠ some true := fun q => hw q
        refine draw_logged os (k + 1) _ hd' hlt (g.next ho hst' (fun x hx => hx) (fun x hx => hx) (fun x hx => hx) ?_ ?_ ?_ ?_) e
        · exact Prev.step g.last (KAt.unwanted ho hw')
        · intro q; exact absurd q (KAt.unwanted ho hw')
        · intro q; exact absurd q (KAt.unwanted ho hw')
        · intro q; exact absurd q (KAt.unwanted ho hw')

end
end Go.Am

/-
  THE TEXT's RUN OF A DRAWN REGION, AND WHAT ITS CHECKS SAY.
-/
namespace Go.Am

theorem loads_congr {g h : Heap} {f v o n : Nat} (e : g.blks.get f = h.blks.get f) : g.loads f v o n = h.loads f v o n := by
  unfold Heap.loads
  cases n with
  | zero => rfl
  | succ n => simp only [e]

theorem newBlk_get {h : Heap} {b : Blk} {f : Nat} : (h.newBlk b).blks.get f = if f = h.next then some b else h.blks.get f := by
  obtain ⟨n, bl⟩ := h
  simp only [Heap.newBlk, Tr.get_set]

theorem put_get {t t' : T} {d : Option Tmp} {x : V} (e : t.put d x = some t') : t'.n = t.n ∧ ∀ k, t'.get k = if d = some k then some x else t.get k := by
  unfold T.put at e
  cases d with
  | none =>
    injection e with e
    subst e
    exact ⟨rfl, fun k => by simp⟩
  | some j =>
    obtain ⟨n, m⟩ := t
    simp only at e
    split at e
    · injection e with e
      subst e
      refine ⟨rfl, fun k => ?_⟩
      simp only [T.get, Tr.get_set]
      by_cases h : k = j
      · subst h; simp
      · have h2 : ¬ (some j = some k) := by intro q; injection q with q; exact h q.symm
        rw [if_neg h, if_neg h2]
    · cases e

theorem stepV_put {E : Env} {C : Calls'} {ops : Array Oper} {o : Oper} {t t' : T} {h h' : Heap} (e : stepV E C ops o t h = some (t', h')) : ∃ v, t.put o.dst v = some t' := by
  unfold stepV at e
  split at e
  · cases e
  · split at e
    · rename_i hp; injection e with e; injection e with e1 e2; subst e1; exact ⟨_, hp⟩
    · cases e
  · split at e
    · cases e
    · split at e
      · rename_i hp; injection e with e; injection e with e1 e2; subst e1; exact ⟨_, hp⟩
      · cases e

theorem stepV_wanted {E : Env} {C : Calls'} {ops : Array Oper} {o : Oper} {t t' : T} {h h' : Heap} (e : stepV E C ops o t h = some (t', h')) :
    (wantedV ops t o = some false ∧ t.put o.dst V.undef = some t' ∧ h' = h) ∨ (wantedV ops t o = some true ∧ ∃ v, opV E C o t h = some (v, h') ∧ t.put o.dst v = some t') := by
  unfold stepV at e
  split at e
  · cases e
  · rename_i hw
    split at e
    · rename_i hp; injection e with e; injection e with e1 e2; subst e1; subst e2; exact .inl ⟨hw, hp, rfl⟩
    · cases e
  · rename_i hw
    split at e
    · cases e
    · rename_i v h2 hv
      split at e
      · rename_i hp; injection e with e; injection e with e1 e2; subst e1; subst e2; exact .inr ⟨hw, v, hv, hp⟩
      · cases e

theorem kind_load {E : Env} {C : Calls'} {o : Oper} {t : T} {h h' : Heap} {v : V} (kd : kindOf t o = .load) (k : opV E C o t h = some (v, h')) : ∃ ty x, o.op = .load ty x ∧ opLoad E ty x t h = some (v, h') := by
  obtain ⟨dst, op, type, pos, after, guard⟩ := o
  cases op <;> simp only [opV] at k <;> simp only [kindOf] at kd <;> first | (cases k; done) | (cases kd; done) | skip
  case load ty x => exact ⟨ty, x, rfl, k⟩
  case binOp op ty x y yt => split at kd <;> cases kd
  case convert s d x => split at kd <;> cases kd
  case call c =>
    obtain ⟨callee, args, ats⟩ := c
    cases callee <;> first | (cases kd; done) | skip
    rename_i b
    cases b <;> first | (cases kd; done) | skip
    change (match t.evs args.toList with | some [.s _] | some [.sl _ _ _ _ _] => Kd.pure | _ => Kd.eff) = .load at kd
    split at kd <;> cases kd

/-- The text's run of a drawn region, with what its checks say. -/
structure DRun (P : Program) (E : Env) (C : Calls') (ops : Array Oper) (b : Tr Nat) (ts : Nat → T) (hs : Nat → Heap) : Prop where
  ord : OrdOk ops b
  run : ∀ (i : Nat) (o : Oper), ops[i]? = some o → stepV E C ops o (ts i) (hs i) = some (ts (i + 1), hs (i + 1))
  txt : ∀ i, i ≤ ops.size → ∃ (φ : Mp) (w : World) (a : Act), HRel φ (hs i) w ∧ TmRel φ (ts i).m (ts i).n a.tmps
  mono1 : ∀ i, i < ops.size → (hs i).next ≤ (hs (i + 1)).next
  ld : ∀ i, KAt ops ts i .load → ∃ o ty x a ti xs, ops[i]? = some o ∧ o.op = .load ty x ∧ (ts i).ev x = some (.p (some a)) ∧ E.ty ty = some ti ∧
    (hs i).loads a.f a.v a.o (loadN ti) = some xs ∧ ∀ e, e ≤ ops.size → (e = ops.size ∨ KAt ops ts e .eff) → (∀ e0, e0 < e → KAt ops ts e0 .eff → bitT b e0 i = false) →
      (KAt ops ts e .eff → bitT b i e = false) → a.f < (hs e).next → (hs e).loads a.f a.v a.o (loadN ti) = some xs
  nw : ∀ i, KAt ops ts i .new → ∃ bl, (hs (i + 1)).blks.get (hs i).next = some bl ∧ ∀ e, e ≤ ops.size → (e = ops.size ∨ KAt ops ts e .eff) →
    (∀ e0, e0 < e → KAt ops ts e0 .eff → bitT b e0 i = false) → (KAt ops ts e .eff → bitT b i e = false) → (hs i).next < (hs e).next → (hs e).blks.get (hs i).next = some bl
  chain : ∀ i j, KAt ops ts i .eff → KAt ops ts j .eff → j < i → ∃ e0, j ≤ e0 ∧ KAt ops ts e0 .eff ∧ bitT b i e0 = true

section
variable {P : Program} {E : Env} {C : Calls'} {ops : Array Oper} {b : Tr Nat} {ts : Nat → T} {hs : Nat → Heap}

theorem KAt.lt {i : Nat} {kd : Kd} (h : KAt ops ts i kd) : i < ops.size := by
  obtain ⟨o, ho, _⟩ := h
  exact (Array.getElem?_eq_some_iff.1 ho).1

theorem KAt.ne {i : Nat} {kd kd' : Kd} (h : KAt ops ts i kd) (h' : KAt ops ts i kd') : kd = kd' := by
  obtain ⟨o, ho, _, hk⟩ := h
  obtain ⟨o', ho', _, hk'⟩ := h'
  rw [ho] at ho'
  injection ho' with ho'
  subst ho'
  exact hk.symm.trans hk'

/-- The text's run holds in worlds of its own. -/
theorem text_run (ok : EnvOk P E) (hC : CallsOk P C) {φ : Mp} {w : World} {a : Act} (hr : HRel φ (hs 0) w) (ht : TmRel φ (ts 0).m (ts 0).n a.tmps)
    (run : ∀ (i : Nat) (o : Oper), ops[i]? = some o → stepV E C ops o (ts i) (hs i) = some (ts (i + 1), hs (i + 1))) :
    ∀ i, i ≤ ops.size → ∃ (φ : Mp) (w : World) (a : Act), HRel φ (hs i) w ∧ TmRel φ (ts i).m (ts i).n a.tmps
  | 0, _ => ⟨φ, w, a, hr, ht⟩
  | i + 1, hi => by
    obtain ⟨φ1, w1, a1, r1, r2⟩ := text_run ok hC hr ht run i (by omega)
    have ho : ops[i]? = some ops[i] := by simp
    obtain ⟨φ2, w2, a2, q1, _, _, q4, _, _⟩ := stepV_ok ok C hC ho r1 r2 (run i _ ho)
    exact ⟨φ2, w2, a2, q1, q4⟩

theorem dRun (ok : EnvOk P E) (hC : CallsOk P C) (hc : regChk ops (befT ops.toList 0 .nil) ops.toList 0 [] [] = true) {t t' : T} {h h' : Heap} {φ : Mp} {w : World} {a : Act} (hr : HRel φ h w) (ht : TmRel φ t.m t.n a.tmps)
    (e : regionV E C ops true t h = some (t', h')) :
    ∃ ts hs, DRun P E C ops (befT ops.toList 0 .nil) ts hs ∧ ts 0 = t ∧ hs 0 = h ∧ ts ops.size = t' ∧ hs ops.size = h' := by
  unfold regionV at e
  simp only at e
  split at e
  · cases e
  · rename_i t1 h1 l hd
    split at e
    · rename_i hck
      injection e with e
      injection e with e1 e2
      subst e1; subst e2
      simp only [Bool.and_eq_true] at hck
      obtain ⟨c1, c2, c3⟩ := hck
      obtain ⟨lg, q1, q2⟩ := draw_logged (t := t) (h := h) ops.toList 0 ⟨[], [], [], none⟩ rfl (Nat.zero_le _)
        ⟨fun i o hi => by omega, fun j hj => by omega, fun i hi => by omega, fun i hi => by omega, fun i hi => by omega⟩ hd
      refine ⟨fun i => (stAt E C ops t h i).1, fun i => (stAt E C ops t h i).2, ?_, rfl, rfl, q1, q2⟩
      have run : ∀ (i : Nat) (o : Oper), ops[i]? = some o → stepV E C ops o (stAt E C ops t h i).1 (stAt E C ops t h i).2 = some ((stAt E C ops t h (i + 1)).1, (stAt E C ops t h (i + 1)).2) :=
        fun i o ho => lg.run i o (Array.getElem?_eq_some_iff.1 ho).1 ho
      have txt := text_run (ts := fun i => (stAt E C ops t h i).1) (hs := fun i => (stAt E C ops t h i).2) ok hC hr ht run
      have ord := ordOk hc
      -- the checks at a stage
      have chk : ∀ e, e ≤ ops.size → (e = ops.size ∨ KAt ops (fun i => (stAt E C ops t h i).1) e .eff) → ∃ pe ne, Prev ops (fun i => (stAt E C ops t h i).1) pe e ∧
          (∀ x, ne = some x → x = e ∧ KAt ops (fun i => (stAt E C ops t h i).1) e .eff) ∧
          sameAt (befT ops.toList 0 .nil) (stAt E C ops t h e).2 pe ne l.loads = true ∧ bornSame (befT ops.toList 0 .nil) (stAt E C ops t h e).2 pe ne l.news = true := by
        intro e he hst
        by_cases hk : KAt ops (fun i => (stAt E C ops t h i).1) e .eff
        · obtain ⟨pe, m1, m2, _⟩ := lg.eff e hk.lt hk
          obtain ⟨s1, s2⟩ := sameAll_mem c3 m1
          exact ⟨pe, some e, m2, fun x hx => by injection hx with hx; exact ⟨hx.symm, hk⟩, s1, s2⟩
        · obtain rfl : e = ops.size := hst.resolve_right hk
          exact ⟨l.last, none, lg.last, (fun x hx => by cases hx), by rw [q2]; exact c1, by rw [q2]; exact c2⟩
      have cond : ∀ e i, (∀ e0, e0 < e → KAt ops (fun i => (stAt E C ops t h i).1) e0 .eff → bitT (befT ops.toList 0 .nil) e0 i = false) → ∀ pe, Prev ops (fun i => (stAt E C ops t h i).1) pe e →
          ∀ e0, pe = some e0 → bitT (befT ops.toList 0 .nil) e0 i = false := by
        intro e i hall pe hp e0 he
        subst he
        exact hall e0 hp.1 hp.2.1
      refine ⟨ord, run, txt, fun i hi => ?_, fun i hk => ?_, fun i hk => ?_, fun i j hi hj hlt => ?_⟩
      · obtain ⟨φ1, w1, a1, r1, r2⟩ := txt i (by omega)
        have ho : ops[i]? = some ops[i] := by simp
        obtain ⟨φ2, w2, a2, _, _, q3, _⟩ := stepV_ok ok C hC ho r1 r2 (run i _ ho)
        exact q3
      · obtain ⟨o, ty, x, ad, ti, xs, m1, m2, m3, m4, m5, m6⟩ := lg.ld i hk.lt hk
        refine ⟨o, ty, x, ad, ti, xs, m1, m2, m3, m4, m5, fun e he hst hp hn hf => ?_⟩
        obtain ⟨pe, ne, p1, p2, p3, p4⟩ := chk e he hst
        exact sameAt_mem p3 m6 (cond e i hp pe p1) (fun x hx => by obtain ⟨rfl, hke⟩ := p2 x hx; exact hn hke) hf
      · obtain ⟨bl, m1, m2⟩ := lg.nw i hk.lt hk
        refine ⟨bl, m1, fun e he hst hp hn hf => ?_⟩
        obtain ⟨pe, ne, p1, p2, p3, p4⟩ := chk e he hst
        exact bornSame_mem p4 m2 (cond e i hp pe p1) (fun x hx => by obtain ⟨rfl, hke⟩ := p2 x hx; exact hn hke) hf
      · obtain ⟨pe, m1, m2, m3⟩ := lg.eff i hi.lt hi
        cases pe with
        | none => exact absurd hj (m2 j hlt)
        | some e0 =>
          refine ⟨e0, ?_, m2.2.1, m3 e0 rfl⟩
          rcases Nat.lt_or_ge e0 j with q | q
          · exact absurd hj (m2.2.2 j q hlt)
          · exact q
    · cases e

/-! ### What the run says of heaps and slots -/
theorem DRun.mono (k : DRun P E C ops b ts hs) {i j : Nat} (h : i ≤ j) (hj : j ≤ ops.size) : (hs i).next ≤ (hs j).next := by
  induction j with
  | zero => obtain rfl : i = 0 := by omega
            exact Nat.le_refl _
  | succ j ih =>
    rcases Nat.lt_or_ge i (j + 1) with q | q
    · exact Nat.le_trans (ih (by omega) (by omega)) (k.mono1 j (by omega))
    · obtain rfl : i = j + 1 := by omega
      exact Nat.le_refl _

/-- A step that is no effect leaves the heap, or lays one block. -/
theorem DRun.calm (ok : EnvOk P E) (k : DRun P E C ops b ts hs) {i : Nat} (hi : i < ops.size) (hn : ¬ KAt ops ts i .eff) :
    (hs (i + 1) = hs i ∧ ¬ KAt ops ts i .new) ∨ (KAt ops ts i .new ∧ ∃ bl, hs (i + 1) = (hs i).newBlk bl) := by
  have ho : ops[i]? = some ops[i] := by simp
  obtain ⟨φ, w, a, r1, r2⟩ := k.txt i (by omega)
  rcases stepV_wanted (k.run i _ ho) with ⟨hw, _, q⟩ | ⟨hw, v, hv, _⟩
  · exact .inl ⟨q, KAt.unwanted ho (by rw [hw]; intro q; injection q with q; cases q)⟩
  · cases hk : kindOf (ts i) ops[i] with
    | pure => exact .inl ⟨(kind_pure ok hk (rhoOk_eval r2) hv).1, KAt.uniq ho hk (by decide)⟩
    | load =>
      obtain ⟨ty, x, _, hl⟩ := kind_load hk hv
      obtain ⟨_, _, _, _, _, _, _, q⟩ := opLoad_loads hl
      exact .inl ⟨q, KAt.uniq ho hk (by decide)⟩
    | new =>
      obtain ⟨bl, q, _⟩ := kind_new ok hk (rhoOk_eval r2) hv
      exact .inr ⟨⟨_, ho, hw, hk⟩, bl, q⟩
    | eff => exact absurd ⟨_, ho, hw, hk⟩ hn

theorem DRun.next_new (ok : EnvOk P E) (k : DRun P E C ops b ts hs) {i : Nat} (h : KAt ops ts i .new) : (hs (i + 1)).next = (hs i).next + 1 := by
  rcases k.calm ok h.lt (fun q => by cases KAt.ne h q) with ⟨_, q⟩ | ⟨_, bl, q⟩
  · exact absurd h q
  · rw [q, Heap.newBlk_next]

/-- Where no effect is, blocks stay. -/
theorem DRun.stay (ok : EnvOk P E) (k : DRun P E C ops b ts hs) {i j f : Nat} (h : i ≤ j) (hj : j ≤ ops.size) (hf : f < (hs i).next) (hn : ∀ m, i ≤ m → m < j → ¬ KAt ops ts m .eff) :
    (hs j).blks.get f = (hs i).blks.get f := by
  induction j with
  | zero => obtain rfl : i = 0 := by omega
            rfl
  | succ j ih =>
    rcases Nat.lt_or_ge i (j + 1) with q | q
    · have h1 := ih (by omega) (by omega) (fun m h1 h2 => hn m h1 (by omega))
      rcases k.calm ok (i := j) (by omega) (hn j (by omega) (by omega)) with ⟨e, _⟩ | ⟨_, bl, e⟩
      · rw [e]; exact h1
      · rw [e, newBlk_get, if_neg, h1]
        have := k.mono (i := i) (j := j) (by omega) (by omega)
        omega
    · obtain rfl : i = j + 1 := by omega
      rfl

theorem DRun.slots (k : DRun P E C ops b ts hs) {i j d : Nat} (h : i ≤ j) (hj : j ≤ ops.size) (hn : ∀ m o, i ≤ m → m < j → ops[m]? = some o → o.dst ≠ some d) : (ts j).get d = (ts i).get d := by
  induction j with
  | zero => obtain rfl : i = 0 := by omega
            rfl
  | succ j ih =>
    rcases Nat.lt_or_ge i (j + 1) with q | q
    · have h1 := ih (by omega) (by omega) (fun m o h1 h2 => hn m o h1 (by omega))
      have ho : ops[j]? = some ops[j] := by simp
      obtain ⟨v, hv⟩ := stepV_put (k.run j _ ho)
      rw [(put_get hv).2 d, if_neg (hn j _ (by omega) (by omega) ho)]
      exact h1
    · obtain rfl : i = j + 1 := by omega
      rfl

theorem DRun.width (k : DRun P E C ops b ts hs) : ∀ {j : Nat}, j ≤ ops.size → (ts j).n = (ts 0).n
  | 0, _ => rfl
  | j + 1, hj => by
    have ho : ops[j]? = some ops[j] := by simp
    obtain ⟨v, hv⟩ := stepV_put (k.run j _ ho)
    rw [(put_get hv).1]
    exact k.width (by omega)

/-- The next effect, or the end. -/
theorem next_stage {n : Nat} {p : Nat → Prop} (k : Nat) (h : k ≤ n) : ∃ e, k ≤ e ∧ e ≤ n ∧ (e = n ∨ p e) ∧ ∀ j, k ≤ j → j < e → ¬ p j := by
  obtain ⟨m, rfl⟩ : ∃ m, n = k + m := ⟨n - k, by omega⟩
  induction m generalizing k with
  | zero => exact ⟨k, by omega, by omega, .inl rfl, fun j h1 h2 => by omega⟩
  | succ m ih =>
    by_cases hp : p k
    · exact ⟨k, by omega, by omega, .inr hp, fun j h1 h2 => by omega⟩
    · obtain ⟨e, h1, h2, h3, h4⟩ := ih (k + 1) (by omega)
      refine ⟨e, by omega, by omega, ?_, fun j hj hlt => ?_⟩
      · rcases h3 with h3 | h3
        · exact .inl (by omega)
        · exact .inr h3
      · rcases Nat.lt_or_ge k j with q | q
        · exact h4 j (by omega) hlt
        · obtain rfl : j = k := by omega
          exact hp

end
end Go.Am

