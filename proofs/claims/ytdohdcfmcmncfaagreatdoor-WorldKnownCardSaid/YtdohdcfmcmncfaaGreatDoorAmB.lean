/-
  HOW THE ABSTRACT MACHINE's HEAP LIES IN THE MODEL's MEMORY.
-/
import Derived.Test.YtdohdcfmcmncfaaGreatDoorAmA
import Derived.Laws.Sem
import Derived.Laws.World
import Derived.Below
namespace Go.Am

/-! ### Trees -/
theorem mod2 (k : Nat) : k % 2 = 0 ∨ k % 2 = 1 := by omega

theorem Tr.get_nil {α : Type} (n : Nat) : (Tr.nil : Tr α).get n = none := rfl
theorem Tr.get_zero {α : Type} (v : Option α) (l r : Tr α) : (Tr.node v l r).get 0 = v := rfl
theorem Tr.get_odd {α : Type} (v : Option α) (l r : Tr α) (k : Nat) (h : k % 2 = 0) : (Tr.node v l r).get (k + 1) = l.get (k / 2) := by
  show Nat.rec (motive := fun _ => Option α) _ _ (Nat.mod k 2) = _
  rw [show Nat.mod k 2 = 0 from h]; rfl
theorem Tr.get_even {α : Type} (v : Option α) (l r : Tr α) (k : Nat) (h : k % 2 = 1) : (Tr.node v l r).get (k + 1) = r.get (k / 2) := by
  show Nat.rec (motive := fun _ => Option α) _ _ (Nat.mod k 2) = _
  rw [show Nat.mod k 2 = 1 from h]; rfl

theorem Tr.sing_zero {α : Type} (x : α) (f : Nat) : Tr.sing x f 0 = .node (some x) .nil .nil := by cases f <;> rfl
theorem Tr.sing_odd {α : Type} (x : α) (f k : Nat) (h : k % 2 = 0) : Tr.sing x (f + 1) (k + 1) = .node none (Tr.sing x f (k / 2)) .nil := by
  show Nat.rec (motive := fun _ => Tr α) _ _ (Nat.mod k 2) = _
  rw [show Nat.mod k 2 = 0 from h]; rfl
theorem Tr.sing_even {α : Type} (x : α) (f k : Nat) (h : k % 2 = 1) : Tr.sing x (f + 1) (k + 1) = .node none .nil (Tr.sing x f (k / 2)) := by
  show Nat.rec (motive := fun _ => Tr α) _ _ (Nat.mod k 2) = _
  rw [show Nat.mod k 2 = 1 from h]; rfl

theorem Tr.get_sing {α : Type} (x : α) : ∀ (f n m : Nat), n ≤ f → (Tr.sing x f n).get m = if m = n then some x else none := by
  intro f
  induction f with
  | zero =>
    intro n m h
    obtain rfl : n = 0 := by omega
    rw [Tr.sing_zero]
    cases m with
    | zero => rfl
    | succ k =>
      rcases mod2 k with e | e
      · simp [Tr.get_odd _ _ _ _ e, Tr.get_nil]
      · simp [Tr.get_even _ _ _ _ e, Tr.get_nil]
  | succ f ih =>
    intro n m h
    cases n with
    | zero =>
      rw [Tr.sing_zero]
      cases m with
      | zero => rfl
      | succ k =>
        rcases mod2 k with e | e
        · simp [Tr.get_odd _ _ _ _ e, Tr.get_nil]
        · simp [Tr.get_even _ _ _ _ e, Tr.get_nil]
    | succ n =>
      rcases mod2 n with en | en
      · rw [Tr.sing_odd _ _ _ en]
        cases m with
        | zero => simp [Tr.get_zero]
        | succ k =>
          rcases mod2 k with e | e
          · rw [Tr.get_odd _ _ _ _ e, ih _ _ (by omega)]
            by_cases c : k = n
            · subst c; simp
            · rw [if_neg (by omega), if_neg (by omega)]
          · rw [Tr.get_even _ _ _ _ e, Tr.get_nil, if_neg (by omega)]
      · rw [Tr.sing_even _ _ _ en]
        cases m with
        | zero => simp [Tr.get_zero]
        | succ k =>
          rcases mod2 k with e | e
          · rw [Tr.get_odd _ _ _ _ e, Tr.get_nil, if_neg (by omega)]
          · rw [Tr.get_even _ _ _ _ e, ih _ _ (by omega)]
            by_cases c : k = n
            · subst c; simp
            · rw [if_neg (by omega), if_neg (by omega)]

theorem Tr.set_nil {α : Type} (n : Nat) (x : α) : (Tr.nil : Tr α).set n x = Tr.sing x n n := rfl
theorem Tr.set_zero {α : Type} (v : Option α) (l r : Tr α) (x : α) : (Tr.node v l r).set 0 x = .node (some x) l r := rfl
theorem Tr.set_odd {α : Type} (v : Option α) (l r : Tr α) (x : α) (k : Nat) (h : k % 2 = 0) : (Tr.node v l r).set (k + 1) x = .node v (l.set (k / 2) x) r := by
  show Nat.rec (motive := fun _ => Tr α) _ _ (Nat.mod k 2) = _
  rw [show Nat.mod k 2 = 0 from h]; rfl
theorem Tr.set_even {α : Type} (v : Option α) (l r : Tr α) (x : α) (k : Nat) (h : k % 2 = 1) : (Tr.node v l r).set (k + 1) x = .node v l (r.set (k / 2) x) := by
  show Nat.rec (motive := fun _ => Tr α) _ _ (Nat.mod k 2) = _
  rw [show Nat.mod k 2 = 1 from h]; rfl

theorem Tr.get_set {α : Type} (t : Tr α) : ∀ (n m : Nat) (x : α), (t.set n x).get m = if m = n then some x else t.get m := by
  induction t with
  | nil =>
    intro n m x
    rw [Tr.set_nil, Tr.get_sing _ _ _ _ (Nat.le_refl _), Tr.get_nil]
  | node v l r ihl ihr =>
    intro n m x
    cases n with
    | zero =>
      rw [Tr.set_zero]
      cases m with
      | zero => simp [Tr.get_zero]
      | succ k =>
        rcases mod2 k with e | e
        · simp [Tr.get_odd _ _ _ _ e]
        · simp [Tr.get_even _ _ _ _ e]
    | succ n =>
      rcases mod2 n with en | en
      · rw [Tr.set_odd _ _ _ _ _ en]
        cases m with
        | zero => simp [Tr.get_zero]
        | succ k =>
          rcases mod2 k with e | e
          · rw [Tr.get_odd _ _ _ _ e, Tr.get_odd _ _ _ _ e, ihl]
            by_cases c : k = n
            · subst c; simp
            · rw [if_neg (by omega), if_neg (by omega)]
          · rw [Tr.get_even _ _ _ _ e, Tr.get_even _ _ _ _ e, if_neg (by omega)]
      · rw [Tr.set_even _ _ _ _ _ en]
        cases m with
        | zero => simp [Tr.get_zero]
        | succ k =>
          rcases mod2 k with e | e
          · rw [Tr.get_odd _ _ _ _ e, Tr.get_odd _ _ _ _ e, if_neg (by omega)]
          · rw [Tr.get_even _ _ _ _ e, Tr.get_even _ _ _ _ e, ihr]
            by_cases c : k = n
            · subst c; simp
            · rw [if_neg (by omega), if_neg (by omega)]

theorem Tr.get_set_eq {α : Type} (t : Tr α) (n : Nat) (x : α) : (t.set n x).get n = some x := by rw [Tr.get_set, if_pos rfl]
theorem Tr.get_set_ne {α : Type} (t : Tr α) {n m : Nat} (x : α) (h : m ≠ n) : (t.set n x).get m = t.get m := by rw [Tr.get_set, if_neg h]

theorem lay_get {st : Nat} : ∀ (l : List V) (o : Nat) (t : Tr (V × Nat)) (m : Nat),
    (lay st l o t).get m = if h : o ≤ m ∧ m - o < l.length then some (l[m - o]'h.2, st) else t.get m := by
  intro l
  induction l with
  | nil => intro o t m; simp [lay]
  | cons x xs ih =>
    intro o t m
    rw [lay, ih]
    by_cases h1 : m = o
    · subst h1
      have a : ¬ (Nat.succ m ≤ m ∧ m - Nat.succ m < xs.length) := by omega
      have b : m ≤ m ∧ m - m < (x :: xs).length := by simp
      rw [dif_neg a, dif_pos b, Tr.get_set_eq]; simp
    · rw [Tr.get_set_ne _ _ h1]
      by_cases h : Nat.succ o ≤ m ∧ m - Nat.succ o < xs.length
      · have b : o ≤ m ∧ m - o < (x :: xs).length := by simp only [List.length_cons]; omega
        rw [dif_pos h, dif_pos b]
        have e : m - o = (m - Nat.succ o) + 1 := by omega
        simp only [e, List.getElem_cons_succ]
      · have b : ¬ (o ≤ m ∧ m - o < (x :: xs).length) := by simp only [List.length_cons]; omega
        rw [dif_neg h, dif_neg b]

/-! ### The places -/
/-- Where a version of a family lies: the block, how many cells of the family lie ahead of it, how many cells it has. -/
structure Pl where
  rb : Nat
  d : Nat
  sz : Nat

abbrev Mp := Nat → Nat → Option Pl

def FnRel (φ : Mp) : Fn → Fn → Prop
  | .yield l, g => ∃ pl, φ l 0 = some pl ∧ g = .yield pl.rb
  | f, g => g = f

def SlRel (pl : Pl) (a : Ad) (l c z : Nat) (ex : Bool) (y : Value) : Prop :=
  ∃ a' c', y = .slice (some a') l c' ∧ l ≤ c ∧ c ≤ c' ∧ (ex = true → c' = c) ∧
    ((pl.d ≤ a.o ∧ a' = ⟨pl.rb, a.o - pl.d, none⟩ ∧ (a.o - pl.d) + c' * z ≤ pl.sz) ∨ c' = 0)

mutual
def VRel (φ : Mp) : V → Value → Prop
  | .b x, y => y = .bool x
  | .i k n, y => y = .int k n
  | .s l, y => ∃ s, y = .string s ∧ s.data.toList = l
  | .p none, y => y = .pointer none
  | .p (some a), y => ∃ pl, φ a.f a.v = some pl ∧ pl.d ≤ a.o ∧ y = .pointer (some ⟨pl.rb, a.o - pl.d, none⟩)
  | .sl none l c _ _, y => l = 0 ∧ c = 0 ∧ y = .slice none 0 0
  | .sl (some a) l c z ex, y => ∃ pl, φ a.f a.v = some pl ∧ SlRel pl a l c z ex y
  | .m none, y => y = .map none
  | .m (some r), y => ∃ pl, φ r 0 = some pl ∧ y = .map (some pl.rb)
  | .fn f x c, y => ∃ g u v, y = .func g u v ∧ FnRel φ f g ∧ VRels φ x u.toList ∧ VRels φ c v.toList
  | .nf, y => y = .nilFunc
  | .ifc t x, y => ∃ u, y = .iface t u ∧ VRel φ x u
  | .nifc, y => y = .nilIface
  | .agg l, y => ∃ cs, y = .agg cs ∧ VRels φ l cs.toList
  | .tup l, y => ∃ cs, y = .tuple cs ∧ VRels φ l cs.toList
def VRels (φ : Mp) : List V → List Value → Prop
  | [], l => l = []
  | x :: xs, l => ∃ y ys, l = y :: ys ∧ VRel φ x y ∧ VRels φ xs ys
end

def Mp.le (φ ψ : Mp) : Prop := ∀ f v pl, φ f v = some pl → ψ f v = some pl

theorem Mp.le_refl (φ : Mp) : φ.le φ := fun _ _ _ h => h
theorem Mp.le_trans {φ ψ χ : Mp} (h : φ.le ψ) (k : ψ.le χ) : φ.le χ := fun _ _ _ e => k _ _ _ (h _ _ _ e)

theorem FnRel.mono {φ ψ : Mp} (h : φ.le ψ) {f g : Fn} (r : FnRel φ f g) : FnRel ψ f g := by
  cases f <;> simp only [FnRel] at r ⊢ <;> first | exact r | (obtain ⟨pl, a, b⟩ := r; exact ⟨pl, h _ _ _ a, b⟩)

mutual
theorem VRel.mono {φ ψ : Mp} (h : φ.le ψ) : ∀ (x : V) (y : Value), VRel φ x y → VRel ψ x y
  | .b _, _, r => by simpa only [VRel] using r
  | .i _ _, _, r => by simpa only [VRel] using r
  | .s _, _, r => by simpa only [VRel] using r
  | .p none, _, r => by simpa only [VRel] using r
  | .p (some _), _, r => by
    simp only [VRel] at r ⊢
    obtain ⟨pl, a, b⟩ := r; exact ⟨pl, h _ _ _ a, b⟩
  | .sl none _ _ _ _, _, r => by simpa only [VRel] using r
  | .sl (some _) _ _ _ _, _, r => by
    simp only [VRel] at r ⊢
    obtain ⟨pl, a, b⟩ := r; exact ⟨pl, h _ _ _ a, b⟩
  | .m none, _, r => by simpa only [VRel] using r
  | .m (some _), _, r => by
    simp only [VRel] at r ⊢
    obtain ⟨pl, a, b⟩ := r; exact ⟨pl, h _ _ _ a, b⟩
  | .fn f x c, _, r => by
    simp only [VRel] at r ⊢
    obtain ⟨g, u, v, e, a, b, d⟩ := r
    exact ⟨g, u, v, e, a.mono h, VRels.mono h x _ b, VRels.mono h c _ d⟩
  | .nf, _, r => by simpa only [VRel] using r
  | .ifc t x, _, r => by
    simp only [VRel] at r ⊢
    obtain ⟨u, e, a⟩ := r
    exact ⟨u, e, VRel.mono h x _ a⟩
  | .nifc, _, r => by simpa only [VRel] using r
  | .agg l, _, r => by
    simp only [VRel] at r ⊢
    obtain ⟨u, e, a⟩ := r
    exact ⟨u, e, VRels.mono h l _ a⟩
  | .tup l, _, r => by
    simp only [VRel] at r ⊢
    obtain ⟨u, e, a⟩ := r
    exact ⟨u, e, VRels.mono h l _ a⟩
theorem VRels.mono {φ ψ : Mp} (h : φ.le ψ) : ∀ (x : List V) (y : List Value), VRels φ x y → VRels ψ x y
  | [], _, r => by simpa only [VRels] using r
  | x :: xs, _, r => by
    simp only [VRels] at r ⊢
    obtain ⟨y, ys, e, a, b⟩ := r
    exact ⟨y, ys, e, VRel.mono h x _ a, VRels.mono h xs _ b⟩
end

theorem VRels.nil (φ : Mp) : VRels φ [] [] := by simp only [VRels]
theorem VRels.cons {φ : Mp} {x : V} {y : Value} {xs : List V} {ys : List Value} (h : VRel φ x y) (k : VRels φ xs ys) : VRels φ (x :: xs) (y :: ys) := by
  simp only [VRels]; exact ⟨y, ys, rfl, h, k⟩
theorem VRels.nil_iff {φ : Mp} {l : List Value} : VRels φ [] l ↔ l = [] := by simp only [VRels]
theorem VRels.cons_iff {φ : Mp} {x : V} {xs : List V} {l : List Value} : VRels φ (x :: xs) l ↔ ∃ y ys, l = y :: ys ∧ VRel φ x y ∧ VRels φ xs ys := by simp only [VRels]

theorem VRels.length {φ : Mp} : ∀ {x : List V} {y : List Value}, VRels φ x y → y.length = x.length
  | [], _, r => by rw [VRels.nil_iff] at r; subst r; rfl
  | _ :: _, _, r => by
    rw [VRels.cons_iff] at r
    obtain ⟨y, ys, rfl, _, b⟩ := r
    simp [b.length]

theorem VRels.get {φ : Mp} : ∀ {x : List V} {y : List Value}, VRels φ x y → ∀ (k : Nat) (v : V), x[k]? = some v → ∃ u, y[k]? = some u ∧ VRel φ v u
  | [], _, _, k, v, h => by simp at h
  | _ :: _, _, r, k, v, h => by
    rw [VRels.cons_iff] at r
    obtain ⟨y, ys, rfl, a, b⟩ := r
    cases k with
    | zero => simp at h; subst h; exact ⟨y, by simp, a⟩
    | succ k => simpa using b.get k v (by simpa using h)

theorem VRels.append {φ : Mp} : ∀ {x : List V} {y : List Value} {x' : List V} {y' : List Value}, VRels φ x y → VRels φ x' y' → VRels φ (x ++ x') (y ++ y')
  | [], _, _, _, r, s => by rw [VRels.nil_iff] at r; subst r; exact s
  | _ :: _, _, _, _, r, s => by
    rw [VRels.cons_iff] at r
    obtain ⟨y, ys, rfl, a, b⟩ := r
    exact VRels.cons a (b.append s)

theorem VRels.of_get {φ : Mp} : ∀ {x : List V} {y : List Value}, y.length = x.length → (∀ (k : Nat) (v : V), x[k]? = some v → ∃ u, y[k]? = some u ∧ VRel φ v u) → VRels φ x y
  | [], y, hl, _ => by simp at hl; subst hl; exact VRels.nil φ
  | x :: xs, y, hl, h => by
    cases y with
    | nil => simp at hl
    | cons u us =>
      obtain ⟨u', hu, hr⟩ := h 0 x (by simp)
      simp at hu; subst hu
      exact VRels.cons hr (VRels.of_get (by simpa using hl) fun k v hk => by simpa using h (k + 1) v (by simpa using hk))

theorem VRel.one {φ : Mp} {x : V} {y : Value} (h : VRel φ x y) (hx : x.one = true) : y.oneCell' = true := by
  cases x with
  | agg l => simp [V.one] at hx
  | tup l => simp [V.one] at hx
  | p a => cases a <;> simp only [VRel] at h <;> (first | subst h | (obtain ⟨_, _, _, rfl⟩ := h)) <;> rfl
  | sl a =>
    cases a <;> simp only [VRel] at h
    · obtain ⟨_, _, rfl⟩ := h; rfl
    · obtain ⟨_, _, _, _, rfl, _⟩ := h; rfl
  | m a => cases a <;> simp only [VRel] at h <;> (first | subst h | (obtain ⟨_, _, rfl⟩ := h)) <;> rfl
  | s l => simp only [VRel] at h; obtain ⟨_, rfl, _⟩ := h; rfl
  | fn f a b => simp only [VRel] at h; obtain ⟨_, _, _, rfl, _⟩ := h; rfl
  | ifc t v => simp only [VRel] at h; obtain ⟨_, rfl, _⟩ := h; rfl
  | _ => simp only [VRel] at h; subst h; rfl

theorem VRel.cells {φ : Mp} {x : V} {y : Value} (h : VRel φ x y) : VRels φ x.cells y.cells.toList := by
  cases x with
  | agg l => simp only [VRel] at h; obtain ⟨cs, rfl, r⟩ := h; simpa [V.cells, Value.cells] using r
  | tup l =>
    have h0 := h
    simp only [VRel] at h0
    obtain ⟨cs, rfl, r⟩ := h0
    exact VRels.cons h (VRels.nil φ)
  | _ =>
    have h1 := VRel.one h rfl
    have e : y.cells = #[y] := by cases y <;> simp_all [Value.cells, Value.oneCell']
    rw [e]
    exact VRels.cons h (VRels.nil φ)

end Go.Am

/-
  THE HEAP's RELATION TO MEMORY, AND WHAT EACH CHANGE OF THE HEAP IS THERE.
-/
namespace Go.Am

def EntRel (φ : Mp) : List (V × V × Nat) → List MapEntry → Prop
  | [], l => l = []
  | (k, x, b) :: es, l => ∃ e r, l = e :: r ∧ VRel φ k e.key ∧ VRel φ x e.val ∧ e.born = b ∧ EntRel φ es r

def TmRel (φ : Mp) (m : Tr V) (n : Nat) (a : Array Value) : Prop :=
  a.size = n ∧ ∀ k x, m.get k = some x → VRel φ x (a.getD k undef)

def CellsRel (φ : Mp) (w : World) (fam : Fam) (v : Nat) (pl : Pl) : Prop :=
  ∃ c elem fr, w.heap[pl.rb]? = some (.cells c elem fr) ∧ c.size = pl.sz ∧ (∀ i : Nat, i < c.size → ¬ (fr.1 ≤ i ∧ i < fr.2)) ∧
    (fam.str = false → ∀ i : Nat, ¬ (fr.1 ≤ i ∧ i < fr.2)) ∧ v ≤ fam.ver ∧
    ∀ o x st, fam.cells.get o = some (x, st) → st ≤ v → pl.d ≤ o → ∃ y, c[o - pl.d]? = some y ∧ VRel φ x y

def BRel (φ : Mp) (w : World) (v : Nat) (pl : Pl) : Blk → Prop
  | .fam f => CellsRel φ w f v pl
  | .map es c => v = 0 ∧ pl.d = 0 ∧ ∃ es', w.heap[pl.rb]? = some (.map es' c) ∧ EntRel φ es es'.toList
  | .siter l pos => v = 0 ∧ pl.d = 0 ∧ ∃ s, w.heap[pl.rb]? = some (.stringIter s pos) ∧ s.data.toList.drop pos = l ∧ pos ≤ s.size
  | .miter m since seen st => v = 0 ∧ pl.d = 0 ∧ ∃ m' seen', w.heap[pl.rb]? = some (.mapIter m' since seen' st) ∧ seen'.toList = seen ∧
      (match m with | none => m' = none | some r => ∃ q, φ r 0 = some q ∧ m' = some q.rb)
  | .loop p => v = 0 ∧ pl.d = 0 ∧ ∃ tm d', w.heap[pl.rb]? = some (.loop ⟨p.state, p.pending, p.fn, tm, p.params, p.assign, p.body, d'⟩) ∧ TmRel φ p.tmps p.n tm ∧
      (codeChk p.assign = true ∧ codeChk p.body = true) ∧ ∃ q, φ p.dfr 0 = some q ∧ d' = q.rb
  | .dfr => v = 0 ∧ pl.d = 0 ∧ w.heap[pl.rb]? = some (.deferred (some []))
  | .dead => v = 0

def Blk.isFam : Blk → Bool
  | .fam _ => true
  | _ => false

theorem BRel.v0 {φ : Mp} {w : World} {v : Nat} {pl : Pl} {b : Blk} (h : BRel φ w v pl b) (hb : b.isFam = false) : v = 0 := by
  cases b with
  | fam f => cases hb
  | dead => exact h
  | _ => exact h.1

/-! ### What values speak of -/
def FnBd (n : Nat) : Fn → Prop
  | .yield l => l < n
  | _ => True

mutual
/-- Every family that a value speaks of has a number below n. -/
def Bd (n : Nat) : V → Prop
  | .p (some a) => a.f < n
  | .sl (some a) _ _ _ _ => a.f < n
  | .m (some r) => r < n
  | .fn f x c => FnBd n f ∧ Bds n x ∧ Bds n c
  | .ifc _ x => Bd n x
  | .agg l => Bds n l
  | .tup l => Bds n l
  | _ => True
def Bds (n : Nat) : List V → Prop
  | [] => True
  | x :: xs => Bd n x ∧ Bds n xs
end

def Mp.below (φ : Mp) (n : Nat) : Prop := ∀ f v pl, φ f v = some pl → f < n

theorem FnRel.bd {φ : Mp} {n : Nat} (h : φ.below n) {f g : Fn} (r : FnRel φ f g) : FnBd n f := by
  cases f <;> simp only [FnRel] at r <;> first | trivial | (obtain ⟨pl, a, _⟩ := r; exact h _ _ _ a)

mutual
theorem VRel.bd {φ : Mp} {n : Nat} (h : φ.below n) : ∀ (x : V) (y : Value), VRel φ x y → Bd n x
  | .p (some a), _, r => by simp only [VRel] at r; obtain ⟨pl, a, _⟩ := r; exact h _ _ _ a
  | .sl (some a) _ _ _ _, _, r => by simp only [VRel] at r; obtain ⟨pl, a, _⟩ := r; exact h _ _ _ a
  | .m (some a), _, r => by simp only [VRel] at r; obtain ⟨pl, a, _⟩ := r; exact h _ _ _ a
  | .fn f x c, _, r => by
    simp only [VRel] at r
    obtain ⟨g, u, v, e, a, b, d⟩ := r
    simp only [Bd]
    exact ⟨a.bd h, VRels.bd h x _ b, VRels.bd h c _ d⟩
  | .ifc t x, _, r => by
    simp only [VRel] at r
    obtain ⟨u, e, a⟩ := r
    simp only [Bd]
    exact VRel.bd h x _ a
  | .agg l, _, r => by
    simp only [VRel] at r
    obtain ⟨u, e, a⟩ := r
    simp only [Bd]
    exact VRels.bd h l _ a
  | .tup l, _, r => by
    simp only [VRel] at r
    obtain ⟨u, e, a⟩ := r
    simp only [Bd]
    exact VRels.bd h l _ a
  | .b _, _, _ => trivial
  | .i _ _, _, _ => trivial
  | .s _, _, _ => trivial
  | .p none, _, _ => trivial
  | .sl none _ _ _ _, _, _ => trivial
  | .m none, _, _ => trivial
  | .nf, _, _ => trivial
  | .nifc, _, _ => trivial
theorem VRels.bd {φ : Mp} {n : Nat} (h : φ.below n) : ∀ (x : List V) (y : List Value), VRels φ x y → Bds n x
  | [], _, _ => trivial
  | x :: xs, _, r => by
    simp only [VRels] at r
    obtain ⟨y, ys, _, a, b⟩ := r
    simp only [Bds]
    exact ⟨VRel.bd h x _ a, VRels.bd h xs _ b⟩
end

theorem FnBd.mono {n m : Nat} (h : n ≤ m) {f : Fn} (r : FnBd n f) : FnBd m f := by
  cases f <;> first | trivial | exact Nat.lt_of_lt_of_le r h

mutual
theorem Bd.mono {n m : Nat} (h : n ≤ m) : ∀ (x : V), Bd n x → Bd m x
  | .p (some a), r => Nat.lt_of_lt_of_le r h
  | .sl (some a) _ _ _ _, r => Nat.lt_of_lt_of_le r h
  | .m (some a), r => Nat.lt_of_lt_of_le r h
  | .fn f x c, r => by
    simp only [Bd] at r ⊢
    exact ⟨r.1.mono h, Bds.mono h x r.2.1, Bds.mono h c r.2.2⟩
  | .ifc t x, r => by simp only [Bd] at r ⊢; exact Bd.mono h x r
  | .agg l, r => by simp only [Bd] at r ⊢; exact Bds.mono h l r
  | .tup l, r => by simp only [Bd] at r ⊢; exact Bds.mono h l r
  | .b _, _ => trivial
  | .i _ _, _ => trivial
  | .s _, _ => trivial
  | .p none, _ => trivial
  | .sl none _ _ _ _, _ => trivial
  | .m none, _ => trivial
  | .nf, _ => trivial
  | .nifc, _ => trivial
theorem Bds.mono {n m : Nat} (h : n ≤ m) : ∀ (x : List V), Bds n x → Bds m x
  | [], _ => trivial
  | x :: xs, r => by simp only [Bds] at r ⊢; exact ⟨Bd.mono h x r.1, Bds.mono h xs r.2⟩
end

def EntBd (n : Nat) : List (V × V × Nat) → Prop
  | [] => True
  | (k, x, _) :: es => Bd n k ∧ Bd n x ∧ EntBd n es

theorem EntBd.mono {n m : Nat} (h : n ≤ m) : ∀ {es : List (V × V × Nat)}, EntBd n es → EntBd m es
  | [], _ => trivial
  | (_, _, _) :: _, r => ⟨Bd.mono h _ r.1, Bd.mono h _ r.2.1, r.2.2.mono h⟩

theorem EntRel.bd {φ : Mp} {n : Nat} (h : φ.below n) : ∀ {es : List (V × V × Nat)} {l : List MapEntry}, EntRel φ es l → EntBd n es
  | [], _, _ => trivial
  | (_, _, _) :: _, _, ⟨_, _, _, a, b, _, c⟩ => ⟨VRel.bd h _ _ a, VRel.bd h _ _ b, EntRel.bd h c⟩

def BlkBd (n : Nat) : Blk → Prop
  | .fam f => ∀ o x s, f.cells.get o = some (x, s) → Bd n x
  | .map es _ => EntBd n es
  | .miter m _ _ _ => match m with | none => True | some r => r < n
  | .loop p => (∀ k x, p.tmps.get k = some x → Bd n x) ∧ p.dfr < n
  | _ => True

theorem BlkBd.mono {n m : Nat} (h : n ≤ m) {b : Blk} (r : BlkBd n b) : BlkBd m b := by
  cases b with
  | fam f => exact fun o x s e => Bd.mono h x (r o x s e)
  | map es c => exact EntBd.mono h r
  | miter q a c d =>
    cases q with
    | none => trivial
    | some z => exact Nat.lt_of_lt_of_le r h
  | loop p => exact ⟨fun k x e => Bd.mono h x (r.1 k x e), Nat.lt_of_lt_of_le r.2 h⟩
  | _ => trivial

theorem BRel.bd {φ : Mp} {n : Nat} (h : φ.below n) {w : World} {v : Nat} {pl : Pl} {b : Blk} (r : BRel φ w v pl b)
    (hf : ∀ fam o x s, b = .fam fam → fam.cells.get o = some (x, s) → s ≤ v ∧ pl.d ≤ o) : BlkBd n b := by
  cases b with
  | fam f =>
    intro o x s e
    obtain ⟨q1, q2⟩ := hf f o x s rfl e
    obtain ⟨_, _, _, _, _, _, _, _, a⟩ := r
    obtain ⟨y, _, z⟩ := a o x s e q1 q2
    exact VRel.bd h _ _ z
  | map es c => obtain ⟨_, _, _, _, a⟩ := r; exact a.bd h
  | miter q a c d =>
    obtain ⟨_, _, _, _, _, _, z⟩ := r
    cases q with
    | none => trivial
    | some k => obtain ⟨pl, a, _⟩ := z; exact h _ _ _ a
  | loop p =>
    obtain ⟨_, _, _, _, _, a, _, q, z, _⟩ := r
    exact ⟨fun k x e => VRel.bd h _ _ (a.2 k x e), h _ _ _ z⟩
  | _ => trivial

structure HRel (φ : Mp) (h : Heap) (w : World) : Prop where
  at_ : ∀ f v pl, φ f v = some pl → f < h.next ∧ pl.rb < w.heap.size ∧ ∃ b, h.blks.get f = some b ∧ BRel φ w v pl b
  inj : ∀ f v pl f' v' pl', φ f v = some pl → φ f' v' = some pl' → pl.rb = pl'.rb → f = f' ∧ pl.d = pl'.d
  st : ∀ f fam o x s, h.blks.get f = some (.fam fam) → fam.cells.get o = some (x, s) → s ≤ fam.ver ∧ o < fam.ext
  bd : ∀ f b, h.blks.get f = some b → BlkBd h.next b

structure Ext (φ : Mp) (w : World) (φ' : Mp) (w' : World) (n : Nat) : Prop where
  le : φ.le φ'
  old : ∀ f v pl, φ' f v = some pl → f < n → φ f v = some pl ∨ ∃ v0 pl0, φ f v0 = some pl0 ∧ (pl.rb = pl0.rb ∨ w.heap.size ≤ pl.rb)
  new : ∀ f v pl, φ' f v = some pl → n ≤ f → w.heap.size ≤ pl.rb
  size : w.heap.size ≤ w'.heap.size
  keep : ∀ b, b < w.heap.size → (∀ f v pl, φ f v = some pl → pl.rb ≠ b) → w'.heap[b]? = w.heap[b]?
  os : w'.os = w.os
  tape : w'.tape = w.tape
  output : w'.output = w.output

theorem EntRel.mono {φ ψ : Mp} (h : φ.le ψ) : ∀ {es : List (V × V × Nat)} {l : List MapEntry}, EntRel φ es l → EntRel ψ es l
  | [], _, r => r
  | (_, _, _) :: _, _, ⟨e, r, a, b, c, d, k⟩ => ⟨e, r, a, b.mono h, c.mono h, d, k.mono h⟩

theorem TmRel.mono {φ ψ : Mp} (h : φ.le ψ) {m : Tr V} {n : Nat} {a : Array Value} (r : TmRel φ m n a) : TmRel ψ m n a :=
  ⟨r.1, fun k x e => (r.2 k x e).mono h⟩

theorem BRel.mono {φ ψ : Mp} (h : φ.le ψ) {w w' : World} {v : Nat} {pl : Pl} {b : Blk} (hw : w'.heap[pl.rb]? = w.heap[pl.rb]?) (r : BRel φ w v pl b) : BRel ψ w' v pl b := by
  cases b with
  | fam f =>
    obtain ⟨c, e, fr, a1, a2, a3, a4, a5, a6⟩ := r
    exact ⟨c, e, fr, hw.trans a1, a2, a3, a4, a5, fun o x st g k d => let ⟨y, p, q⟩ := a6 o x st g k d; ⟨y, p, q.mono h⟩⟩
  | map es c => obtain ⟨v0, d, es', a, b⟩ := r; exact ⟨v0, d, es', hw.trans a, b.mono h⟩
  | siter l p => obtain ⟨v0, d, s, a, b⟩ := r; exact ⟨v0, d, s, hw.trans a, b⟩
  | miter m since seen st =>
    obtain ⟨v0, d, m', seen', a, b, c⟩ := r
    refine ⟨v0, d, m', seen', hw.trans a, b, ?_⟩
    cases m with
    | none => exact c
    | some r => obtain ⟨q, x, y⟩ := c; exact ⟨q, h _ _ _ x, y⟩
  | loop p => obtain ⟨v0, d, tm, d', a, b, cc, q, x, y⟩ := r; exact ⟨v0, d, tm, d', hw.trans a, b.mono h, cc, q, h _ _ _ x, y⟩
  | dfr => exact ⟨r.1, r.2.1, hw.trans r.2.2⟩
  | dead => exact r

theorem Ext.refl (φ : Mp) (w : World) (n : Nat) (h : ∀ f v pl, φ f v = some pl → f < n) : Ext φ w φ w n :=
  ⟨Mp.le_refl φ, fun _ _ _ e _ => .inl e, fun f v pl e hn => absurd (h f v pl e) (by omega), Nat.le_refl _, fun _ _ _ => rfl, rfl, rfl, rfl⟩

theorem HRel.below {φ : Mp} {h : Heap} {w : World} (r : HRel φ h w) : φ.below h.next := fun f v pl e => (r.at_ f v pl e).1

theorem HRel.ext_refl {φ : Mp} {h : Heap} {w : World} (r : HRel φ h w) : Ext φ w φ w h.next :=
  Ext.refl φ w _ fun f v pl e => (r.at_ f v pl e).1

theorem Ext.trans {φ φ' φ'' : Mp} {w w' w'' : World} {n n' : Nat} (hn : n ≤ n') (a : Ext φ w φ' w' n) (b : Ext φ' w' φ'' w'' n') : Ext φ w φ'' w'' n := by
  refine ⟨Mp.le_trans a.le b.le, ?_, ?_, Nat.le_trans a.size b.size, ?_, b.os.trans a.os, b.tape.trans a.tape, b.output.trans a.output⟩
  · intro f v pl e hf
    rcases b.old f v pl e (by omega) with e1 | ⟨v0, pl0, e1, e2⟩
    · exact a.old f v pl e1 hf
    · rcases a.old f v0 pl0 e1 hf with e3 | ⟨v1, pl1, e3, e4⟩
      · refine .inr ⟨v0, pl0, e3, ?_⟩
        rcases e2 with e2 | e2
        · exact .inl e2
        · exact .inr (Nat.le_trans a.size e2)
      · refine .inr ⟨v1, pl1, e3, ?_⟩
        rcases e2 with e2 | e2
        · rw [e2]; exact e4
        · exact .inr (Nat.le_trans a.size e2)
  · intro f v pl e hf
    by_cases h : f < n'
    · rcases b.old f v pl e h with e1 | ⟨v0, pl0, e1, e2⟩
      · exact a.new f v pl e1 hf
      · rcases e2 with e2 | e2
        · rw [e2]; exact a.new f v0 pl0 e1 hf
        · exact Nat.le_trans a.size e2
    · exact Nat.le_trans a.size (b.new f v pl e (by omega))
  · intro k hk hno
    rw [b.keep k (Nat.lt_of_lt_of_le hk a.size) ?_, a.keep k hk hno]
    intro f v pl e he
    by_cases h : f < n
    · rcases a.old f v pl e h with e1 | ⟨v0, pl0, e1, e2⟩
      · exact hno f v pl e1 he
      · rcases e2 with e2 | e2
        · exact hno f v0 pl0 e1 (e2.symm.trans he)
        · omega
    · have := a.new f v pl e (by omega)
      omega

/-! ### Loads -/
theorem Heap.load_some {h : Heap} {a : Ad} {x : V} (e : h.load a = some x) :
    ∃ fam st, h.blks.get a.f = some (.fam fam) ∧ fam.cells.get a.o = some (x, st) ∧ st ≤ a.v := by
  unfold Heap.load at e
  obtain ⟨f, v, o⟩ := a
  dsimp only at e ⊢
  split at e
  · rename_i elem ver ext str cells hb
    split at e
    · rename_i x' st hc
      split at e
      · rename_i hle
        injection e with e
        subst e
        exact ⟨_, st, hb, hc, Nat.le_of_ble_eq_true hle⟩
      · cases e
    · cases e
  · cases e

theorem HRel.load {φ : Mp} {h : Heap} {w : World} (r : HRel φ h w) {a : Ad} {x : V} {pl : Pl} (hp : φ a.f a.v = some pl) (hd : pl.d ≤ a.o) (e : h.load a = some x) :
    ∃ y, w.cell? ⟨pl.rb, a.o - pl.d, none⟩ = some y ∧ VRel φ x y := by
  obtain ⟨fam, st, hb, hc, hle⟩ := Heap.load_some e
  obtain ⟨_, _, b, hb', hr⟩ := r.at_ _ _ _ hp
  rw [hb] at hb'
  injection hb' with hb'
  subst hb'
  obtain ⟨c, el, fr, a1, a2, a3, a4, a5, a6⟩ := hr
  obtain ⟨y, hy, hv⟩ := a6 _ _ _ hc hle hd
  exact ⟨y, by simp [World.cell?, a1, hy], hv⟩

theorem loadsT_eq {cells : Tr (V × Nat)} {h : Heap} {f v : Nat} (hb : ∃ e ver ext str, h.blks.get f = some (.fam ⟨e, ver, ext, str, cells⟩)) :
    ∀ (n o : Nat) (xs : List V), loadsT cells v o n = some xs → xs.length = n ∧ ∀ k x, xs[k]? = some x → h.load ⟨f, v, o + k⟩ = some x := by
  obtain ⟨e, ver, ext, str, hb⟩ := hb
  intro n
  induction n with
  | zero =>
    intro o xs hx
    simp only [loadsT, Option.some.injEq] at hx
    subst hx
    simp
  | succ n ih =>
    intro o xs hx
    simp only [loadsT] at hx
    split at hx
    · cases hx
    · rename_i x st hc
      split at hx
      · cases hx
      · rename_i hle
        split at hx
        · cases hx
        · rename_i ys hys
          injection hx with hx
          subst hx
          obtain ⟨hl, hk⟩ := ih _ _ hys
          refine ⟨by simp [hl], fun k z hz => ?_⟩
          cases k with
          | zero =>
            simp at hz
            subst hz
            simp [Heap.load, hb, hc, hle]
          | succ k =>
            have := hk k z (by simpa using hz)
            rw [show o + (k + 1) = Nat.succ o + k from by omega]
            exact this

theorem Heap.loads_some {h : Heap} {f v o n : Nat} {xs : List V} (e : h.loads f v o n = some xs) :
    xs.length = n ∧ ∀ k x, xs[k]? = some x → h.load ⟨f, v, o + k⟩ = some x := by
  unfold Heap.loads at e
  split at e
  · injection e with e; subst e; simp
  · split at e
    · rename_i hb
      exact loadsT_eq ⟨_, _, _, _, hb⟩ _ _ _ e
    · cases e

theorem Addr.add_off (b o n : Nat) : (⟨b, o, none⟩ : Addr).add n = ⟨b, o + n, none⟩ := by
  unfold Addr.add
  split
  · rename_i h; subst h; rfl
  · rfl

theorem run_loadCellsFrom {P : Program} {w : World} {b : Nat} : ∀ (n o i : Nat) (ys : List Value) (acc : Array Value), ys.length = n →
    (∀ k y, ys[k]? = some y → w.cell? ⟨b, o + (i + k), none⟩ = some y) → (loadCellsFrom ⟨b, o, none⟩ i n acc).run P w = .ok (acc ++ ys.toArray) w := by
  intro n
  induction n with
  | zero =>
    intro o i ys acc hl _
    simp at hl
    subst hl
    simp [loadCellsFrom]
  | succ n ih =>
    intro o i ys acc hl h
    cases ys with
    | nil => simp at hl
    | cons y ys =>
      have h0 := h 0 y (by simp)
      simp only [loadCellsFrom, Sem.run_bind, run_load, Addr.add_off]
      simp only [Nat.add_zero] at h0
      rw [h0]
      simp only [Result.andThen_ok]
      rw [ih o (i + 1) ys (acc.push y) (by simpa using hl) (fun k z hz => by
        have := h (k + 1) z (by simpa using hz)
        rw [show o + (i + 1 + k) = o + (i + (k + 1)) from by omega]
        exact this)]
      simp

theorem HRel.loads_all {P : Program} {φ : Mp} {h : Heap} {w : World} (r : HRel φ h w) {f v o n : Nat} {xs : List V} {pl : Pl} (hp : φ f v = some pl) (hd : pl.d ≤ o)
    (e : h.loads f v o n = some xs) : ∃ ys : List Value, VRels φ xs ys ∧ ∀ w2 : World, w2.heap = w.heap → (loadCells ⟨pl.rb, o - pl.d, none⟩ n).run P w2 = .ok ys.toArray w2 := by
  obtain ⟨hl, hk⟩ := Heap.loads_some e
  have key : ∀ (m : Nat) (zs : List V) (b : Nat), zs.length = m → (∀ k x, zs[k]? = some x → h.load ⟨f, v, o + (b + k)⟩ = some x) →
      ∃ ys : List Value, VRels φ zs ys ∧ ∀ k y, ys[k]? = some y → w.cell? ⟨pl.rb, (o - pl.d) + (b + k), none⟩ = some y := by
    intro m
    induction m with
    | zero => intro zs b hz _; simp at hz; subst hz; exact ⟨[], VRels.nil φ, by simp⟩
    | succ m ih =>
      intro zs b hz hz'
      cases zs with
      | nil => simp at hz
      | cons z zs =>
        obtain ⟨y, hy, hv⟩ := r.load (a := ⟨f, v, o + (b + 0)⟩) hp (by show pl.d ≤ o + (b + 0); omega) (hz' 0 z (by simp))
        obtain ⟨ys, hs, hc⟩ := ih zs (b + 1) (by simpa using hz) (fun k x hx => by
          have := hz' (k + 1) x (by simpa using hx)
          rw [show o + (b + 1 + k) = o + (b + (k + 1)) from by omega]; exact this)
        refine ⟨y :: ys, VRels.cons hv hs, fun k u hu => ?_⟩
        cases k with
        | zero =>
          simp at hu; subst hu
          rw [show o - pl.d + (b + 0) = o + (b + 0) - pl.d from by omega]; exact hy
        | succ k =>
          have := hc k u (by simpa using hu)
          rw [show o - pl.d + (b + (k + 1)) = o - pl.d + (b + 1 + k) from by omega]; exact this
  obtain ⟨ys, hs, hc⟩ := key n xs 0 hl (fun k x hx => by rw [Nat.zero_add]; exact hk k x hx)
  refine ⟨ys, hs, fun w2 hw2 => ?_⟩
  have := run_loadCellsFrom (P := P) (w := w2) (b := pl.rb) n (o - pl.d) 0 ys #[] (hs.length.trans hl) (fun k y hy => by
    have := hc k y hy
    unfold World.cell? at this ⊢
    rw [hw2]
    exact this)
  simpa [loadCells] using this

theorem HRel.loads {P : Program} {φ : Mp} {h : Heap} {w : World} (r : HRel φ h w) {f v o n : Nat} {xs : List V} {pl : Pl} (hp : φ f v = some pl) (hd : pl.d ≤ o)
    (e : h.loads f v o n = some xs) : ∃ ys : List Value, VRels φ xs ys ∧ (loadCells ⟨pl.rb, o - pl.d, none⟩ n).run P w = .ok ys.toArray w := by
  obtain ⟨ys, a, b⟩ := r.loads_all (P := P) hp hd e
  exact ⟨ys, a, b w rfl⟩

end Go.Am

/-
  WHAT EACH CHANGE OF THE ABSTRACT HEAP IS IN MEMORY.
-/
namespace Go.Am

theorem HRel.congr {φ : Mp} {h h' : Heap} {w : World} (r : HRel φ h w) (hn : h'.next = h.next) (hb : ∀ f, h'.blks.get f = h.blks.get f) : HRel φ h' w :=
  ⟨fun f v pl e => by rw [hn, hb]; exact r.at_ f v pl e, r.inj, fun f fam o x s e => r.st f fam o x s (by rw [← hb]; exact e), fun f b e => by rw [hn]; exact r.bd f b (by rw [← hb]; exact e)⟩

theorem heap_setCell (w : World) (b o : Nat) (y : Value) (k : Nat) :
    (w.setCell ⟨b, o, none⟩ y).heap[k]? = if k = b then (w.heap[b]?).map (fun
      | .cells c elem fr => .cells (c.setIfInBounds o y) elem fr
      | ob => ob) else w.heap[k]? := by
  unfold World.setCell
  simp only [Array.getElem?_modify, Option.isSome_none, Bool.false_eq_true, if_false]
  by_cases h : b = k
  · subst h; rw [if_pos rfl, if_pos rfl]; congr 1
  · rw [if_neg h, if_neg (fun e => h e.symm)]

theorem size_setCell (w : World) (a : Addr) (y : Value) : (w.setCell a y).heap.size = w.heap.size := by
  simp [World.setCell]

/-- A change of one family alone. -/
theorem HRel.change {φ φ' : Mp} {h : Heap} {w w' : World} (r : HRel φ h w) {f : Nat} {b : Blk} {next : Nat} (hn : h.next ≤ next) (hle : φ.le φ')
    (hold : ∀ f' v pl, φ' f' v = some pl → f' ≠ f → φ f' v = some pl) (hsz : w.heap.size ≤ w'.heap.size)
    (hkeep : ∀ f' v pl, φ f' v = some pl → f' ≠ f → w'.heap[pl.rb]? = w.heap[pl.rb]?)
    (hf : ∀ v pl, φ' f v = some pl → f < next ∧ pl.rb < w'.heap.size ∧ BRel φ' w' v pl b)
    (hinj : ∀ v pl f' v' pl', φ' f v = some pl → φ' f' v' = some pl' → pl.rb = pl'.rb → f = f' ∧ pl.d = pl'.d)
    (hst : ∀ fam o x s, b = .fam fam → fam.cells.get o = some (x, s) → s ≤ fam.ver ∧ o < fam.ext) (hbd : BlkBd next b) :
    HRel φ' ⟨next, h.blks.set f b⟩ w' := by
  refine ⟨?_, ?_, ?_, ?_⟩
  · intro f' v pl e
    by_cases hff : f' = f
    · subst hff
      obtain ⟨a, b', c⟩ := hf v pl e
      exact ⟨a, b', b, by rw [Tr.get_set_eq], c⟩
    · have e' := hold f' v pl e hff
      obtain ⟨a, b', blk, c, d⟩ := r.at_ f' v pl e'
      exact ⟨Nat.lt_of_lt_of_le a hn, Nat.lt_of_lt_of_le b' hsz, blk, by rw [Tr.get_set_ne _ _ hff]; exact c, d.mono hle (hkeep f' v pl e' hff)⟩
  · intro f1 v1 p1 f2 v2 p2 e1 e2 he
    by_cases h1 : f1 = f
    · subst h1; exact hinj v1 p1 f2 v2 p2 e1 e2 he
    · by_cases h2 : f2 = f
      · subst h2
        obtain ⟨a, b⟩ := hinj v2 p2 f1 v1 p1 e2 e1 he.symm
        exact ⟨a.symm, b.symm⟩
      · exact r.inj f1 v1 p1 f2 v2 p2 (hold _ _ _ e1 h1) (hold _ _ _ e2 h2) he
  · intro f' fam o x s e1 e2
    by_cases hff : f' = f
    · subst hff
      rw [Tr.get_set_eq] at e1
      injection e1 with e1
      exact hst fam o x s e1 e2
    · rw [Tr.get_set_ne _ _ hff] at e1
      exact r.st f' fam o x s e1 e2
  · intro f' b' e1
    by_cases hff : f' = f
    · subst hff
      rw [Tr.get_set_eq] at e1
      injection e1 with e1
      subst e1
      exact hbd
    · rw [Tr.get_set_ne _ _ hff] at e1
      exact (r.bd f' b' e1).mono hn

/-- One cell is written. -/
theorem HRel.store1 {P : Program} {φ : Mp} {h : Heap} {w : World} (r : HRel φ h w) {f o : Nat} {fam : Fam} {pl : Pl} {x : V} {y : Value}
    (hb : h.blks.get f = some (.fam fam)) (hc : (fam.cells.get o).isSome = true) (hp : φ f fam.ver = some pl) (hd : pl.d ≤ o) (hx : x.one = true) (hv : VRel φ x y) :
    ∃ w', (store ⟨pl.rb, o - pl.d, none⟩ y).run P w = .ok () w' ∧
      HRel φ ⟨h.next, h.blks.set f (.fam ⟨fam.elem, fam.ver, fam.ext, fam.str, fam.cells.set o (x, fam.ver)⟩)⟩ w' ∧ Ext φ w φ w' h.next := by
  obtain ⟨_, hlt, b, hb', hr⟩ := r.at_ _ _ _ hp
  rw [hb] at hb'
  injection hb' with hb'
  subst hb'
  obtain ⟨c, el, fr, a1, a2, a3, a4, a5, a6⟩ := hr
  obtain ⟨⟨x0, s0⟩, hx0⟩ := Option.isSome_iff_exists.1 hc
  obtain ⟨y0, hy0, _⟩ := a6 _ _ _ hx0 (r.st _ _ _ _ _ hb hx0).1 hd
  have hcell : w.cell? ⟨pl.rb, o - pl.d, none⟩ = some y0 := by simp [World.cell?, a1, hy0]
  have hin : o - pl.d < c.size := by
    rcases Nat.lt_or_ge (o - pl.d) c.size with q | q
    · exact q
    · simp [Array.getElem?_eq_none q] at hy0
  have hfz : w.frozen? ⟨pl.rb, o - pl.d, none⟩ = false := by
    have := a3 _ hin
    simp only [World.frozen?, a1]
    simp only [Bool.and_eq_false_iff, decide_eq_false_iff_not]
    omega
  refine ⟨w.setCell ⟨pl.rb, o - pl.d, none⟩ y, ?_, ?_, ?_⟩
  · rw [run_store _ _ _ _ _ (hv.one hx), hcell, hfz]; rfl
  · refine r.change (Nat.le_refl _) (Mp.le_refl φ) (fun _ _ _ e _ => e) (by rw [size_setCell]; exact Nat.le_refl _) ?_ ?_ ?_ ?_ ?_
    · intro f' v' pl' e hne
      rw [heap_setCell, if_neg]
      intro he
      exact hne (r.inj _ _ _ _ _ _ e hp he).1
    · intro v pl' e
      obtain ⟨q1, q2, b', q3, q4⟩ := r.at_ _ _ _ e
      rw [hb] at q3
      injection q3 with q3
      subst q3
      refine ⟨q1, by rw [size_setCell]; exact q2, ?_⟩
      obtain ⟨c', el', fr', b1, b2, b3, b4, b5, b6⟩ := q4
      by_cases he : pl'.rb = pl.rb
      · obtain ⟨_, hdd⟩ := r.inj _ _ _ _ _ _ e hp he
        rw [he, a1] at b1
        injection b1 with b1
        injection b1 with b1 b1' b1''
        subst b1; subst b1'; subst b1''
        refine ⟨c.setIfInBounds (o - pl.d) y, el, fr, ?_, by simpa using b2, by simpa using b3, by simpa using b4, b5, ?_⟩
        · rw [heap_setCell, if_pos he, a1]; rfl
        · intro o' x' st' g1 g2 g3
          by_cases ho : o' = o
          · subst ho
            rw [Tr.get_set_eq] at g1
            injection g1 with g1
            injection g1 with g1 g1'
            subst g1
            exact ⟨y, by rw [hdd]; simp [hin], hv⟩
          · rw [Tr.get_set_ne _ _ ho] at g1
            obtain ⟨y', z1, z2⟩ := b6 o' x' st' g1 g2 g3
            refine ⟨y', ?_, z2⟩
            rw [Array.getElem?_setIfInBounds, if_neg (by omega)]
            exact z1
      · refine ⟨c', el', fr', by rw [heap_setCell, if_neg he]; exact b1, b2, b3, b4, b5, ?_⟩
        intro o' x' st' g1 g2 g3
        by_cases ho : o' = o
        · subst ho
          rw [Tr.get_set_eq] at g1
          injection g1 with g1
          injection g1 with g1 g1'
          subst g1'
          -- version 'v' reads what the last version wrote: they are one
          have hve : v = fam.ver := Nat.le_antisymm b5 g2
          subst hve
          rw [hp] at e
          injection e with e
          subst e
          exact absurd rfl he
        · rw [Tr.get_set_ne _ _ ho] at g1
          exact b6 o' x' st' g1 g2 g3
    · intro v pl' f' v' pl'' e1 e2 he
      exact r.inj _ _ _ _ _ _ e1 e2 he
    · intro fam' o' x' s' e1 e2
      injection e1 with e1
      subst e1
      by_cases ho : o' = o
      · subst ho
        rw [Tr.get_set_eq] at e2
        injection e2 with e2
        injection e2 with e2 e2'
        subst e2'
        exact ⟨Nat.le_refl _, (r.st _ _ _ _ _ hb hx0).2⟩
      · rw [Tr.get_set_ne _ _ ho] at e2
        exact r.st f fam o' x' s' hb e2
    · intro o' x' s' e2
      by_cases ho : o' = o
      · subst ho
        rw [Tr.get_set_eq] at e2
        injection e2 with e2
        injection e2 with e2 e2'
        subst e2
        exact VRel.bd r.below _ _ hv
      · rw [Tr.get_set_ne _ _ ho] at e2
        exact r.bd f _ hb o' x' s' e2
  · refine ⟨Mp.le_refl φ, fun _ _ _ e _ => .inl e, fun f' v' pl' e hn => absurd (r.at_ _ _ _ e).1 (by omega), by rw [size_setCell]; exact Nat.le_refl _, ?_, rfl, rfl, rfl⟩
    intro b' hb' hno
    rw [heap_setCell, if_neg]
    intro he
    exact hno _ _ _ hp he.symm

theorem run_storeCells {P : Program} {φ : Mp} {f ver : Nat} {elem ext : Nat} {str : Bool} {pl : Pl} (next : Nat) (blks : Tr Blk) (hp : φ f ver = some pl) (base : Nat) (hd : pl.d ≤ base) :
    ∀ (l : List V) (ys : List Value) (i : Nat) (cells c : Tr (V × Nat)) (w : World), VRels φ l ys → storesT ver l (base + i) cells = some c →
      HRel φ ⟨next, blks.set f (.fam ⟨elem, ver, ext, str, cells⟩)⟩ w →
      ∃ w', (storeCells ⟨pl.rb, base - pl.d, none⟩ ys i).run P w = .ok () w' ∧ HRel φ ⟨next, blks.set f (.fam ⟨elem, ver, ext, str, c⟩)⟩ w' ∧ Ext φ w φ w' next := by
  intro l
  induction l with
  | nil =>
    intro ys i cells c w hv hs r
    rw [VRels.nil_iff] at hv
    subst hv
    simp only [storesT, Option.some.injEq] at hs
    subst hs
    exact ⟨w, rfl, r, r.ext_refl⟩
  | cons x xs ih =>
    intro ys i cells c w hv hs r
    rw [VRels.cons_iff] at hv
    obtain ⟨y, ys', rfl, hy, hys⟩ := hv
    simp only [storesT] at hs
    split at hs
    · cases hs
    · rename_i p hc
      split at hs
      · cases hs
      · rename_i hx
        obtain ⟨w1, e1, r1, x1⟩ := r.store1 (P := P) (f := f) (o := base + i) (fam := ⟨elem, ver, ext, str, cells⟩) (x := x) (y := y)
          (by rw [Tr.get_set_eq]) (by rw [hc]; rfl) hp (by omega) (by simpa using hx) hy
        have r1' : HRel φ ⟨next, blks.set f (.fam ⟨elem, ver, ext, str, cells.set (base + i) (x, ver)⟩)⟩ w1 := by
          refine r1.congr rfl fun g => ?_
          by_cases hg : g = f
          · subst hg; simp only [Tr.get_set_eq]
          · simp only [Tr.get_set_ne _ _ hg]
        obtain ⟨w2, e2, r2, x2⟩ := ih ys' (i + 1) _ c w1 hys (by rw [show base + (i + 1) = Nat.succ (base + i) from by omega]; exact hs) r1'
        refine ⟨w2, ?_, r2, x1.trans (Nat.le_refl _) x2⟩
        simp only [storeCells, Sem.run_bind, Addr.add_off]
        rw [show base - pl.d + i = base + i - pl.d from by omega, e1]
        exact e2

theorem HRel.stores {P : Program} {φ : Mp} {h h' : Heap} {w : World} (r : HRel φ h w) {f v o : Nat} {l : List V} {ys : List Value} {pl : Pl}
    (hp : φ f v = some pl) (hd : pl.d ≤ o) (hv : VRels φ l ys) (e : h.stores f v o l = some h') :
    ∃ w', (storeCells ⟨pl.rb, o - pl.d, none⟩ ys).run P w = .ok () w' ∧ HRel φ h' w' ∧ Ext φ w φ w' h.next ∧ h'.next = h.next := by
  unfold Heap.stores at e
  split at e
  · injection e with e
    subst e
    rw [VRels.nil_iff] at hv
    subst hv
    exact ⟨w, rfl, r, r.ext_refl, rfl⟩
  · split at e
    rename_i next blks
    split at e
    · rename_i elem ver ext str cells hb
      split at e
      · cases e
      · rename_i hve
        split at e
        · cases e
        · rename_i c hc
          injection e with e
          subst e
          have hve' : v = ver := Nat.eq_of_beq_eq_true hve
          subst hve'
          have r' : HRel φ ⟨next, blks.set f (.fam ⟨elem, v, ext, str, cells⟩)⟩ w := by
            refine r.congr rfl fun g => ?_
            by_cases hg : g = f
            · subst hg; simp only [Tr.get_set_eq]; exact hb.symm
            · simp only [Tr.get_set_ne _ _ hg]
          obtain ⟨w', a, b, c'⟩ := run_storeCells (P := P) next blks hp o hd l ys 0 cells c w hv hc r'
          exact ⟨w', a, b, c', rfl⟩
    · cases e

/-! ### New blocks -/
def Mp.upd (φ : Mp) (f v : Nat) (pl : Pl) : Mp := fun f' v' => if f' = f ∧ v' = v then some pl else φ f' v'

theorem Mp.upd_eq (φ : Mp) (f v : Nat) (pl : Pl) : φ.upd f v pl f v = some pl := by simp [Mp.upd]
theorem Mp.upd_ne (φ : Mp) {f v f' v' : Nat} (pl : Pl) (h : ¬ (f' = f ∧ v' = v)) : φ.upd f v pl f' v' = φ f' v' := by unfold Mp.upd; rw [if_neg h]

theorem HRel.none_at {φ : Mp} {h : Heap} {w : World} (r : HRel φ h w) {f : Nat} (hf : h.next ≤ f) (v : Nat) : φ f v = none := by
  cases e : φ f v with
  | none => rfl
  | some pl => exact absurd (r.at_ _ _ _ e).1 (by omega)

theorem HRel.le_upd {φ : Mp} {h : Heap} {w : World} (r : HRel φ h w) (pl : Pl) : φ.le (φ.upd h.next 0 pl) := by
  intro f v pl' e
  rw [Mp.upd_ne]
  · exact e
  · rintro ⟨rfl, rfl⟩
    rw [r.none_at (Nat.le_refl _)] at e
    cases e

def World.laid (w : World) (o : Obj) : World := { w with heap := w.heap.push o }

theorem heap_laid_old (w : World) (o : Obj) {k : Nat} (h : k < w.heap.size) : (World.laid w o).heap[k]? = w.heap[k]? := by
  simp only [World.laid, Array.getElem?_push]
  rw [if_neg (by omega)]
theorem heap_laid_new (w : World) (o : Obj) : (World.laid w o).heap[w.heap.size]? = some o := by
  show (w.heap.push o)[w.heap.size]? = some o
  exact Array.getElem?_push_size
theorem size_laid (w : World) (o : Obj) : (World.laid w o).heap.size = w.heap.size + 1 := by simp [World.laid]

theorem HRel.push {φ : Mp} {h : Heap} {w : World} (r : HRel φ h w) (b : Blk) (o : Obj) (sz : Nat)
    (hb : BRel (φ.upd h.next 0 ⟨w.heap.size, 0, sz⟩) (World.laid w o) 0 ⟨w.heap.size, 0, sz⟩ b)
    (hst0 : ∀ fam o x s, b = .fam fam → fam.cells.get o = some (x, s) → s ≤ 0 ∧ o < fam.ext) :
    HRel (φ.upd h.next 0 ⟨w.heap.size, 0, sz⟩) (h.newBlk b) (World.laid w o) ∧ Ext φ w (φ.upd h.next 0 ⟨w.heap.size, 0, sz⟩) (World.laid w o) h.next := by
  have hst : ∀ fam o x s, b = .fam fam → fam.cells.get o = some (x, s) → s ≤ fam.ver ∧ o < fam.ext := fun fam o x s e1 e2 => ⟨Nat.le_trans (hst0 fam o x s e1 e2).1 (Nat.zero_le _), (hst0 fam o x s e1 e2).2⟩
  have hle := r.le_upd ⟨w.heap.size, 0, sz⟩
  have hnone : ∀ v, φ h.next v = none := r.none_at (Nat.le_refl _)
  have hnew : ∀ v pl, φ.upd h.next 0 ⟨w.heap.size, 0, sz⟩ h.next v = some pl → v = 0 ∧ pl = ⟨w.heap.size, 0, sz⟩ := by
    intro v pl e
    by_cases hv : v = 0
    · subst hv
      rw [Mp.upd_eq] at e
      injection e with e
      exact ⟨rfl, e.symm⟩
    · rw [Mp.upd_ne _ _ (by omega), hnone] at e
      cases e
  refine ⟨?_, ?_⟩
  · refine (r.change (f := h.next) (b := b) (next := Nat.succ h.next) (Nat.le_succ _) hle ?_ (by rw [size_laid]; omega) ?_ ?_ ?_ hst ?_)
    · intro f' v pl e hne
      rw [Mp.upd_ne _ _ (by omega)] at e
      exact e
    · intro f' v pl e _
      exact heap_laid_old _ _ (r.at_ _ _ _ e).2.1
    · intro v pl e
      obtain ⟨rfl, rfl⟩ := hnew v pl e
      exact ⟨Nat.lt_succ_self _, by rw [size_laid]; exact Nat.lt_succ_self _, hb⟩
    · intro v pl f' v' pl' e1 e2 he
      obtain ⟨rfl, rfl⟩ := hnew v pl e1
      by_cases hf : f' = h.next
      · subst hf
        obtain ⟨rfl, rfl⟩ := hnew v' pl' e2
        exact ⟨rfl, rfl⟩
      · rw [Mp.upd_ne _ _ (by omega)] at e2
        have := (r.at_ _ _ _ e2).2.1
        have he' : w.heap.size = pl'.rb := he
        omega
    · refine hb.bd ?_ fun fam o x s e1 e2 => ⟨(hst0 fam o x s e1 e2).1, Nat.zero_le _⟩
      intro f' v pl e
      by_cases hne : f' = h.next
      · subst hne; exact Nat.lt_succ_self _
      · rw [Mp.upd_ne _ _ (by omega)] at e
        exact Nat.lt_succ_of_lt (r.at_ _ _ _ e).1
  · refine ⟨hle, ?_, ?_, by rw [size_laid]; omega, fun k hk _ => heap_laid_old _ _ hk, rfl, rfl, rfl⟩
    · intro f v pl e hf
      rw [Mp.upd_ne _ _ (by omega)] at e
      exact .inl e
    · intro f v pl e hf
      by_cases hf' : f = h.next
      · subst hf'
        obtain ⟨rfl, rfl⟩ := hnew v pl e
        exact Nat.le_refl _
      · rw [Mp.upd_ne _ _ (by omega)] at e
        exact absurd (r.at_ _ _ _ e).1 (by omega)

theorem VRel.upd {φ : Mp} {h : Heap} {w : World} (r : HRel φ h w) (pl : Pl) {x : V} {y : Value} (k : VRel φ x y) : VRel (φ.upd h.next 0 pl) x y := k.mono (r.le_upd pl)

/-- A new row of cells: the first of them are known. -/
theorem HRel.alloc {φ : Mp} {h : Heap} {w : World} (r : HRel φ h w) (e : TypeId) (l : List V) (str : Bool) (c : Array Value) (fr : Nat × Nat)
    (hl : ∀ (k : Nat) (x : V), l[k]? = some x → ∃ y, c[k]? = some y ∧ VRel φ x y) (hfr : ∀ i : Nat, i < c.size → ¬ (fr.1 ≤ i ∧ i < fr.2))
    (hs : str = false → ∀ i : Nat, ¬ (fr.1 ≤ i ∧ i < fr.2)) :
    HRel (φ.upd h.next 0 ⟨w.heap.size, 0, c.size⟩) (h.alloc e l str) (World.laid w (.cells c e fr)) ∧
      Ext φ w (φ.upd h.next 0 ⟨w.heap.size, 0, c.size⟩) (World.laid w (.cells c e fr)) h.next := by
  refine r.push (.fam ⟨e, 0, l.length, str, lay 0 l 0 .nil⟩) (.cells c e fr) c.size ?_ ?_
  · refine ⟨c, e, fr, heap_laid_new _ _, rfl, hfr, hs, Nat.le_refl _, ?_⟩
    intro o x st g _ _
    rw [lay_get] at g
    split at g
    · rename_i hh
      injection g with g
      injection g with g1 g2
      obtain ⟨y, hy, hv⟩ := hl o x (by rw [List.getElem?_eq_getElem (by have := hh.2; omega)]; rw [← g1]; congr 1)
      exact ⟨y, by simpa using hy, VRel.upd r _ hv⟩
    · rw [Tr.get_nil] at g; cases g
  · intro fam o x s e1 e2
    injection e1 with e1
    subst e1
    rw [lay_get] at e2
    split at e2
    · rename_i hh
      injection e2 with e2
      injection e2 with g1 g2
      exact ⟨by omega, by have := hh.2; show o < l.length; omega⟩
    · rw [Tr.get_nil] at e2; cases e2

theorem Heap.alloc_next (h : Heap) (e : TypeId) (l : List V) (s : Bool) : (h.alloc e l s).next = h.next + 1 := rfl
theorem Heap.newBlk_next (h : Heap) (b : Blk) : (h.newBlk b).next = h.next + 1 := rfl
theorem Heap.setBlk_next (h : Heap) (r : Nat) (b : Blk) : (h.setBlk r b).next = h.next := rfl

/-- A block that is no row of cells is laid anew. -/
theorem HRel.put {φ : Mp} {h : Heap} {w : World} (r : HRel φ h w) {f : Nat} {b b0 : Blk} {pl : Pl} (o : Obj) (hp : φ f 0 = some pl)
    (h0 : h.blks.get f = some b0) (hb0 : b0.isFam = false) (hb : BRel φ { w with heap := w.heap.setIfInBounds pl.rb o } 0 pl b)
    (hbf : b.isFam = false) :
    HRel φ (h.setBlk f b) { w with heap := w.heap.setIfInBounds pl.rb o } ∧ Ext φ w φ { w with heap := w.heap.setIfInBounds pl.rb o } h.next := by
  have hlt := (r.at_ _ _ _ hp).2.1
  refine ⟨?_, ?_⟩
  · refine r.change (f := f) (b := b) (next := h.next) (Nat.le_refl _) (Mp.le_refl φ) (fun _ _ _ e _ => e) (by simp) ?_ ?_ ?_ (by intro _ _ _ _ q; subst q; cases hbf) (hb.bd r.below (by intro _ _ _ _ q; subst q; cases hbf))
    · intro f' v q e hne
      show (w.heap.setIfInBounds pl.rb o)[q.rb]? = _
      rw [Array.getElem?_setIfInBounds, if_neg]
      intro he
      exact hne (r.inj _ _ _ _ _ _ e hp he.symm).1
    · intro v q e
      have : v = 0 := by
        obtain ⟨_, _, b', q1, q2⟩ := r.at_ _ _ _ e
        rw [h0] at q1
        injection q1 with q1
        subst q1
        exact q2.v0 hb0
      subst this
      rw [hp] at e
      injection e with e
      subst e
      exact ⟨(r.at_ _ _ _ hp).1, by simpa using hlt, hb⟩
    · intro v q f' v' q' e1 e2 he
      exact r.inj _ _ _ _ _ _ e1 e2 he
  · refine ⟨Mp.le_refl φ, fun _ _ _ e _ => .inl e, fun f' v' pl' e hn => absurd (r.at_ _ _ _ e).1 (by omega), by simp, ?_, rfl, rfl, rfl⟩
    intro k hk hno
    show (w.heap.setIfInBounds pl.rb o)[k]? = _
    rw [Array.getElem?_setIfInBounds, if_neg (fun he => hno _ _ _ hp he)]

/-! ### A new version of a grown array -/
def over (c : Array Value) (p : Nat) : List Value → Array Value
  | [] => c
  | y :: ys => over (c.setIfInBounds p y) (p + 1) ys

theorem over_size : ∀ (ys : List Value) (c : Array Value) (p : Nat), (over c p ys).size = c.size
  | [], _, _ => rfl
  | y :: ys, c, p => by rw [over, over_size ys]; simp

theorem over_get : ∀ (ys : List Value) (c : Array Value) (p k : Nat), p + ys.length ≤ c.size →
    (over c p ys)[k]? = if p ≤ k ∧ k < p + ys.length then ys[k - p]? else c[k]?
  | [], c, p, k, _ => by rw [if_neg (by simp)]; rfl
  | y :: ys, c, p, k, h => by
    simp only [List.length_cons] at h
    rw [over, over_get ys _ _ _ (by simp; omega)]
    by_cases h1 : k = p
    · subst h1
      rw [if_neg (by omega), if_pos (by simp), Array.getElem?_setIfInBounds, if_pos rfl, if_pos (by omega)]
      simp
    · by_cases h2 : p + 1 ≤ k ∧ k < p + 1 + ys.length
      · rw [if_pos h2, if_pos (by simp only [List.length_cons]; omega), show k - p = (k - (p + 1)) + 1 from by omega]
        simp
      · rw [if_neg h2, if_neg (by simp only [List.length_cons]; omega), Array.getElem?_setIfInBounds, if_neg (by omega)]

theorem run_storeRow {P : Program} {b : Nat} {el : TypeId} {fr : Nat × Nat} : ∀ (ys : List Value) (o i : Nat) (c : Array Value) (w : World), w.heap[b]? = some (.cells c el fr) →
    (∀ y ∈ ys, y.oneCell' = true) → o + i + ys.length ≤ c.size → (∀ k : Nat, k < c.size → ¬ (fr.1 ≤ k ∧ k < fr.2)) →
    ∃ w', (storeCells ⟨b, o, none⟩ ys i).run P w = .ok () w' ∧ w'.heap[b]? = some (.cells (over c (o + i) ys) el fr) ∧ (∀ k, k ≠ b → w'.heap[k]? = w.heap[k]?) ∧
      w'.heap.size = w.heap.size ∧ w'.os = w.os ∧ w'.tape = w.tape ∧ w'.output = w.output := by
  intro ys
  induction ys with
  | nil => intro o i c w h _ _ _; exact ⟨w, rfl, h, fun _ _ => rfl, rfl, rfl, rfl, rfl⟩
  | cons y ys ih =>
    intro o i c w h hy hl hf
    simp only [List.length_cons] at hl
    have hin : o + i < c.size := by omega
    have hcell : ∃ v, w.cell? ⟨b, o + i, none⟩ = some v := ⟨c[o + i], by simp [World.cell?, h, Array.getElem?_eq_getElem hin]⟩
    obtain ⟨v, hcell⟩ := hcell
    have hfz : w.frozen? ⟨b, o + i, none⟩ = false := by
      have := hf _ hin
      simp only [World.frozen?, h]
      simp only [Bool.and_eq_false_iff, decide_eq_false_iff_not]
      omega
    have h1 : (w.setCell ⟨b, o + i, none⟩ y).heap[b]? = some (.cells (c.setIfInBounds (o + i) y) el fr) := by rw [heap_setCell, if_pos rfl, h]; rfl
    obtain ⟨w', e, a1, a2, a3, a4, a5, a6⟩ := ih o (i + 1) (c.setIfInBounds (o + i) y) (w.setCell ⟨b, o + i, none⟩ y) h1 (fun z hz => hy z (List.mem_cons_of_mem _ hz))
      (by simp; omega) (by simpa using hf)
    refine ⟨w', ?_, ?_, ?_, a3.trans (size_setCell _ _ _), a4, a5, a6⟩
    · simp only [storeCells, Sem.run_bind, Addr.add_off, run_store _ _ _ _ _ (hy y (List.mem_cons_self ..)), hcell, hfz]
      exact e
    · rw [a1, over]
      congr 2
    · intro k hk
      rw [a2 k hk, heap_setCell, if_neg hk]

theorem allOne_mem : ∀ {l : List V}, allOne l = true → ∀ x ∈ l, x.one = true
  | [], _, x, h => by cases h
  | y :: l, e, x, h => by
    simp only [allOne] at e
    split at e
    · rename_i hy
      cases h with
      | head => exact hy
      | tail _ h => exact allOne_mem e x h
    · cases e

theorem VRels.ones {φ : Mp} : ∀ {l : List V} {ys : List Value}, VRels φ l ys → allOne l = true → ∀ y ∈ ys, y.oneCell' = true
  | [], ys, h, _, y, hy => by rw [VRels.nil_iff] at h; subst h; cases hy
  | x :: l, ys, h, e, y, hy => by
    rw [VRels.cons_iff] at h
    obtain ⟨z, zs, rfl, h1, h2⟩ := h
    have hx := allOne_mem e x (List.mem_cons_self ..)
    have hl : allOne l = true := by simp only [allOne, hx] at e; exact e
    cases hy with
    | head => exact h1.one hx
    | tail _ hy => exact h2.ones hl y hy

/-- The shared part of both ways to grow. -/
theorem HRel.grown {φ : Mp} {h : Heap} {w w' : World} (r : HRel φ h w) {f o : Nat} {fam : Fam} {pl pl' : Pl} {l : List V}
    (hb : h.blks.get f = some (.fam fam)) (hp : φ f fam.ver = some pl) (hext : fam.ext ≤ o + l.length)
    (hpl : (pl'.rb = pl.rb ∧ pl'.d = pl.d ∧ pl'.sz = pl.sz) ∨ w.heap.size ≤ pl'.rb) (hin : pl'.rb < w'.heap.size)
    (hsz : w.heap.size ≤ w'.heap.size)
    (hkeep : ∀ k, k < w.heap.size → (pl'.rb = pl.rb → k ≠ pl.rb) → w'.heap[k]? = w.heap[k]?)
    (hnew : CellsRel (φ.upd f (fam.ver + 1) pl') w' ⟨fam.elem, fam.ver + 1, o + l.length, fam.str, lay (fam.ver + 1) l o fam.cells⟩ (fam.ver + 1) pl')
    (hold : ∀ v q, φ f v = some q → CellsRel (φ.upd f (fam.ver + 1) pl') w' ⟨fam.elem, fam.ver + 1, o + l.length, fam.str, lay (fam.ver + 1) l o fam.cells⟩ v q)
    (hos : w'.os = w.os) (htape : w'.tape = w.tape) (hout : w'.output = w.output) (hlb : ∀ (k : Nat) (x : V), l[k]? = some x → Bd h.next x) :
    HRel (φ.upd f (fam.ver + 1) pl') (h.grow f fam o l) w' ∧ Ext φ w (φ.upd f (fam.ver + 1) pl') w' h.next := by
  have hnone : φ f (fam.ver + 1) = none := by
    cases e : φ f (fam.ver + 1) with
    | none => rfl
    | some q =>
      obtain ⟨_, _, b, q1, q2⟩ := r.at_ _ _ _ e
      rw [hb] at q1
      injection q1 with q1
      subst q1
      obtain ⟨_, _, _, _, _, _, _, q3, _⟩ := q2
      omega
  have hle : φ.le (φ.upd f (fam.ver + 1) pl') := by
    intro f' v q e
    rw [Mp.upd_ne]
    · exact e
    · rintro ⟨rfl, rfl⟩
      rw [hnone] at e; cases e
  have hcase : ∀ v q, φ.upd f (fam.ver + 1) pl' f v = some q → (v = fam.ver + 1 ∧ q = pl') ∨ φ f v = some q := by
    intro v q e
    by_cases hv : v = fam.ver + 1
    · subst hv
      rw [Mp.upd_eq] at e
      injection e with e
      exact .inl ⟨rfl, e.symm⟩
    · rw [Mp.upd_ne _ _ (by omega)] at e
      exact .inr e
  have hf := (r.at_ _ _ _ hp).1
  refine ⟨?_, ?_⟩
  · refine r.change (f := f) (b := .fam ⟨fam.elem, fam.ver + 1, o + l.length, fam.str, lay (fam.ver + 1) l o fam.cells⟩) (next := h.next) (Nat.le_refl _) hle ?_ hsz ?_ ?_ ?_ ?_ ?_
    · intro f' v q e hne
      rw [Mp.upd_ne _ _ (by omega)] at e
      exact e
    · intro f' v q e hne
      refine hkeep _ (r.at_ _ _ _ e).2.1 fun _ he => ?_
      exact hne (r.inj _ _ _ _ _ _ e hp he).1
    · intro v q e
      rcases hcase v q e with ⟨rfl, rfl⟩ | e'
      · exact ⟨hf, hin, hnew⟩
      · exact ⟨hf, Nat.lt_of_lt_of_le (r.at_ _ _ _ e').2.1 hsz, hold v q e'⟩
    · intro v q f' v' q' e1 e2 he
      by_cases hff : f' = f
      · subst hff
        refine ⟨rfl, ?_⟩
        rcases hcase v q e1 with ⟨rfl, rfl⟩ | e1'
        · rcases hcase v' q' e2 with ⟨rfl, rfl⟩ | e2'
          · rfl
          · rcases hpl with ⟨a, b, _⟩ | a
            · have := (r.inj _ _ _ _ _ _ e2' hp (he.symm.trans a)).2
              omega
            · have := (r.at_ _ _ _ e2').2.1; omega
        · rcases hcase v' q' e2 with ⟨rfl, rfl⟩ | e2'
          · rcases hpl with ⟨a, b, _⟩ | a
            · have := (r.inj _ _ _ _ _ _ e1' hp (he.trans a)).2
              omega
            · have := (r.at_ _ _ _ e1').2.1; omega
          · exact (r.inj _ _ _ _ _ _ e1' e2' he).2
      · rw [Mp.upd_ne _ _ (by omega)] at e2
        exfalso
        rcases hcase v q e1 with ⟨rfl, rfl⟩ | e1'
        · rcases hpl with ⟨a, b, _⟩ | a
          · exact hff (r.inj _ _ _ _ _ _ e2 hp (he.symm.trans a)).1
          · have := (r.at_ _ _ _ e2).2.1; omega
        · exact hff (r.inj _ _ _ _ _ _ e2 e1' he.symm).1
    · intro fam' o' x s e1 e2
      injection e1 with e1
      subst e1
      rw [lay_get] at e2
      split at e2
      · rename_i hh
        injection e2 with e2
        injection e2 with g1 g2
        exact ⟨by show s ≤ fam.ver + 1; omega, by have := hh.2; show o' < o + l.length; omega⟩
      · have := r.st _ _ _ _ _ hb e2
        exact ⟨by show s ≤ fam.ver + 1; omega, by show o' < o + l.length; omega⟩
    · intro o' x s e2
      have e2 : (lay (fam.ver + 1) l o fam.cells).get o' = some (x, s) := e2
      rw [lay_get] at e2
      split at e2
      · rename_i hh
        injection e2 with e2
        injection e2 with g1 g2
        subst g1
        exact hlb (o' - o) _ (by rw [List.getElem?_eq_getElem])
      · exact r.bd f _ hb o' x s e2
  · refine ⟨hle, ?_, ?_, hsz, ?_, hos, htape, hout⟩
    · intro f' v q e hlt
      by_cases hff : f' = f
      · subst hff
        rcases hcase v q e with ⟨rfl, rfl⟩ | e'
        · refine .inr ⟨_, _, hp, ?_⟩
          rcases hpl with ⟨a, _, _⟩ | a
          · exact .inl a
          · exact .inr a
        · exact .inl e'
      · rw [Mp.upd_ne _ _ (by omega)] at e
        exact .inl e
    · intro f' v q e hn
      have hff : f' ≠ f := by omega
      rw [Mp.upd_ne _ _ (by omega)] at e
      exact absurd (r.at_ _ _ _ e).1 (by omega)
    · intro k hk hno
      exact hkeep k hk fun _ he => hno _ _ _ hp he.symm

end Go.Am

