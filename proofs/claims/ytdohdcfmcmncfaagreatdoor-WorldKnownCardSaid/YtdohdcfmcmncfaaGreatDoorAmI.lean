/-
  A DRAWN REGION IN ANY ORDER: what holds between two operations.
-/
import Derived.Test.YtdohdcfmcmncfaaGreatDoorAmH
namespace Go.Am

section
variable {P : Program} {E : Env} {C : Calls'} {ops : Array Oper} {b : Tr Nat} {ts : Nat → T} {hs : Nat → Heap}

open Classical in
/-- The block of a family as it was laid. -/
noncomputable def birth (ops : Array Oper) (ts : Nat → T) (hs : Nat → Heap) (f : Nat) : Option Blk :=
  if h : ∃ k, KAt ops ts k .new ∧ (hs k).next = f then (hs (h.choose + 1)).blks.get f else none

/-- The blocks at a stage: those of the text's heap there, and, of families that come later in the text, the blocks as they were laid. -/
noncomputable def blkAt (ops : Array Oper) (ts : Nat → T) (hs : Nat → Heap) (e f : Nat) : Option Blk :=
  if f < (hs e).next then (hs e).blks.get f else birth ops ts hs f

theorem DRun.new_uniq (ok : EnvOk P E) (k : DRun P E C ops b ts hs) {i j : Nat} (hi : KAt ops ts i .new) (hj : KAt ops ts j .new) (e : (hs i).next = (hs j).next) : i = j := by
  have h1 := k.next_new ok hi
  have h2 := k.next_new ok hj
  have l1 := hi.lt
  have l2 := hj.lt
  rcases Nat.lt_trichotomy i j with q | q | q
  · have := k.mono (i := i + 1) (j := j) (by omega) (by omega)
    omega
  · exact q
  · have := k.mono (i := j + 1) (j := i) (by omega) (by omega)
    omega

theorem DRun.birth_eq (ok : EnvOk P E) (k : DRun P E C ops b ts hs) {i : Nat} (hi : KAt ops ts i .new) : birth ops ts hs (hs i).next = (hs (i + 1)).blks.get (hs i).next := by
  have h : ∃ m, KAt ops ts m .new ∧ (hs m).next = (hs i).next := ⟨i, hi, rfl⟩
  unfold birth
  rw [dif_pos h]
  have := k.new_uniq ok h.choose_spec.1 hi h.choose_spec.2
  rw [this]

/-- A stage: an effect, or the end; no effect lies between a place and it. -/
structure Stage (ops : Array Oper) (ts : Nat → T) (s e : Nat) : Prop where
  le : s ≤ e
  lt : e ≤ ops.size
  is : e = ops.size ∨ KAt ops ts e .eff
  calm : ∀ j, s ≤ j → j < e → ¬ KAt ops ts j .eff

theorem DRun.blk_new (ok : EnvOk P E) (k : DRun P E C ops b ts hs) {s e i : Nat} (hst : Stage ops ts s e) (hi : KAt ops ts i .new) (hs' : s ≤ i) : blkAt ops ts hs e (hs i).next = (hs (i + 1)).blks.get (hs i).next := by
  unfold blkAt
  have h1 := k.next_new ok hi
  split
  · rename_i hf
    have hie : i < e := by
      rcases Nat.lt_or_ge i e with q | q
      · exact q
      · have := k.mono (i := e) (j := i) q (by have := hi.lt; omega)
        omega
    exact k.stay ok (i := i + 1) (j := e) (by omega) hst.lt (by omega) (fun m h2 h3 => hst.calm m (by omega) h3)
  · exact k.birth_eq ok hi

/-- The slots, where some operations are done. -/
structure TmInv (ops : Array Oper) (ts : Nat → T) (listed : Array Bool) (φ : Mp) (tmps : Array Value) : Prop where
  t0 : ∀ (d : Tmp) (x : V), (∀ (k : Nat) (o : Oper), ops[k]? = some o → o.dst = some d → ¬ Dn listed k) → (ts 0).get d = some x → VRel φ x (tmps.getD d undef)
  tk : ∀ (k : Nat) (o : Oper) (d : Tmp) (x : V), ops[k]? = some o → o.dst = some d → Dn listed k → (ts (k + 1)).get d = some x → VRel φ x (tmps.getD d undef)
  sz : tmps.size = (ts 0).n

theorem TmInv.put {listed : Array Bool} {φ φ' : Mp} {a : Act} {i : Nat} {o : Oper} {v : V} {y : Value} (k : DRun P E C ops b ts hs) (h : TmInv ops ts listed φ a.tmps) (hle : φ.le φ') (ho : ops[i]? = some o) (hsz : listed.size = ops.size)
    (hv : VRel φ' v y) (hp : (ts i).put o.dst v = some (ts (i + 1))) : TmInv ops ts (listed.setIfInBounds i true) φ' (a.put o.dst y).tmps := by
  have hi : i < listed.size := by rw [hsz]; exact (Array.getElem?_eq_some_iff.1 ho).1
  have keep : ∀ d, o.dst ≠ some d → (a.put o.dst y).tmps.getD d undef = a.tmps.getD d undef := by
    intro d hd
    cases hdst : o.dst with
    | none => rfl
    | some j =>
      have hj : j ≠ d := fun q => hd (by rw [hdst, q])
      simp [Act.put, Array.getD_eq_getD_getElem?, hj]
  refine ⟨fun d x hno hx => ?_, fun j o' d x ho' hd hdn hx => ?_, ?_⟩
  · have hd : o.dst ≠ some d := fun q => hno i o ho q ((dn_set hi).2 (.inl rfl))
    rw [keep d hd]
    exact (h.t0 d x (fun m om hom hdm hdn => hno m om hom hdm ((dn_set hi).2 (.inr hdn))) hx).mono hle
  · by_cases hij : j = i
    · subst hij
      rw [ho] at ho'
      injection ho' with ho'
      subst ho'
      have hx2 := (put_get hp).2 d
      rw [if_pos hd, hx] at hx2
      injection hx2 with hx2
      subst hx2
      have hw : d < a.tmps.size := by
        rw [h.sz, ← k.width (j := j) (by omega)]
        unfold T.put at hp
        rw [hd] at hp
        simp only at hp
        generalize ts j = tt at *
        obtain ⟨n, m⟩ := tt
        simp only at hp ⊢
        split at hp
        · rename_i q; simpa using q
        · cases hp
      rw [hd]
      simp [Act.put, Array.getD_eq_getD_getElem?, hw]
      exact hv
    · have hd2 : o.dst ≠ some d := fun q => hij (k.ord.one j o' i o d ho' ho hd q)
      rw [keep d hd2]
      exact (h.tk j o' d x ho' hd (((dn_set hi).1 hdn).resolve_left hij) hx).mono hle
  · cases hdst : o.dst with
    | none => exact h.sz
    | some j => simp [Act.put]; exact h.sz

/-- What an operation reads, when it is ready. -/
theorem TmInv.read {listed : Array Bool} {φ : Mp} {tmps : Array Value} {i : Nat} {o : Oper} (k : DRun P E C ops b ts hs) (h : TmInv ops ts listed φ tmps) (hc : Closed b listed) (ho : ops[i]? = some o)
    (hrd : ∀ j, bitT b i j = true → Dn listed j) (hnd : ¬ Dn listed i) {d : Tmp} {x : V} (hd : d ∈ readsOf ops o) (hx : (ts i).get d = some x) : VRel φ x (tmps.getD d undef) := by
  have hi : i < ops.size := (Array.getElem?_eq_some_iff.1 ho).1
  by_cases hw : ∃ (j : Nat) (o' : Oper), ops[j]? = some o' ∧ o'.dst = some d
  · obtain ⟨j, o', hj, hdj⟩ := hw
    have hjl : j < ops.size := (Array.getElem?_eq_some_iff.1 hj).1
    rcases Nat.lt_trichotomy j i with q | q | q
    · have hdn := hrd j (k.ord.rw_ i o j o' d ho hj q hd hdj)
      refine h.tk j o' d x hj hdj hdn ?_
      rw [← k.slots (i := j + 1) (j := i) (by omega) (by omega) (fun m om h1 h2 hom hdm => by have := k.ord.one m om j o' d hom hj hdm hdj; omega)]
      exact hx
    · refine h.t0 d x (fun m om hom hdm hdn => hnd ?_) ?_
      · have := k.ord.one m om j o' d hom hj hdm hdj
        rw [← q, ← this]; exact hdn
      · rw [← k.slots (i := 0) (j := i) (by omega) (by omega) (fun m om h1 h2 hom hdm => by have := k.ord.one m om j o' d hom hj hdm hdj; omega)]
        exact hx
    · refine h.t0 d x (fun m om hom hdm hdn => hnd ?_) ?_
      · have := k.ord.one m om j o' d hom hj hdm hdj
        subst this
        exact hc _ _ hdn (k.ord.wr_ m o' i o d hj ho q hdj hd)
      · rw [← k.slots (i := 0) (j := i) (by omega) (by omega) (fun m om h1 h2 hom hdm => by have := k.ord.one m om j o' d hom hj hdm hdj; omega)]
        exact hx
  · refine h.t0 d x (fun m om hom hdm _ => hw ⟨m, om, hom, hdm⟩) ?_
    rw [← k.slots (i := 0) (j := i) (by omega) (by omega) (fun m om h1 h2 hom hdm => hw ⟨m, om, hom, hdm⟩)]
    exact hx

theorem tmpsOf_reads {o : Oper} {d : Tmp} (h : d ∈ tmpsOf o.op.operands.toList) : d ∈ readsOf ops o := by
  unfold readsOf
  split
  · exact h
  · split
    · exact List.mem_cons_of_mem _ h
    · exact h

theorem guard_reads {o : Oper} {g : Nat} {wt : Bool} {d : Tmp} (hg : o.guard = some (g, wt)) (hd : (ops[g]?).bind (·.dst) = some d) : d ∈ readsOf ops o := by
  unfold readsOf
  rw [hg]
  simp only
  rw [hd]
  exact List.mem_cons_self

/-- What holds between two operations. -/
structure DInv (P : Program) (ops : Array Oper) (b : Tr Nat) (ts : Nat → T) (hs : Nat → Heap) (φ0 : Mp) (w0 : World) (d0 : List Deferred) (listed : Array Bool) (s e : Nat) (φ : Mp) (w : World) (a : Act) : Prop where
  size : listed.size = ops.size
  closed : Closed b listed
  stage : Stage ops ts s e
  below : ∀ i, i < e → KAt ops ts i .eff → Dn listed i
  above : ∀ i, e ≤ i → KAt ops ts i .eff → ¬ Dn listed i
  at_ : ∀ f v pl, φ f v = some pl → pl.rb < w.heap.size ∧ (f < (hs e).next ∨ ∃ k, KAt ops ts k .new ∧ Dn listed k ∧ f = (hs k).next) ∧ ∃ bl, blkAt ops ts hs e f = some bl ∧ BRel φ w v pl bl
  undone : ∀ k, KAt ops ts k .new → ¬ Dn listed k → ∀ v, φ (hs k).next v = none
  inj : ∀ f v pl f' v' pl', φ f v = some pl → φ f' v' = some pl' → pl.rb = pl'.rb → f = f' ∧ pl.d = pl'.d
  ext : Ext φ0 w0 φ w (hs 0).next
  tm : TmInv ops ts listed φ a.tmps
  df : a.defers = d0

variable {φ0 : Mp} {w0 : World} {d0 : List Deferred} {listed : Array Bool} {s e : Nat} {φ : Mp} {w : World} {a : Act}

theorem closed_set {i : Nat} (hc : Closed b listed) (hsz : i < listed.size) (hrd : ∀ j, bitT b i j = true → Dn listed j) : Closed b (listed.setIfInBounds i true) := by
  intro m j hm hb
  rcases (dn_set hsz).1 hm with q | q
  · subst q; exact (dn_set hsz).2 (.inr (hrd j hb))
  · exact (dn_set hsz).2 (.inr (hc m j q hb))

/-- An operation that changes no memory is done. -/
theorem DInv.quiet {i : Nat} {o : Oper} {v : V} {y : Value} (k : DRun P E C ops b ts hs) (h : DInv P ops b ts hs φ0 w0 d0 listed s e φ w a) (ho : ops[i]? = some o) (hrd : ∀ j, bitT b i j = true → Dn listed j)
    (hne : ¬ KAt ops ts i .eff) (hnn : ¬ KAt ops ts i .new) (hv : VRel φ v y) (hp : (ts i).put o.dst v = some (ts (i + 1))) :
    DInv P ops b ts hs φ0 w0 d0 (listed.setIfInBounds i true) s e φ w (a.put o.dst y) := by
  have hi : i < listed.size := by rw [h.size]; exact (Array.getElem?_eq_some_iff.1 ho).1
  refine ⟨by simp [h.size], closed_set h.closed hi hrd, h.stage, fun m hm hk => (dn_set hi).2 (.inr (h.below m hm hk)), fun m hm hk q => ?_, fun f v pl q => ?_, fun m hk hd => ?_, h.inj, h.ext, h.tm.put k (Mp.le_refl φ) ho h.size hv hp, ?_⟩
  · rcases (dn_set hi).1 q with q | q
    · subst q; exact hne hk
    · exact h.above m hm hk q
  · obtain ⟨q1, q2, q3⟩ := h.at_ f v pl q
    refine ⟨q1, ?_, q3⟩
    rcases q2 with q2 | ⟨m, m1, m2, m3⟩
    · exact .inl q2
    · exact .inr ⟨m, m1, (dn_set hi).2 (.inr m2), m3⟩
  · exact h.undone m hk fun q => hd ((dn_set hi).2 (.inr q))
  · rw [← h.df]; cases o.dst <;> rfl

end
end Go.Am

/-
  A DRAWN REGION IN ANY ORDER: loads, new blocks, effects.
-/
namespace Go.Am

section
variable {P : Program} {E : Env} {C : Calls'} {ops : Array Oper} {b : Tr Nat} {ts : Nat → T} {hs : Nat → Heap}
variable {φ0 : Mp} {w0 : World} {d0 : List Deferred} {listed : Array Bool} {s e : Nat} {φ : Mp} {w : World} {a : Act}

/-- A tree of the first values of a function. -/
theorem tree_of {α : Type} (p : Nat → Option α) : ∀ n, ∃ t : Tr α, ∀ f, t.get f = if f < n then p f else none
  | 0 => ⟨.nil, fun f => by simp [Tr.get_nil]⟩
  | n + 1 => by
    obtain ⟨t, ht⟩ := tree_of p n
    cases hp : p n with
    | none =>
      refine ⟨t, fun f => ?_⟩
      rw [ht]
      by_cases h : f = n
      · subst h; simp [hp]
      · by_cases h2 : f < n
        · rw [if_pos h2, if_pos (by omega)]
        · rw [if_neg h2, if_neg (by omega)]
    | some x =>
      refine ⟨t.set n x, fun f => ?_⟩
      rw [Tr.get_set, ht]
      by_cases h : f = n
      · subst h; simp [hp]
      · rw [if_neg h]
        by_cases h2 : f < n
        · rw [if_pos h2, if_pos (by omega)]
        · rw [if_neg h2, if_neg (by omega)]

/-- The blocks of a stage are blocks of the text's heaps. -/
theorem DRun.blk_text (_ : DRun P E C ops b ts hs) (he : e ≤ ops.size) {f : Nat} {bl : Blk} (h : blkAt ops ts hs e f = some bl) : ∃ i, i ≤ ops.size ∧ (hs i).blks.get f = some bl := by
  unfold blkAt at h
  split at h
  · exact ⟨e, he, h⟩
  · unfold birth at h
    split at h
    · rename_i hx
      exact ⟨_, by have := hx.choose_spec.1.lt; omega, h⟩
    · cases h

/-- A heap that lies in memory as it is now. -/
theorem DInv.heap (ok : EnvOk P E) (k : DRun P E C ops b ts hs) (h : DInv P ops b ts hs φ0 w0 d0 listed s e φ w a) :
    ∃ g : Heap, HRel φ g w ∧ ∀ f v pl, φ f v = some pl → g.blks.get f = blkAt ops ts hs e f := by
  open Classical in
  obtain ⟨t, ht⟩ := tree_of (fun f => if ∃ v pl, φ f v = some pl then blkAt ops ts hs e f else none) (hs ops.size).next
  have below : ∀ f v pl, φ f v = some pl → f < (hs ops.size).next := by
    intro f v pl q
    obtain ⟨_, q2, _⟩ := h.at_ f v pl q
    rcases q2 with q2 | ⟨m, m1, _, m3⟩
    · exact Nat.lt_of_lt_of_le q2 (k.mono h.stage.lt (Nat.le_refl _))
    · have := k.next_new ok m1
      have := k.mono (i := m + 1) (j := ops.size) m1.lt (Nat.le_refl _)
      omega
  have tget : ∀ f v pl, φ f v = some pl → t.get f = blkAt ops ts hs e f := by
    intro f v pl q
    rw [ht, if_pos (below f v pl q), if_pos ⟨v, pl, q⟩]
  have told : ∀ f bl, t.get f = some bl → ∃ i, i ≤ ops.size ∧ (hs i).blks.get f = some bl := by
    intro f bl q
    rw [ht] at q
    split at q
    · split at q
      · exact k.blk_text h.stage.lt q
      · cases q
    · cases q
  refine ⟨⟨(hs ops.size).next, t⟩, ⟨fun f v pl q => ?_, h.inj, fun f fam o x s' q q2 => ?_, fun f bl q => ?_⟩, tget⟩
  · obtain ⟨q1, q2, bl, q3, q4⟩ := h.at_ f v pl q
    exact ⟨below f v pl q, q1, bl, by rw [← q3]; exact tget f v pl q, q4⟩
  · obtain ⟨i, hi, q3⟩ := told f _ q
    obtain ⟨φ1, w1, a1, r1, _⟩ := k.txt i hi
    exact r1.st f fam o x s' q3 q2
  · obtain ⟨i, hi, q3⟩ := told f _ q
    obtain ⟨φ1, w1, a1, r1, _⟩ := k.txt i hi
    exact (r1.bd f bl q3).mono (k.mono hi (Nat.le_refl _))

/-- What an operation reads, in the frame. -/
theorem DInv.rho {i : Nat} {o : Oper} (k : DRun P E C ops b ts hs) (h : DInv P ops b ts hs φ0 w0 d0 listed s e φ w a) (ho : ops[i]? = some o) (hrd : ∀ j, bitT b i j = true → Dn listed j) (hnd : ¬ Dn listed i) :
    TmRel φ ((ts i).restr o).m ((ts i).restr o).n a.tmps := by
  have hi : i < ops.size := (Array.getElem?_eq_some_iff.1 ho).1
  refine ⟨?_, fun d x hx => ?_⟩
  · rw [h.tm.sz]; exact (k.width (j := i) (by omega)).symm
  · change (Am.restr (ts i).m (tmpsOf o.op.operands.toList)).get d = some x at hx
    rw [restr_get] at hx
    split at hx
    · rename_i hm
      exact h.tm.read k h.closed ho hrd hnd (tmpsOf_reads hm) hx
    · cases hx

theorem DInv.cond {i : Nat} (h : DInv P ops b ts hs φ0 w0 d0 listed s e φ w a) (hnd : ¬ Dn listed i) : ∀ e0, e0 < e → KAt ops ts e0 .eff → bitT b e0 i = false := by
  intro e0 h1 h2
  cases hb : bitT b e0 i with
  | false => rfl
  | true => exact absurd (h.closed e0 i (h.below e0 h1 h2) hb) hnd

theorem DInv.cond' {i : Nat} (h : DInv P ops b ts hs φ0 w0 d0 listed s e φ w a) (hrd : ∀ j, bitT b i j = true → Dn listed j) {e' : Nat} (hle : e ≤ e') : KAt ops ts e' .eff → bitT b i e' = false := by
  intro h2
  cases hb : bitT b i e' with
  | false => rfl
  | true => exact absurd (hrd e' hb) (h.above e' hle h2)

/-- A load finds what it found in the text. -/
theorem DInv.load (ok : EnvOk P E) {i : Nat} {o : Oper} {v : V} (k : DRun P E C ops b ts hs) (h : DInv P ops b ts hs φ0 w0 d0 listed s e φ w a) (ho : ops[i]? = some o) (hrd : ∀ j, bitT b i j = true → Dn listed j) (hnd : ¬ Dn listed i)
    (hk : KAt ops ts i .load) {h' : Heap} (hv : opV E C o (ts i) (hs i) = some (v, h')) : ∃ y, (execOp a.eval o).run P w = .ok (.value y) w ∧ VRel φ v y := by
  obtain ⟨o', ty, x, ad, ti, xs, q1, q2, q3, q4, q5, q6⟩ := k.ld i hk
  rw [ho] at q1
  injection q1 with q1
  subst q1
  have hv2 : opV E C o ((ts i).restr o) (hs i) = some (v, h') := by rw [opV_congr fun y hy => T.restr_ev hy]; exact hv
  have hin : x ∈ o.op.operands.toList := by rw [q2]; simp [Op.operands]
  have q3' : ((ts i).restr o).ev x = some (.p (some ad)) := by rw [T.restr_ev hin]; exact q3
  have hrel := rhoOk_eval (h.rho k ho hrd hnd) _ _ q3'
  obtain ⟨pl, p1, p2, p3⟩ := hrel.ptr
  obtain ⟨g, g1, g2⟩ := h.heap ok k
  have hgl : g.loads ad.f ad.v ad.o (loadN ti) = some xs := by
    obtain ⟨_, m2, _⟩ := h.at_ _ _ _ p1
    by_cases hf : ad.f < (hs e).next
    · have hle : blkAt ops ts hs e ad.f = (hs e).blks.get ad.f := if_pos hf
      rw [loads_congr ((g2 _ _ _ p1).trans hle)]
      exact q6 e h.stage.lt h.stage.is (h.cond hnd) (h.cond' hrd (Nat.le_refl _)) hf
    · obtain ⟨m, m1, m3, m4⟩ := m2.resolve_left hf
      have hml := m1.lt
      have hem : e ≤ m := by
        rcases Nat.lt_or_ge m e with q | q
        · have h1 := k.next_new ok m1
          have h2 := k.mono (i := m + 1) (j := e) (by omega) h.stage.lt
          omega
        · exact q
      -- the load comes behind in the text
      have hmi : m < i := by
        rcases Nat.lt_or_ge m i with q | q
        · exact q
        · obtain ⟨φ1, w1, a1, r1, r2⟩ := k.txt i (by omega)
          have r3 := rhoOk_eval r2 _ _ q3
          obtain ⟨pl1, z1, _⟩ := r3.ptr
          have z2 := (r1.at_ _ _ _ z1).1
          have z3 := k.mono (i := i) (j := m) q (by omega)
          omega
      obtain ⟨e', s1, s2, s3, s4⟩ := next_stage (p := fun j => KAt ops ts j .eff) m (n := ops.size) (by omega)
      have hne : m ≠ e' := by
        rintro rfl
        rcases s3 with s3 | s3
        · omega
        · cases KAt.ne m1 s3
      have hnx := k.next_new ok m1
      have hlt' : ad.f < (hs e').next := by
        have := k.mono (i := m + 1) (j := e') (by omega) s2
        omega
      have hl := q6 e' s2 s3 (fun e0 h1 h2 => by
        cases hb : bitT b e0 i with
        | false => rfl
        | true =>
          have h2' := h2
          obtain ⟨oe, hoe, _⟩ := h2'
          have h3 := k.ord.lt e0 oe i hoe hb
          exact absurd h2 (s4 e0 (by omega) h1)) (h.cond' hrd (by omega)) hlt'
      have hb1 : (hs e').blks.get ad.f = (hs (m + 1)).blks.get ad.f := k.stay ok (by omega) s2 (by omega) fun j h1 h2 => s4 j (by omega) h2
      have hb2 : blkAt ops ts hs e ad.f = (hs (m + 1)).blks.get ad.f := by
        rw [m4]
        unfold blkAt
        rw [if_neg (by omega)]
        exact k.birth_eq ok m1
      rw [loads_congr ((g2 _ _ _ p1).trans (hb2.trans hb1.symm))]
      exact hl
  obtain ⟨y, y1, y2⟩ := load_ok ok g1 q4 hrel hgl
  have hvv : v = loadV ti.agg xs := by
    obtain ⟨ty', x', z1, z2⟩ := kind_load (by obtain ⟨o2, e1, _, e3⟩ := hk; rw [ho] at e1; injection e1 with e1; subst e1; exact e3) hv
    rw [q2] at z1
    injection z1 with z1 z1'
    subst z1; subst z1'
    obtain ⟨ad', ti', xs', u1, u2, u3, u4, _⟩ := opLoad_loads z2
    rw [q3] at u1
    injection u1 with u1
    injection u1 with u1
    injection u1 with u1
    subst u1
    rw [q4] at u2
    injection u2 with u2
    subst u2
    rw [q5] at u3
    injection u3 with u3
    subst u3
    exact u4
  refine ⟨y, ?_, by rw [hvv]; exact y2⟩
  obtain ⟨dst, op, type, pos, after, guard⟩ := o
  simp only at q2
  subst q2
  simp only [execOp, Sem.run_bind, y1, Result.andThen_ok]
  rfl

/-- A new block is laid. -/
theorem DInv.new (ok : EnvOk P E) {i : Nat} {o : Oper} {v : V} (k : DRun P E C ops b ts hs) (h : DInv P ops b ts hs φ0 w0 d0 listed s e φ w a) (ho : ops[i]? = some o) (hrd : ∀ j, bitT b i j = true → Dn listed j) (hnd : ¬ Dn listed i)
    (hk : KAt ops ts i .new) (hv : opV E C o (ts i) (hs i) = some (v, hs (i + 1))) (hp : (ts i).put o.dst v = some (ts (i + 1))) :
    ∃ φ' w' y, (execOp a.eval o).run P w = .ok (.value y) w' ∧ DInv P ops b ts hs φ0 w0 d0 (listed.setIfInBounds i true) s e φ' w' (a.put o.dst y) := by
  have hkd : kindOf (ts i) o = .new := by
    obtain ⟨o2, e1, _, e3⟩ := hk
    rw [ho] at e1; injection e1 with e1; subst e1; exact e3
  have hin : ∀ y ∈ o.op.operands.toList, ((ts i).restr o).ev y = (ts i).ev y := fun y hy => T.restr_ev hy
  have hv2 : opV E C o ((ts i).restr o) (hs i) = some (v, hs (i + 1)) := by rw [opV_congr hin]; exact hv
  obtain ⟨bl, n1, n2⟩ := kind_new ok (by rw [kindOf_congr hin]; exact hkd) (rhoOk_eval (h.rho k ho hrd hnd)) hv2
  obtain ⟨ob, sz, yf, y1, y2, y3⟩ := n2
  have hi : i < listed.size := by rw [h.size]; exact hk.lt
  have hnone : ∀ v, φ (hs i).next v = none := h.undone i hk hnd
  have hle : φ.le (φ.upd (hs i).next 0 ⟨w.heap.size, 0, sz⟩) := by
    intro f v' pl q
    by_cases hf : f = (hs i).next
    · subst hf; rw [hnone] at q; cases q
    · rw [Mp.upd_ne _ _ (fun z => hf z.1)]; exact q
  obtain ⟨v1, v2⟩ := y3 _ w hle (Mp.upd_eq _ _ _ _)
  have hlaid : (World.laid w ob).heap = w.heap.push ob := rfl
  have hget : ∀ r, r < w.heap.size → (World.laid w ob).heap[r]? = w.heap[r]? := by
    intro r hr
    rw [hlaid, Array.getElem?_push, if_neg (by omega)]
  have hsize : (World.laid w ob).heap.size = w.heap.size + 1 := by rw [hlaid]; simp
  have hupd : ∀ f v' pl, (φ.upd (hs i).next 0 ⟨w.heap.size, 0, sz⟩) f v' = some pl → (f = (hs i).next ∧ v' = 0 ∧ pl = ⟨w.heap.size, 0, sz⟩) ∨ (f ≠ (hs i).next ∧ φ f v' = some pl) := by
    intro f v' pl q
    by_cases hf : f = (hs i).next
    · by_cases hv' : v' = 0
      · subst hf; subst hv'
        rw [Mp.upd_eq] at q; injection q with q
        exact .inl ⟨rfl, rfl, q.symm⟩
      · rw [Mp.upd_ne _ _ (fun z => hv' z.2)] at q
        subst hf; rw [hnone] at q; cases q
    · rw [Mp.upd_ne _ _ (fun z => hf z.1)] at q
      exact .inr ⟨hf, q⟩
  have hbl : blkAt ops ts hs e (hs i).next = some bl := by
    have hnb : (hs (i + 1)).blks.get (hs i).next = some bl := by rw [n1, newBlk_get, if_pos rfl]
    obtain ⟨bl2, z1, z2⟩ := k.nw i hk
    rw [hnb] at z1
    injection z1 with z1
    subst z1
    unfold blkAt
    split
    · rename_i hf
      exact z2 e h.stage.lt h.stage.is (h.cond hnd) (h.cond' hrd (Nat.le_refl _)) hf
    · rw [k.birth_eq ok hk]; exact hnb
  refine ⟨_, _, yf w.heap.size, y1 w, ⟨by simp [h.size], closed_set h.closed hi hrd, h.stage, fun m hm hke => (dn_set hi).2 (.inr (h.below m hm hke)), fun m hm hke q => ?_, fun f v' pl q => ?_, fun m hkm hd v' => ?_, ?_, ?_, h.tm.put k hle ho h.size v1 hp, ?_⟩⟩
  · rcases (dn_set hi).1 q with q | q
    · subst q; cases KAt.ne hk hke
    · exact h.above m hm hke q
  · rcases hupd f v' pl q with ⟨rfl, rfl, rfl⟩ | ⟨hf, q'⟩
    · exact ⟨by rw [hsize]; exact Nat.lt_succ_self _, .inr ⟨i, hk, (dn_set hi).2 (.inl rfl), rfl⟩, bl, hbl, v2⟩
    · obtain ⟨q1, q2, bl', q3, q4⟩ := h.at_ f v' pl q'
      refine ⟨by rw [hsize]; omega, ?_, bl', q3, q4.mono hle (hget _ q1)⟩
      rcases q2 with q2 | ⟨m, m1, m2, m3⟩
      · exact .inl q2
      · exact .inr ⟨m, m1, (dn_set hi).2 (.inr m2), m3⟩
  · have hne : (hs m).next ≠ (hs i).next := by
      intro q
      have := k.new_uniq ok hkm hk q
      subst this
      exact hd ((dn_set hi).2 (.inl rfl))
    rw [Mp.upd_ne _ _ (fun z => hne z.1)]
    exact h.undone m hkm (fun q => hd ((dn_set hi).2 (.inr q))) v'
  · intro f v' pl f' v'' pl' q q' hrb
    rcases hupd f v' pl q with ⟨rfl, rfl, rfl⟩ | ⟨hf, q1⟩
    · rcases hupd f' v'' pl' q' with ⟨rfl, rfl, rfl⟩ | ⟨hf', q2⟩
      · exact ⟨rfl, rfl⟩
      · have := (h.at_ _ _ _ q2).1
        simp only at hrb
        omega
    · rcases hupd f' v'' pl' q' with ⟨rfl, rfl, rfl⟩ | ⟨hf', q2⟩
      · have := (h.at_ _ _ _ q1).1
        simp only at hrb
        omega
      · exact h.inj _ _ _ _ _ _ q1 q2 hrb
  · have hm := k.mono (i := 0) (j := i) (by omega) (by have := hk.lt; omega)
    refine ⟨Mp.le_trans h.ext.le hle, fun f v' pl q hf => ?_, fun f v' pl q hf => ?_, by rw [hsize]; exact Nat.le_succ_of_le h.ext.size, fun r hr hno => ?_, h.ext.os, h.ext.tape, h.ext.output⟩
    · rcases hupd f v' pl q with ⟨rfl, _, _⟩ | ⟨_, q1⟩
      · omega
      · exact h.ext.old f v' pl q1 hf
    · rcases hupd f v' pl q with ⟨rfl, rfl, rfl⟩ | ⟨_, q1⟩
      · exact h.ext.size
      · exact h.ext.new f v' pl q1 hf
    · rw [hget r (Nat.lt_of_lt_of_le hr h.ext.size)]
      exact h.ext.keep r hr hno
  · rw [← h.df]; cases o.dst <;> rfl

end
end Go.Am

/-
  A REGION THAT DRAWS ITS ORDER.
-/
namespace Go.Am

section
variable {P : Program} {E : Env} {C : Calls'} {ops : Array Oper} {b : Tr Nat} {ts : Nat → T} {hs : Nat → Heap}
variable {φ0 : Mp} {w0 : World} {d0 : List Deferred} {listed : Array Bool} {s e : Nat} {φ : Mp} {w : World} {a : Act}

/-- An effect that is ready is the stage's own. -/
theorem DInv.eff_is {i : Nat} (k : DRun P E C ops b ts hs) (h : DInv P ops b ts hs φ0 w0 d0 listed s e φ w a) (hrd : ∀ j, bitT b i j = true → Dn listed j) (hnd : ¬ Dn listed i) (hk : KAt ops ts i .eff) : i = e := by
  rcases Nat.lt_trichotomy i e with q | q | q
  · exact absurd (h.below i q hk) hnd
  · exact q
  · have hl := hk.lt
    have he : KAt ops ts e .eff := by
      rcases h.stage.is with q2 | q2
      · omega
      · exact q2
    obtain ⟨e0, q1, q2, q3⟩ := k.chain i e hk he q
    exact absurd (hrd e0 q3) (h.above e0 q1 q2)

/-- The stage's effect is done. -/
theorem DInv.effect (ok : EnvOk P E) (hC : CallsOk P C) {o : Oper} {v : V} (k : DRun P E C ops b ts hs) (h : DInv P ops b ts hs φ0 w0 d0 listed s e φ w a) (ho : ops[e]? = some o) (hrd : ∀ j, bitT b e j = true → Dn listed j) (hnd : ¬ Dn listed e)
    (hk : KAt ops ts e .eff) (hv : opV E C o (ts e) (hs e) = some (v, hs (e + 1))) (hp : (ts e).put o.dst v = some (ts (e + 1))) :
    ∃ e' φ' w' y, Goes P y w' ((execOp a.eval o).run P w) ∧ DInv P ops b ts hs φ0 w0 d0 (listed.setIfInBounds e true) (e + 1) e' φ' w' (a.put o.dst y) := by
  have hlt := hk.lt
  have hi : e < listed.size := by rw [h.size]; exact hlt
  obtain ⟨φt, wt, at_, rt1, rt2⟩ := k.txt e (by omega)
  have hin : ∀ y ∈ o.op.operands.toList, ((ts e).restr o).ev y = (ts e).ev y := fun y hy => T.restr_ev hy
  have hv2 : opV E C o ((ts e).restr o) (hs e) = some (v, hs (e + 1)) := by rw [opV_congr hin]; exact hv
  have hρ := h.rho k ho hrd hnd
  -- the places cut to the text's heap
  have hrc : HRel (φ.cut (hs e).next) (hs e) w := by
    refine ⟨fun f v' pl q => ?_, fun f v' pl f' v'' pl' q q' hrb => h.inj _ _ _ _ _ _ (Mp.cut_some q).2 (Mp.cut_some q').2 hrb, rt1.st, rt1.bd⟩
    obtain ⟨hf, q⟩ := Mp.cut_some q
    obtain ⟨q1, _, bl, q3, q4⟩ := h.at_ f v' pl q
    unfold blkAt at q3
    rw [if_pos hf] at q3
    exact ⟨hf, q1, bl, q3, q4.cut (rt1.bd f bl q3)⟩
  have hρc : TmRel (φ.cut (hs e).next) ((ts e).restr o).m ((ts e).restr o).n a.tmps := by
    refine ⟨hρ.1, fun d x hx => VRel.cut _ _ (hρ.2 d x hx) ?_⟩
    have hx' : (Am.restr (ts e).m (tmpsOf o.op.operands.toList)).get d = some x := hx
    rw [restr_get] at hx'
    split at hx'
    · exact VRel.bd rt1.below _ _ (rt2.2 d x hx')
    · cases hx'
  obtain ⟨φ1, w1, y, r1, r2, r3, r4, r5⟩ := opV_ok ok C hC hrc (rhoOk_eval hρc) hv2
  obtain ⟨e', s1, s2, s3, s4⟩ := next_stage (p := fun j => KAt ops ts j .eff) (e + 1) (n := ops.size) (by omega)
  have hst : Stage ops ts (e + 1) e' := ⟨s1, s2, s3, s4⟩
  let φ' : Mp := fun f v => if f < (hs (e + 1)).next then φ1 f v else φ f v
  have lo : ∀ f v, f < (hs (e + 1)).next → φ' f v = φ1 f v := fun f v hf => if_pos hf
  have hi' : ∀ f v, ¬ f < (hs (e + 1)).next → φ' f v = φ f v := fun f v hf => if_neg hf
  -- families of the present places
  have fam : ∀ f v' pl, φ f v' = some pl → f < (hs e).next ∨ (∃ m, KAt ops ts m .new ∧ Dn listed m ∧ e + 1 ≤ m ∧ f = (hs m).next ∧ (hs (e + 1)).next ≤ f) := by
    intro f v' pl q
    obtain ⟨_, q2, _⟩ := h.at_ f v' pl q
    rcases q2 with q2 | ⟨m, m1, m2, m3⟩
    · exact .inl q2
    · by_cases hf : f < (hs e).next
      · exact .inl hf
      · have hme : e + 1 ≤ m := by
          rcases Nat.lt_trichotomy m e with z | z | z
          · have h1 := k.next_new ok m1
            have h2 := k.mono (i := m + 1) (j := e) (by omega) (by omega)
            omega
          · subst z; cases KAt.ne m1 hk
          · omega
        exact .inr ⟨m, m1, m2, hme, m3, by rw [m3]; exact k.mono hme (by have := m1.lt; omega)⟩
  have hle : φ.le φ' := by
    intro f v' pl q
    rcases fam f v' pl q with hf | ⟨m, _, _, _, _, hf⟩
    · rw [lo f v' (by omega)]
      exact r2.le f v' pl (by rw [Mp.cut_lt hf]; exact q)
    · rw [hi' f v' (by omega)]; exact q
  have hle1 : φ1.le φ' := fun f v' pl q => by rw [lo f v' (r1.at_ f v' pl q).1]; exact q
  -- a place of the changed part is one of the old, or lies behind
  have part : ∀ f v' pl, φ1 f v' = some pl → (∃ v0 pl0, φ f v0 = some pl0 ∧ f < (hs e).next ∧ (pl.rb = pl0.rb ∨ w.heap.size ≤ pl.rb)) ∨ ((hs e).next ≤ f ∧ w.heap.size ≤ pl.rb) := by
    intro f v' pl q
    by_cases hf : f < (hs e).next
    · rcases r2.old f v' pl q hf with q2 | ⟨v0, pl0, q2, q3⟩
      · exact .inl ⟨v', pl, (Mp.cut_some q2).2, hf, .inl rfl⟩
      · exact .inl ⟨v0, pl0, (Mp.cut_some q2).2, hf, q3⟩
    · exact .inr ⟨by omega, r2.new f v' pl q (by omega)⟩
  have mix : ∀ f v' pl f' v'' pl', φ1 f v' = some pl → φ f' v'' = some pl' → (hs (e + 1)).next ≤ f' → pl.rb ≠ pl'.rb := by
    intro f v' pl f' v'' pl' q q' hf' hrb
    have hsz := (h.at_ _ _ _ q').1
    rcases part f v' pl q with ⟨v0, pl0, q1, q2, q3⟩ | ⟨q1, q2⟩
    · rcases q3 with q3 | q3
      · have := (h.inj _ _ _ _ _ _ q1 q' (q3.symm.trans hrb)).1
        omega
      · omega
    · omega
  have gkeep : ∀ f' v'' pl', φ f' v'' = some pl' → (hs (e + 1)).next ≤ f' → w1.heap[pl'.rb]? = w.heap[pl'.rb]? := by
    intro f' v'' pl' q' hf'
    refine r2.keep _ (h.at_ _ _ _ q').1 fun f v' pl q hrb => ?_
    obtain ⟨hf, q⟩ := Mp.cut_some q
    have := (h.inj _ _ _ _ _ _ q q' hrb).1
    omega
  refine ⟨e', φ', w1, y, r5, ⟨by simp [h.size], closed_set h.closed hi hrd, hst, fun m hm hke => ?_, fun m hm hke q => ?_, fun f v' pl q => ?_, fun m hkm hd v' => ?_, ?_, ?_, h.tm.put k hle ho h.size (r4.mono hle1) hp, ?_⟩⟩
  · rcases Nat.lt_trichotomy m e with z | z | z
    · exact (dn_set hi).2 (.inr (h.below m z hke))
    · exact (dn_set hi).2 (.inl z)
    · exact absurd hke (s4 m z hm)
  · rcases (dn_set hi).1 q with q | q
    · omega
    · exact h.above m (by omega) hke q
  · by_cases hf : f < (hs (e + 1)).next
    · rw [lo f v' hf] at q
      obtain ⟨_, q1, bl, q2, q3⟩ := r1.at_ f v' pl q
      have hn' := k.mono (i := e + 1) (j := e') s1 s2
      refine ⟨q1, .inl (by omega), bl, ?_, q3.mono hle1 rfl⟩
      unfold blkAt
      rw [if_pos (by omega), k.stay ok s1 s2 hf (fun m h1 h2 => s4 m h1 h2)]
      exact q2
    · rw [hi' f v' hf] at q
      rcases fam f v' pl q with hf2 | ⟨m, m1, m2, m3, m4, _⟩
      · omega
      · obtain ⟨q1, _, bl, q3, q4⟩ := h.at_ f v' pl q
        refine ⟨Nat.lt_of_lt_of_le q1 r2.size, .inr ⟨m, m1, (dn_set hi).2 (.inr m2), m4⟩, bl, ?_, q4.mono hle (gkeep f v' pl q (by omega))⟩
        rw [m4, k.blk_new ok hst m1 m3]
        rw [m4] at q3 hf
        unfold blkAt at q3
        rw [if_neg (by omega), k.birth_eq ok m1] at q3
        exact q3
  · have hdm : ¬ Dn listed m := fun q => hd ((dn_set hi).2 (.inr q))
    have hu := h.undone m hkm hdm
    by_cases hf : (hs m).next < (hs (e + 1)).next
    · rw [lo _ v' hf]
      cases hq : φ1 (hs m).next v' with
      | none => rfl
      | some pl =>
        exfalso
        have hme : m < e := by
          rcases Nat.lt_trichotomy m e with z | z | z
          · exact z
          · subst z; cases KAt.ne hkm hk
          · have := k.mono (i := e + 1) (j := m) z (by have := hkm.lt; omega)
            omega
        have h1 := k.next_new ok hkm
        have h2 := k.mono (i := m + 1) (j := e) hme (by omega)
        rcases part _ _ _ hq with ⟨v0, pl0, q1, _⟩ | ⟨q1, _⟩
        · rw [hu] at q1; cases q1
        · omega
    · rw [hi' _ v' hf]; exact hu v'
  · intro f v' pl f' v'' pl' q q' hrb
    by_cases hf : f < (hs (e + 1)).next
    · rw [lo f v' hf] at q
      by_cases hf' : f' < (hs (e + 1)).next
      · rw [lo f' v'' hf'] at q'
        exact r1.inj _ _ _ _ _ _ q q' hrb
      · rw [hi' f' v'' hf'] at q'
        exact absurd hrb (mix _ _ _ _ _ _ q q' (by omega))
    · rw [hi' f v' hf] at q
      by_cases hf' : f' < (hs (e + 1)).next
      · rw [lo f' v'' hf'] at q'
        exact absurd hrb.symm (mix _ _ _ _ _ _ q' q (by omega))
      · rw [hi' f' v'' hf'] at q'
        exact h.inj _ _ _ _ _ _ q q' hrb
  · have hm0 := k.mono (i := 0) (j := e) (by omega) (by omega)
    have ex := h.ext
    refine ⟨Mp.le_trans ex.le hle, fun f v' pl q hf => ?_, fun f v' pl q hf => ?_, Nat.le_trans ex.size r2.size, fun r hr hno => ?_, r2.os.trans ex.os, r2.tape.trans ex.tape, r2.output.trans ex.output⟩
    · rw [lo f v' (by omega)] at q
      rcases part f v' pl q with ⟨v0, pl0, q1, _, q3⟩ | ⟨q1, _⟩
      · rcases ex.old f v0 pl0 q1 hf with q4 | ⟨v1, pl1, q4, q5⟩
        · refine .inr ⟨v0, pl0, q4, ?_⟩
          rcases q3 with q3 | q3
          · exact .inl q3
          · exact .inr (Nat.le_trans ex.size q3)
        · refine .inr ⟨v1, pl1, q4, ?_⟩
          rcases q3 with q3 | q3
          · rw [q3]; exact q5
          · exact .inr (Nat.le_trans ex.size q3)
      · omega
    · by_cases hf1 : f < (hs (e + 1)).next
      · rw [lo f v' hf1] at q
        rcases part f v' pl q with ⟨v0, pl0, q1, _, q3⟩ | ⟨_, q2⟩
        · rcases q3 with q3 | q3
          · rw [q3]; exact ex.new f v0 pl0 q1 hf
          · exact Nat.le_trans ex.size q3
        · exact Nat.le_trans ex.size q2
      · rw [hi' f v' hf1] at q
        exact ex.new f v' pl q hf
    · rw [← ex.keep r hr hno]
      refine r2.keep r (Nat.lt_of_lt_of_le hr ex.size) fun f v' pl q hrb => ?_
      obtain ⟨hf, q⟩ := Mp.cut_some q
      by_cases hf0 : f < (hs 0).next
      · rcases ex.old f v' pl q hf0 with q1 | ⟨v0, pl0, q1, q2⟩
        · exact hno f v' pl q1 hrb
        · rcases q2 with q2 | q2
          · exact hno f v0 pl0 q1 (q2.symm.trans hrb)
          · omega
      · have := ex.new f v' pl q (by omega)
        omega
  · rw [← h.df]; cases o.dst <;> rfl

end

section
variable {P : Program} {E : Env} {φ : Mp} {h h' : Heap} {w : World} {t t' : T}

theorem noDefer_ne {o : Oper} (h : noDefer o = true) : ∀ c, o.op ≠ .defer c := by
  intro c q
  unfold noDefer at h
  rw [q] at h
  cases h

/-- One operation in any order. -/
theorem DInv.step (ok : EnvOk P E) {C : Calls'} (hC : CallsOk P C) {ops : Array Oper} {b : Tr Nat} {ts : Nat → T} {hs : Nat → Heap} {φ0 : Mp} {w0 : World} {d0 : List Deferred} {listed : Array Bool} {s e : Nat} {a : Act}
    (k : DRun P E C ops b ts hs) (h : DInv P ops b ts hs φ0 w0 d0 listed s e φ w a) {i : Nat} (hr : i ∈ Region.ready .any ops listed) :
    ∃ s' e' φ' w' a', DInv P ops b ts hs φ0 w0 d0 (listed.setIfInBounds i true) s' e' φ' w' a' ∧
      ∀ (bf : Frame) (rest : List Nat) (kk : List Item) (cs : List Frame), Steps P (lone (bf.atR a (.inRegion ops (i :: rest) :: kk)) cs w) (lone (bf.atR a' (.inRegion ops rest :: kk)) cs w') := by
  obtain ⟨hun, o, ho, _⟩ := mem_ready.1 hr
  have hlt : i < ops.size := (Array.getElem?_eq_some_iff.1 ho).1
  have hrd := ready_at k.ord h.closed ho hr
  have hnd : ¬ Dn listed i := by
    unfold Dn
    rw [← getD_false (by rw [h.size]; exact hlt), hun]
    simp
  have guards : ∀ g wt d x, o.guard = some (g, wt) → (ops[g]?).bind (·.dst) = some d → (ts i).get d = some x → VRel φ x (a.tmps.getD d undef) :=
    fun g wt d x hg hd hx => h.tm.read k h.closed ho hrd hnd (guard_reads hg hd) hx
  rcases stepV_wanted (k.run i o ho) with ⟨hw, hp, _⟩ | ⟨hw, v, hv, hp⟩
  · have hw' := wanted_ok (tmps := a.tmps) guards hw
    have hne : wantedV ops (ts i) o ≠ some true := by rw [hw]; intro q; injection q with q; cases q
    refine ⟨s, e, φ, w, _, h.quiet k ho hrd (KAt.unwanted ho hne) (KAt.unwanted ho hne) (VRel.undef φ) hp, fun bf rest kk cs => ?_⟩
    have := stepR_op_skip (P := P) (b := bf) (a := a) (k := kk) (cs := cs) (w := w) (ops := ops) (i := i) (rest := rest) (by simp [ho, hw'])
    rw [ho] at this
    exact .one this
  · have hw' := wanted_ok (tmps := a.tmps) guards hw
    have hnodef := noDefer_ne (k.ord.nodef i o ho)
    cases hkd : kindOf (ts i) o with
    | pure =>
      have hin : ∀ y ∈ o.op.operands.toList, ((ts i).restr o).ev y = (ts i).ev y := fun y hy => T.restr_ev hy
      obtain ⟨_, y, y1, y2⟩ := kind_pure ok (by rw [kindOf_congr hin]; exact hkd) (rhoOk_eval (h.rho k ho hrd hnd)) (by rw [opV_congr hin]; exact hv)
      exact ⟨s, e, φ, w, _, h.quiet k ho hrd (KAt.uniq ho hkd (by decide)) (KAt.uniq ho hkd (by decide)) y2 hp,
        fun bf rest kk cs => op_steps ho hw' hnodef (by rw [y1 w]; exact ⟨rfl, rfl⟩) bf rest kk cs⟩
    | load =>
      obtain ⟨y, y1, y2⟩ := h.load ok k ho hrd hnd ⟨o, ho, hw, hkd⟩ hv
      exact ⟨s, e, φ, w, _, h.quiet k ho hrd (KAt.uniq ho hkd (by decide)) (KAt.uniq ho hkd (by decide)) y2 hp,
        fun bf rest kk cs => op_steps ho hw' hnodef (by rw [y1]; exact ⟨rfl, rfl⟩) bf rest kk cs⟩
    | new =>
      obtain ⟨φ', w', y, y1, y2⟩ := h.new ok k ho hrd hnd ⟨o, ho, hw, hkd⟩ hv hp
      exact ⟨s, e, φ', w', _, y2, fun bf rest kk cs => op_steps ho hw' hnodef (by rw [y1]; exact ⟨rfl, rfl⟩) bf rest kk cs⟩
    | eff =>
      have hk : KAt ops ts i .eff := ⟨o, ho, hw, hkd⟩
      have hie := h.eff_is k hrd hnd hk
      subst hie
      obtain ⟨e', φ', w', y, y1, y2⟩ := h.effect ok hC k ho hrd hnd hk hv hp
      exact ⟨i + 1, e', φ', w', _, y2, fun bf rest kk cs => op_steps ho hw' hnodef y1 bf rest kk cs⟩

theorem DInv.go (ok : EnvOk P E) {C : Calls'} (hC : CallsOk P C) {ops : Array Oper} {b : Tr Nat} {ts : Nat → T} {hs : Nat → Heap} {φ0 : Mp} {w0 : World} {d0 : List Deferred} (k : DRun P E C ops b ts hs) :
    ∀ (fuel tk : Nat) (listed : Array Bool) (s e : Nat) (φ : Mp) (w : World) (a : Act), left ops.size listed ≤ fuel → DInv P ops b ts hs φ0 w0 d0 listed s e φ w a →
      ∃ listed' s' e' φ' w' a', DInv P ops b ts hs φ0 w0 d0 listed' s' e' φ' w' a' ∧ (∀ i, i < ops.size → Dn listed' i) ∧
        ∀ (bf : Frame) (kk : List Item) (cs : List Frame), Steps P (lone (bf.atR a (.inRegion ops (Region.linearise.go .any ops fuel tk listed []) :: kk)) cs w) (lone (bf.atR a' kk) cs w') := by
  intro fuel
  induction fuel with
  | zero =>
    intro tk listed s e φ w a hl h
    exact ⟨listed, s, e, φ, w, a, h, left_zero (by omega), fun bf kk cs => .one stepR_region_end⟩
  | succ fuel ih =>
    intro tk listed s e φ w a hl h
    simp only [Region.linearise.go]
    change ∃ listed' s' e' φ' w' a', _ ∧ _ ∧ ∀ (bf : Frame) (kk : List Item) (cs : List Frame), Steps P (lone (bf.atR a (.inRegion ops (match (Region.ready .any ops listed)[tk % (Region.ready .any ops listed).length]? with
      | some i => Region.linearise.go .any ops fuel (tk / (Region.ready .any ops listed).length) (listed.setIfInBounds i true) [i]
      | none => [].reverse) :: kk)) cs w) (lone (bf.atR a' kk) cs w')
    cases hi : (Region.ready .any ops listed)[tk % (Region.ready .any ops listed).length]? with
    | none =>
      have hnil : Region.ready .any ops listed = [] := by
        cases hr : Region.ready .any ops listed with
        | nil => rfl
        | cons x xs =>
          rw [hr] at hi
          have hlt : tk % (x :: xs).length < (x :: xs).length := Nat.mod_lt _ (by simp)
          simp at hi
          simp at hlt
          omega
      exact ⟨listed, s, e, φ, w, a, h, ready_none k.ord h.size hnil, fun bf kk cs => .one stepR_region_end⟩
    | some i =>
      have hmem := List.mem_of_getElem? hi
      obtain ⟨hun, o, ho, _⟩ := mem_ready.1 hmem
      have hlt : i < ops.size := (Array.getElem?_eq_some_iff.1 ho).1
      have hnd : ¬ Dn listed i := by
        unfold Dn
        rw [← getD_false (by rw [h.size]; exact hlt), hun]
        simp
      obtain ⟨s1, e1, φ1, w1, a1, h1, st1⟩ := h.step ok hC k hmem
      have hl1 := left_set (listed := listed) hlt (by rw [h.size]; exact hlt) hnd
      obtain ⟨l2, s2, e2, φ2, w2, a2, h2, d2, st2⟩ := ih (tk / (Region.ready .any ops listed).length) _ s1 e1 φ1 w1 a1 (by omega) h1
      refine ⟨l2, s2, e2, φ2, w2, a2, h2, d2, fun bf kk cs => ?_⟩
      simp only []
      rw [linearise_go_acc, List.reverse_singleton, List.singleton_append]
      exact (st1 bf _ kk cs).trans (st2 bf kk cs)

theorem draw_ok (ok : EnvOk P E) (hm : P.follows .mixedOrders = true) (C : Calls') (hC : CallsOk P C) {ops : Array Oper} (hc : codeChk (.region 0 ops true) = true) {a : Act} (hr : HRel φ h w) (ht : TmRel φ t.m t.n a.tmps)
    (e : regionV E C ops true t h = some (t', h')) (f : FuncId) (id : Nat) :
    ∃ φ' w' a', HRel φ' h' w' ∧ Ext φ w φ' w' h.next ∧ h.next ≤ h'.next ∧ TmRel φ' t'.m t'.n a'.tmps ∧ a'.defers = a.defers ∧
      ∀ (b : Frame) (k : List Item) (cs : List Frame), b.fn = f → Steps P (lone (b.atR a (.code (.region id ops true) :: k)) cs w) (lone (b.atR a' k) cs w') := by
  have hc' : regChk ops (befT ops.toList 0 .nil) ops.toList 0 [] [] = true := hc
  obtain ⟨ts, hs, k, t0, h0, tN, hN⟩ := dRun ok hC hc' hr ht e
  subst t0; subst h0; subst tN; subst hN
  -- the world, where the order is drawn
  let w1 : World := { w with drawn := w.drawn + 1 }
  have hr1 : HRel φ (hs 0) w1 := ⟨fun f v pl q => by
      obtain ⟨q1, q2, bl, q3, q4⟩ := hr.at_ f v pl q
      exact ⟨q1, q2, bl, q3, q4.mono (Mp.le_refl φ) rfl⟩, hr.inj, hr.st, hr.bd⟩
  obtain ⟨e0, s1, s2, s3, s4⟩ := next_stage (p := fun j => KAt ops ts j .eff) 0 (n := ops.size) (by omega)
  have none_dn : ∀ i, ¬ Dn (Array.replicate ops.size false) i := by
    intro i q
    unfold Dn at q
    simp only [Array.getD_eq_getD_getElem?, Array.getElem?_replicate] at q
    split at q <;> simp at q
  have ext0 : Ext φ w φ w1 (hs 0).next := by
    have := hr.ext_refl
    exact ⟨this.le, this.old, this.new, this.size, fun _ _ _ => rfl, rfl, rfl, rfl⟩
  have inv0 : DInv P ops (befT ops.toList 0 .nil) ts hs φ w a.defers (Array.replicate ops.size false) 0 e0 φ w1 a := by
    refine ⟨by simp, fun i j q => absurd q (none_dn i), ⟨s1, s2, s3, s4⟩, fun i hi hk => absurd hk (s4 i (by omega) hi), fun i _ _ => none_dn i, fun f v pl q => ?_, fun m hk _ v => ?_, hr1.inj, ext0, ⟨fun d x _ hx => ht.2 d x hx, fun m o d x _ _ hd => absurd hd (none_dn m), ht.1⟩, rfl⟩
    · obtain ⟨q1, q2, bl, q3, q4⟩ := hr1.at_ f v pl q
      have hle := k.mono (i := 0) (j := e0) (by omega) s2
      refine ⟨q2, .inl (by omega), bl, ?_, q4⟩
      unfold blkAt
      rw [if_pos (by omega), k.stay ok s1 s2 q1 (fun m h1 h2 => s4 m h1 h2)]
      exact q3
    · cases hq : φ (hs m).next v with
      | none => rfl
      | some pl =>
        have := (hr1.at_ _ _ _ hq).1
        have := k.mono (i := 0) (j := m) (by omega) (by have := hk.lt; omega)
        omega
  have hleft : left ops.size (Array.replicate ops.size false) ≤ ops.size := by
    unfold left
    exact Nat.le_trans (List.length_filter_le _ _) (by simp)
  obtain ⟨l2, s2', e2, φ2, w2, a2, h2, d2, st2⟩ := DInv.go ok hC k ops.size (w.tape w.drawn (.order f id)) _ 0 e0 φ w1 a hleft inv0
  have heN : e2 = ops.size := by
    rcases h2.stage.is with q | q
    · exact q
    · exact absurd (d2 e2 q.lt) (h2.above e2 (Nat.le_refl _) q)
  subst heN
  obtain ⟨φt, wt, at_, rt1, _⟩ := k.txt ops.size (Nat.le_refl _)
  refine ⟨φ2, w2, a2, ⟨fun f v pl q => ?_, h2.inj, rt1.st, rt1.bd⟩, h2.ext, k.mono (by omega) (Nat.le_refl _), ⟨?_, fun d x hx => ?_⟩, h2.df, fun bf kk cs hbf => ?_⟩
  · obtain ⟨q1, q2, bl, q3, q4⟩ := h2.at_ f v pl q
    have hf : f < (hs ops.size).next := by
      rcases q2 with q2 | ⟨m, m1, _, m3⟩
      · exact q2
      · have := k.next_new ok m1
        have := k.mono (i := m + 1) (j := ops.size) m1.lt (Nat.le_refl _)
        omega
    unfold blkAt at q3
    rw [if_pos hf] at q3
    exact ⟨hf, q1, bl, q3, q4⟩
  · rw [h2.tm.sz]; exact (k.width (Nat.le_refl _)).symm
  · by_cases hw : ∃ (j : Nat) (o : Oper), ops[j]? = some o ∧ o.dst = some d
    · obtain ⟨j, o, hj, hd⟩ := hw
      have hjl : j < ops.size := (Array.getElem?_eq_some_iff.1 hj).1
      refine h2.tm.tk j o d x hj hd (d2 j hjl) ?_
      rw [← k.slots (i := j + 1) (j := ops.size) hjl (Nat.le_refl _) (fun m om h1 h3 hom hdm => by have := k.ord.one m om j o d hom hj hdm hd; omega)]
      exact hx
    · refine h2.tm.t0 d x (fun m om hom hdm _ => hw ⟨m, om, hom, hdm⟩) ?_
      rw [← k.slots (i := 0) (j := ops.size) (by omega) (Nat.le_refl _) (fun m om h1 h3 hom hdm => hw ⟨m, om, hom, hdm⟩)]
      exact hx
  · refine .head stepR_region_draw ?_
    simp only [Region.schedule, hm, Bool.true_or, if_true, hbf]
    exact st2 bf kk cs

end
end Go.Am

/-
  THE WHOLE EVALUATOR.
-/
namespace Go.Am

section
variable {P : Program} {E : Env} {R : Rc} {f : FuncId} {ro : Option Nat} {s s' : St} {x : Ex} {φ : Mp} {h h' : Heap} {w : World} {t : T}

theorem region_at (ok : EnvOk P E) (hm : P.follows .mixedOrders = true) (hR : RcOk P R) {id : Nat} {ops : Array Oper} {draw : Bool} (e : codeR E R.toCalls' ops draw s = some (x, s')) : CodeAt P f ro (.region id ops draw) s x s' := by
  intro hc φ w a hr hs
  obtain ⟨t, ds, h⟩ := s
  unfold codeR at e
  simp only at e
  split at e
  · rename_i t' h' he
    injection e with e
    injection e with e1 e2
    subst e1; subst e2
    unfold regionV at he
    cases draw with
    | false =>
      obtain ⟨φ', w', a', r1, r2, r3, r4, r5, r6⟩ := region_ok ok R.toCalls' hR.calls hr hs.1 he
      exact ⟨φ', w', a', r1, r2, r3, ⟨r4, by rw [r5]; exact hs.2.mono r2.le⟩, fun b k cs _ _ => r6 id b k cs⟩
    | true =>
      obtain ⟨φ', w', a', r1, r2, r3, r4, r5, r6⟩ := draw_ok ok hm R.toCalls' hR.calls hc hr hs.1 he f id
      exact ⟨φ', w', a', r1, r2, r3, ⟨r4, by rw [r5]; exact hs.2.mono r2.le⟩, fun b k cs hf _ => r6 b k cs hf⟩
  · cases e

theorem code_at (ok : EnvOk P E) (hm : P.follows .mixedOrders = true) (hR : RcOk P R) {c : Code} (e : codeV E R f ro c s = some (x, s')) : CodeAt P f ro c s x s' := by
  unfold codeV at e
  split at e
  · injection e with e; injection e with e1 e2; subst e1; subst e2; exact skip_at
  · injection e with e; injection e with e1 e2; subst e1; subst e2; exact label_at
  · exact region_at ok hm hR e
  · obtain ⟨x1, s1, h1, h2, h3⟩ := codeS_inv e
    exact seq_at (hR.code _ _ _ _ _ _ h1) (fun q => hR.code _ _ _ _ _ _ (h2 q)) h3
  · unfold codeC at e
    split at e
    · rename_i hv; exact cond_at (t := true) hv (hR.code _ _ _ _ _ _ e)
    · rename_i hv; exact cond_at (t := false) hv (hR.code _ _ _ _ _ _ e)
    · cases e
  · rename_i id b
    cases h1 : R.code f ro b s with
    | none => rw [h1] at e; cases e
    | some r =>
      obtain ⟨x1, s1⟩ := r
      rw [h1] at e
      have hs : s1 = s' := by
        unfold codeB at e
        cases x1 with
        | nrm => simp only at e; injection e with e; injection e
        | ret => simp only at e; injection e with e; injection e
        | exit j => simp only at e; split at e <;> (injection e with e; injection e)
      subst hs
      exact block_at (hR.code _ _ _ _ _ _ h1) e
  · obtain ⟨x1, s1, h1, h2, h3⟩ := codeS_inv e
    exact loop_at (hR.code _ _ _ _ _ _ h1) (fun q => hR.code _ _ _ _ _ _ (h2 q)) h3
  · injection e with e; injection e with e1 e2; subst e1; subst e2; exact exit_at
  · injection e with e; injection e with e1 e2; subst e1; subst e2; exact ret_at
  · cases ro with
    | some l => cases e
    | none => exact range_at ok hR e
  · cases e

theorem evalN_ok (ok : EnvOk P E) (hm : P.follows .mixedOrders = true) : ∀ n, RcOk P (evalN E n)
  | 0 => ⟨⟨fun _ _ _ _ _ e => by simp [evalN] at e, fun _ _ _ _ _ e => by simp [evalN] at e⟩, fun _ _ _ _ _ _ e => by simp [evalN] at e⟩
  | n + 1 => by
    have ih := evalN_ok ok hm n
    refine ⟨⟨fun f vs h v h' e φ w as hr hv => ?_, fun l vs h v h' e φ w as pl hr hp hv => ?_⟩, fun f ro c s x s' e => ?_⟩
    · exact callFunc_ok ok ih e hr hv
    · exact yld_at ih e hr hp hv
    · exact code_at ok hm ih e

/-- A call with no arguments, on the empty heap: in any memory. -/
theorem eval_calls (ok : EnvOk P E) (hm : P.follows .mixedOrders = true) {n : Nat} {v : V} {h' : Heap} (e : (evalN E (n + 1)).call f [] { next := 0, blks := .nil } = some (v, h')) (w : World) :
    Calls P f #[] w fun e w' => ∃ φ' y, e = .returned y ∧ VRel φ' v y ∧ RowKit.Below w.heap.size w w' := by
  have hr : HRel (fun _ _ => none) { next := 0, blks := .nil } w := ⟨(fun _ _ _ q => by cases q), (fun _ _ _ _ _ _ q => by cases q), (fun _ _ _ _ _ q => by cases q), (fun _ _ q => by cases q)⟩
  have e' : callF E (evalN E n) f [] { next := 0, blks := .nil } = some (v, h') := e
  cases hfi : E.fn f with
  | none => unfold callF at e'; rw [hfi] at e'; cases e'
  | some fi =>
    obtain ⟨φ', w', y, r1, r2, r3, r4, r5⟩ := call_at ok (evalN_ok ok hm n) hfi e' (as := #[]) hr (VRels.nil _)
    intro cs
    obtain ⟨fr, s1, s2, s3⟩ := r5 cs
    exact ⟨.returned y, w', fr, ⟨φ', y, rfl, r4, ⟨r2.os, r2.tape, r2.output, r2.size, fun k hk => r2.keep k hk (by intro _ _ _ q; cases q)⟩⟩, s1, s2, s3⟩

end
end Go.Am

