/-
  A CALL WITH NO ARGUMENTS THAT ANSWERS true, AS A ROW WANTS IT.
-/
import Derived.Test.YtdohdcfmcmncfaaGreatDoorRows
import Derived.Test.YtdohdcfmcmncfaaGreatDoorAmI
import Derived.ProofKit
import Derived.LaidMore
import Derived.OpenShut
import Derived.Lay
import Derived.KernelRfl
namespace Go.Proofs.YtdohdcfmcmncfaaGreatDoor
open Go.ChangeShapes Go.WideShapes Go.ChangeAt Go.RowKit Go.Am

theorem own : ownKnob Tryz.prog.godebug = none := by kernel_rfl

set_option maxRecDepth 100000 in
theorem closed_post {H : Type} {enc : TypeId × Value → H} {f : Func} {s : ChangeSpec} {W W' : World} (hp : f.params = #[]) (hr : f.resultTypes = #[4]) (hv : s.vars = []) (hf : (s.fn H []).results = [.lit (.bool true)] ∧ (s.fn H []).args = [] ∧ (s.fn H []).vars = [])
    (hW : DataW.Whole enc Tryz.prog f.params.toList s.vars false W [] [] [] []) (hb : Below W.heap.size W W') : s.post enc Tryz.prog f false true false false W #[] (.bool true) W' := by
  have hres : ∀ (b : Nat) (sp : Nat → Bool) (hd : Bool), DataW.TrodAll enc Tryz.prog W' b sp hd f.resultTypes.toList ((Value.bool true).resultList f.resultTypes.size) (s.fn H ([] ++ [])).results [] := by
    intro b sp hd
    rw [hr]
    simp only [List.append_nil, hf.1]
    exact trodAll_mk1 (shut_bool Tryz.underlying4 _)
  have hargs : ∀ (b : Nat) (sp : Nat → Bool) (hd : Bool), DataW.TrodAll enc Tryz.prog W' b sp hd f.params.toList [] (s.fn H ([] ++ [])).args [] := by
    intro b sp hd
    rw [hp]
    simp only [List.append_nil, hf.2.1]
    exact trodAll_mk0
  have hvars : ∀ sp : Nat → Bool, DataW.TrodVars enc Tryz.prog W' sp s.vars (s.fn H ([] ++ [])).vars [] := by
    intro sp
    rw [hv]
    simp only [List.append_nil, hf.2.2]
    rfl
  refine ⟨[], [], [], [], [], [], hW, hres _ _ _, hargs _ _ _, hvars _, hb.frame _, fun _ => ?_⟩
  refine ⟨ok_one hr rfl (okWide_bool_mk Tryz.underlying4 _), _, _, ([] ++ []) ++ [], ⟨[] ++ [], [], trodAll_append (hargs _ _ _) (hres _ _ _), hvars _, rfl, ?_, ?_⟩, ?_⟩
  · intro b off hp; cases hp
  · intro _; exact List.nodup_nil
  · intro p hp _; cases hp

/-- The evaluator's answer, as a call. -/
theorem calls_true {f : FuncId} {n : Nat} (e : (match (evalN (envOf Tryz.prog) (n + 1)).call f [] { next := 0, blks := .nil } with | some (.b true, _) => true | _ => false) = true) (w : World) :
    Calls Tryz.prog f #[] w fun e w' => e = .returned (.bool true) ∧ Below w.heap.size w w' := by
  cases h : (evalN (envOf Tryz.prog) (n + 1)).call f [] { next := 0, blks := .nil } with
  | none => rw [h] at e; cases e
  | some r =>
    obtain ⟨v, h'⟩ := r
    rw [h] at e
    have hv : v = .b true := by
      cases v with
      | b x => cases x with
        | true => rfl
        | false => cases e
      | _ => cases e
    subst hv
    refine (eval_calls (envOf_ok _) (by kernel_rfl) h w).mono fun en w' q => ?_
    obtain ⟨φ', y, q1, q2, q3⟩ := q
    exact ⟨by rw [q1, q2.bool], q3⟩


/-- The evaluator's answer, as a closed fact. -/
noncomputable def yes (f : FuncId) : Bool := match (evalN (envOf Tryz.prog) (99999 + 1)).call f [] { next := 0, blks := .nil } with | some (.b true, _) => true | _ => false
theorem yes_calls {f : FuncId} (e : yes f = true) (w : World) : Calls Tryz.prog f #[] w fun e w' => e = .returned (.bool true) ∧ Below w.heap.size w w' := calls_true e w
end Go.Proofs.YtdohdcfmcmncfaaGreatDoor
