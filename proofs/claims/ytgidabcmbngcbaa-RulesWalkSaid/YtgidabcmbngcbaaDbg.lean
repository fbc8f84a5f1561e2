/- For looking alone; never handed in. -/
import Lean
import Derived.Test.YtgidabcmbngcbaaKitG
open Lean Elab Tactic Meta
namespace Go.Proofs.Ytgidabcmbngcbaa
def headS (e : Lean.Expr) : MetaM String := do
  let e ← whnfR e
  let f := e.getAppFn
  let s := match f with | .const n _ => n.toString | _ => "?"
  if s == "List.cons" then
    let o ← whnfR e.getAppArgs[1]!
    let args := o.getAppArgs
    if args.size ≥ 4 then return s!"{← ppExpr args[0]!} := {← ppExpr args[1]!}  [{← ppExpr args[3]!}]  guard {← ppExpr args[5]!}" else return s
  if s == "Code.cond" || s == "Go.Code.cond" then return s!"cond {← ppExpr e.getAppArgs[0]!}"
  if s == "Code.region" || s == "Go.Code.region" then return s!"region {← ppExpr e.getAppArgs[0]!} draw {← ppExpr e.getAppArgs[2]!}"
  return s
elab "st" : tactic => do
  let gs ← getGoals
  logInfo m!"{gs.length} goals"
  for g in gs.take 4 do
    g.withContext do
      let t ← instantiateMVars (← g.getType)
      let t := t.consumeMData
      let n := t.getAppFn.constName?
      let a := t.getAppArgs
      let mut hyps : Array MessageData := #[]
      for d in ← getLCtx do
        if d.isImplementationDetail then continue
        hyps := hyps.push m!"{d.userName} : {d.type}"
      let hs := MessageData.joinSep hyps.toList "\n"
      match n with
      | some n =>
        let s := n.toString
        if s.endsWith "WX" then logInfo m!"{hs}\n⊢ WX {a[0]!} {← headS a[7]!}\nfr := {a[8]!}\nM := {a[9]!}"
        else if s.endsWith "WC" then logInfo m!"{hs}\n⊢ WC {← headS a[5]!}\nfr := {a[6]!}\nM := {a[7]!}"
        else if s.endsWith "WQ" then logInfo m!"{hs}\n⊢ WQ {← headS a[0]!} {a[4]!}\nfr := {a[5]!}\nM := {a[6]!}"
        else logInfo m!"{hs}\n⊢ {t}"
      | none => logInfo m!"{hs}\n⊢ {t}"
end Go.Proofs.Ytgidabcmbngcbaa
