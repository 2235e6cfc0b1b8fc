/- Go functions as Lean functions, and that their code does as these say. Printed by a program of this work. -/
import Derived.Test.YtejlgalnkblndaaCo0
set_option linter.unusedVariables false
set_option linter.unusedSimpArgs false
set_option maxRecDepth 100000
set_option maxHeartbeats 4000000
namespace Go.Proofs.Ytejlgalnkblndaa
open Go Go.Al
noncomputable section
@[go_sem] theorem zr43_vec : zr43.map AV.lit = flat (lI .i64) (Vector.replicate 16 0).toList := rfl
structure GapiConf where
  U : Int
  R : Int
  Peers : Int
  Window : Int
  Every : Int
  Patience : Int
  Secret : List Int
def yGapiConf : Lay GapiConf := ⟨7, fun x => [.lit (.int .i64 x.U), .lit (.int .i64 x.R), .lit (.int .i64 x.Peers), .lit (.int .i64 x.Window), .lit (.int .i64 x.Every), .lit (.int .i64 x.Patience), eS (lI .u8) x.Secret], ⟨0, 0, 0, 0, 0, 0, []⟩, fun _ => rfl, by decide, fun x c h => by
  simp only [List.mem_cons, List.not_mem_nil, or_false] at h
  rcases h with rfl | rfl | rfl | rfl | rfl | rfl | rfl <;> rfl⟩
@[go_sem] theorem yGapiConf_sz : yGapiConf.sz = 7 := rfl
@[go_sem] theorem yGapiConf_cells {x : GapiConf} : yGapiConf.cells x = [.lit (.int .i64 x.U), .lit (.int .i64 x.R), .lit (.int .i64 x.Peers), .lit (.int .i64 x.Window), .lit (.int .i64 x.Every), .lit (.int .i64 x.Patience), eS (lI .u8) x.Secret] := rfl
structure GapiId where
  Role : Int
  N : Int
def yGapiId : Lay GapiId := ⟨2, fun x => [.lit (.int .i64 x.Role), .lit (.int .i64 x.N)], ⟨0, 0⟩, fun _ => rfl, by decide, fun x c h => by
  simp only [List.mem_cons, List.not_mem_nil, or_false] at h
  rcases h with rfl | rfl <;> rfl⟩
@[go_sem] theorem yGapiId_sz : yGapiId.sz = 2 := rfl
@[go_sem] theorem yGapiId_cells {x : GapiId} : yGapiId.cells x = [.lit (.int .i64 x.Role), .lit (.int .i64 x.N)] := rfl
end
end Go.Proofs.Ytejlgalnkblndaa
