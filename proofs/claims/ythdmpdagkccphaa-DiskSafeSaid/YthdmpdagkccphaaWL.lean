/- Go functions as Lean functions, and that their code does as these say. Printed by a program of this work. -/
import Derived.Test.YthdmpdagkccphaaCw0
set_option linter.unusedVariables false
set_option linter.unusedSimpArgs false
set_option maxRecDepth 100000
set_option maxHeartbeats 4000000
namespace Go.Proofs.Ythdmpdagkccphaa
open Go Go.Al
noncomputable section
structure Gdiskarea where
  data : List Int
  safe : Int
def yGdiskarea : Lay Gdiskarea := ⟨2, fun x => [eS (lI .u8) x.data, .lit (.int .i64 x.safe)], ⟨[], 0⟩, fun _ => rfl, by decide, fun x c h => by
  simp only [List.mem_cons, List.not_mem_nil, or_false] at h
  rcases h with rfl | rfl <;> rfl⟩
@[go_sem] theorem yGdiskarea_sz : yGdiskarea.sz = 2 := rfl
@[go_sem] theorem yGdiskarea_cells {x : Gdiskarea} : yGdiskarea.cells x = [eS (lI .u8) x.data, .lit (.int .i64 x.safe)] := rfl
structure GdiskDisk where
  power : Int
  areas : Ar2 Gdiskarea
def yGdiskDisk : Lay GdiskDisk := ⟨5, fun x => [.lit (.int .i64 x.power), eS (lI .u8) x.areas.x0.data, .lit (.int .i64 x.areas.x0.safe), eS (lI .u8) x.areas.x1.data, .lit (.int .i64 x.areas.x1.safe)], ⟨0, ⟨⟨[], 0⟩, ⟨[], 0⟩⟩⟩, fun _ => rfl, by decide, fun x c h => by
  simp only [List.mem_cons, List.not_mem_nil, or_false] at h
  rcases h with rfl | rfl | rfl | rfl | rfl <;> rfl⟩
def oGdiskDisk (x : GdiskDisk) : AObj := .box [.lit (.int .i64 x.power), eO (lI .u8) x.areas.x0.data, .lit (.int .i64 x.areas.x0.safe), eO (lI .u8) x.areas.x1.data, .lit (.int .i64 x.areas.x1.safe)]
@[go_sem] theorem yGdiskDisk_sz : yGdiskDisk.sz = 5 := rfl
@[go_sem] theorem yGdiskDisk_cells {x : GdiskDisk} : yGdiskDisk.cells x = [.lit (.int .i64 x.power), eS (lI .u8) x.areas.x0.data, .lit (.int .i64 x.areas.x0.safe), eS (lI .u8) x.areas.x1.data, .lit (.int .i64 x.areas.x1.safe)] := rfl
structure Glaw04Op where
  What : Int
  Area : Int
  N : Int
  Parts : List (List Int)
  Areas : List Int
def yGlaw04Op : Lay Glaw04Op := ⟨5, fun x => [.lit (.int .i64 x.What), .lit (.int .i64 x.Area), .lit (.int .i64 x.N), eS (lS (lI .u8)) x.Parts, eS (lI .i64) x.Areas], ⟨0, 0, 0, [], []⟩, fun _ => rfl, by decide, fun x c h => by
  simp only [List.mem_cons, List.not_mem_nil, or_false] at h
  rcases h with rfl | rfl | rfl | rfl | rfl <;> rfl⟩
@[go_sem] theorem yGlaw04Op_sz : yGlaw04Op.sz = 5 := rfl
@[go_sem] theorem yGlaw04Op_cells {x : Glaw04Op} : yGlaw04Op.cells x = [.lit (.int .i64 x.What), .lit (.int .i64 x.Area), .lit (.int .i64 x.N), eS (lS (lI .u8)) x.Parts, eS (lI .i64) x.Areas] := rfl
end
end Go.Proofs.Ythdmpdagkccphaa
