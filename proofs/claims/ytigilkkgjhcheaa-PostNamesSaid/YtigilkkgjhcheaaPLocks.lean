import Derived.Test.YtigilkkgjhcheaaChecked
import Derived.Conc.MuLib
import Derived.Conc.MuData
import Derived.KernelRfl
/-! The numbers under which this dump holds sync.Mutex and what its fast roads call; checked by the kernel. -/
namespace Go.Proofs
abbrev Try.muLink : Go.Conc.Locks.MuLink := { lock := 85, unlock := 86, ilock := 102, iunlock := 103, lockSlow := 108, unlockSlow := 110, disable := 45, enable := 46, acquire := 61, relMerge := 44, cas32 := 107, add32 := 109, tMutex := 95, tIMutex := 93, tPMutex := 176, tPIMutex := 183, tPI32 := 185, tUP := 103, tNoCopy := 38, tU32 := 42 }
theorem Try.muLib : Go.Conc.Locks.MuLib Try.prog Try.muLink :=
  ⟨Try.func85, Try.func86, Try.func102, Try.func103, Try.func45, Try.func46, Try.func61, Try.func44, Try.func107, Try.func109, Try.underlying93, Try.runUnderlying93, Try.sizeOf93, Try.isAgg93, Try.zeroValue93, Try.underlying95, Try.runUnderlying95, Try.sizeOf95, Try.isAgg95, Try.zeroValue95, Try.underlying176, Try.runUnderlying176, Try.sizeOf176, Try.isAgg176, Try.zeroValue176, Try.underlying183, Try.runUnderlying183, Try.sizeOf183, Try.isAgg183, Try.zeroValue183, Try.underlying185, Try.runUnderlying185, Try.sizeOf185, Try.isAgg185, Try.zeroValue185, Try.underlying103, Try.runUnderlying103, Try.sizeOf103, Try.isAgg103, Try.zeroValue103, Try.underlying38, Try.runUnderlying38, Try.sizeOf38, Try.isAgg38, Try.zeroValue38, Try.underlying21, Try.runUnderlying21, Try.sizeOf21, Try.isAgg21, Try.zeroValue21, (by kernel_rfl)⟩
end Go.Proofs
