import Derived.Test.YthjpppgibdfaeaaCvRSpec
/- The laws' own helpers: a copy with tinted room behind it. Plain. -/
namespace Cv
open Go Go.SX
def spareF (f : Nat → Nat) (st len i : Nat) : Nat := if i < len then f (st + i) else (201 + i) % 256
theorem spareF_lt {f : Nat → Nat} (hf : ∀ i, f i < 256) (st len i : Nat) : spareF f st len i < 256 := by
  unfold spareF; split
  · exact hf _
  · omega
theorem spareF_in {f : Nat → Nat} {st len i : Nat} (h : i < len) : f (st + i) = spareF f st len i := (if_pos h).symm
theorem spareF_out {f : Nat → Nat} {st len i : Nat} (h : ¬ i < len) : (201 + i) % 256 = spareF f st len i := (if_neg h).symm
theorem step_cells0 {n k : Nat} {kd : IntKind} {z : Nat → Nat} (v : Nat) (hv : v = z k) : (cells kd n fun i => if i < k then z i else 0).set (0 + k) (.int kd (v : Int)) = cells kd n fun i => if i < k + 1 then z i else 0 := by
  rw [Nat.zero_add]; exact step_cells v hv
end Cv
