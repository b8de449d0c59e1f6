import Derived.Test.YthjpppgibdfaeaaCvEq
/- What is read of a copy is read of the bytes themselves. Plain. -/
namespace Cv
open Go Go.SX
theorem spareF_at {f : Nat → Nat} {st L i : Nat} (h : i < L) : spareF f st L i = f (st + i) := if_pos h
theorem junpack_spare (f : Nat → Nat) (st L : Nat) : junpack (spareF f st L) 0 L = junpack f st L := by
  by_cases h : L = 33
  · subst h
    unfold junpack
    have e : be (fun i => spareF f st 33 (0 + 1 + i)) 32 = be (fun i => f (st + 1 + i)) 32 := be_congr 32 fun i hi => by
      rw [spareF_at (by omega)]; congr 1; omega
    have e0 : spareF f st 33 0 = f st := spareF_at (by decide)
    rw [e, e0]
  · rw [junpack_len h, junpack_len h]
theorem verify_spare (f : Nat → Nat) (st L : Nat) (m g : Nat → Nat) (st' L' : Nat) : verify (spareF f st L) 0 L m (spareF g st' L') 0 L' = verify f st L m g st' L' := by
  by_cases h : L' = 64
  · subst h
    unfold verify
    have e1 : be (fun i => spareF g st' 64 (0 + i)) 32 = be (fun i => g (st' + i)) 32 := be_congr 32 fun i hi => by
      rw [spareF_at (by omega)]; congr 1; omega
    have e2 : be (fun i => spareF g st' 64 (0 + 32 + i)) 32 = be (fun i => g (st' + 32 + i)) 32 := be_congr 32 fun i hi => by
      rw [spareF_at (by omega)]; congr 1; omega
    rw [junpack_spare, e1, e2]
  · rw [verify_no (fun hh => h hh.1), verify_no (fun hh => h hh.1)]
end Cv
