/- TopRival: awake() by the kernel. -/
import Derived.Test.YtgdcimpndddepaaGreatRN
/- TopRival: awake() by the kernel. -/
open Go Go.Proofs Go.Abs
namespace Rival
def okBool : Option (AV × Heap) → Bool
  | some (.bool b, _) => b
  | _ => false
theorem okBool_true {x : Option (AV × Heap)} (h : okBool x = true) : ∃ h', x = some (.bool true, h') := by
  unfold okBool at h
  split at h
  · subst h; exact ⟨_, rfl⟩
  · cases h
theorem aw : okBool ((ev env0 400).1 13 [] []) = true := by kernel_rfl
theorem awake_ok : ∃ h', callL env0 13 [] [] = some (.bool true, h') := by
  obtain ⟨h', h⟩ := okBool_true aw
  exact ⟨h', callL_of h⟩
end Rival
