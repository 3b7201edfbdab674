/-
  Runs of the machine: the delay is an unknown from 1 to 9, the horizon one from 0 to 28; so many tokens.
-/
import Derived.Test.YtnhfopfmgodllaaTwoWalk
import Derived.KernelRfl
namespace Two
open Go Go.Ab
set_option maxRecDepth 100000
theorem rA11 : endsTrue 6 (exec prog 100000 rest (frK 11 wA hA) St0) = true := by kernel_rfl
theorem rB11 : endsTrue 6 (exec prog 100000 rest (frK 11 wB hB) St0) = true := by kernel_rfl
theorem rA12 : endsTrue 6 (exec prog 100000 rest (frK 12 wA hA) St0) = true := by kernel_rfl
theorem rB12 : endsTrue 6 (exec prog 100000 rest (frK 12 wB hB) St0) = true := by kernel_rfl
theorem rA13 : endsTrue 6 (exec prog 100000 rest (frK 13 wA hA) St0) = true := by kernel_rfl
theorem rB13 : endsTrue 6 (exec prog 100000 rest (frK 13 wB hB) St0) = true := by kernel_rfl
theorem rA14 : endsTrue 6 (exec prog 100000 rest (frK 14 wA hA) St0) = true := by kernel_rfl
theorem rB14 : endsTrue 6 (exec prog 100000 rest (frK 14 wB hB) St0) = true := by kernel_rfl
end Two
