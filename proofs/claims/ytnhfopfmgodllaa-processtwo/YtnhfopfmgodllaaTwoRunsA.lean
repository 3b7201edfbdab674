/-
  Runs of the machine: the delay is an unknown from 1 to 9, the horizon one from 0 to 28; so many tokens.
-/
import Derived.Test.YtnhfopfmgodllaaTwoWalk
import Derived.KernelRfl
namespace Two
open Go Go.Ab
set_option maxRecDepth 100000
theorem rA0 : endsTrue 6 (exec prog 100000 rest (frK 0 wA hA) St0) = true := by kernel_rfl
theorem rB0 : endsTrue 6 (exec prog 100000 rest (frK 0 wB hB) St0) = true := by kernel_rfl
theorem rA1 : endsTrue 6 (exec prog 100000 rest (frK 1 wA hA) St0) = true := by kernel_rfl
theorem rB1 : endsTrue 6 (exec prog 100000 rest (frK 1 wB hB) St0) = true := by kernel_rfl
theorem rA2 : endsTrue 6 (exec prog 100000 rest (frK 2 wA hA) St0) = true := by kernel_rfl
theorem rB2 : endsTrue 6 (exec prog 100000 rest (frK 2 wB hB) St0) = true := by kernel_rfl
theorem rA3 : endsTrue 6 (exec prog 100000 rest (frK 3 wA hA) St0) = true := by kernel_rfl
theorem rB3 : endsTrue 6 (exec prog 100000 rest (frK 3 wB hB) St0) = true := by kernel_rfl
theorem rA4 : endsTrue 6 (exec prog 100000 rest (frK 4 wA hA) St0) = true := by kernel_rfl
theorem rB4 : endsTrue 6 (exec prog 100000 rest (frK 4 wB hB) St0) = true := by kernel_rfl
theorem rA5 : endsTrue 6 (exec prog 100000 rest (frK 5 wA hA) St0) = true := by kernel_rfl
theorem rB5 : endsTrue 6 (exec prog 100000 rest (frK 5 wB hB) St0) = true := by kernel_rfl
end Two
