/-
  Runs of the machine: the delay is an unknown from 1 to 9, the horizon one from 0 to 28; so many tokens.
-/
import Derived.Test.YtnhfopfmgodllaaTwoWalk
import Derived.KernelRfl
namespace Two
open Go Go.Ab
set_option maxRecDepth 100000
theorem rA6 : endsTrue 6 (exec prog 100000 rest (frK 6 wA hA) St0) = true := by kernel_rfl
theorem rB6 : endsTrue 6 (exec prog 100000 rest (frK 6 wB hB) St0) = true := by kernel_rfl
theorem rA7 : endsTrue 6 (exec prog 100000 rest (frK 7 wA hA) St0) = true := by kernel_rfl
theorem rB7 : endsTrue 6 (exec prog 100000 rest (frK 7 wB hB) St0) = true := by kernel_rfl
theorem rA8 : endsTrue 6 (exec prog 100000 rest (frK 8 wA hA) St0) = true := by kernel_rfl
theorem rB8 : endsTrue 6 (exec prog 100000 rest (frK 8 wB hB) St0) = true := by kernel_rfl
theorem rA9 : endsTrue 6 (exec prog 100000 rest (frK 9 wA hA) St0) = true := by kernel_rfl
theorem rB9 : endsTrue 6 (exec prog 100000 rest (frK 9 wB hB) St0) = true := by kernel_rfl
theorem rA10 : endsTrue 6 (exec prog 100000 rest (frK 10 wA hA) St0) = true := by kernel_rfl
theorem rB10 : endsTrue 6 (exec prog 100000 rest (frK 10 wB hB) St0) = true := by kernel_rfl
end Two
