/- The owned machine, part GT: the package-level variables that the statements' rows list, with what they hold (of this seat: the words of kinds, the powers of ten). -/
import Derived.WalkKit
set_option linter.all false
namespace Go.Proofs.YtgnakhljdjekbaaGreatDoor.Am
/-- The number of a variable's block, and its cells. -/
def globTab : List (Nat × List Value) := [(0, [.string ⟨#[102, 97, 99, 116]⟩, .string ⟨#[101, 97, 114, 110, 101, 100]⟩, .string ⟨#[116, 97, 107, 101, 110]⟩, .string ⟨#[109, 101, 116]⟩, .string ⟨#[115, 116, 97, 110, 100, 105, 110, 103]⟩, .string ⟨#[115, 116, 105, 112, 101, 110, 100]⟩, .string ⟨#[97, 119, 97, 114, 100]⟩, .string ⟨#[118, 101, 114, 115, 105, 111, 110]⟩]), (2, [.int .u64 1, .int .u64 10, .int .u64 100, .int .u64 1000, .int .u64 10000, .int .u64 100000, .int .u64 1000000, .int .u64 10000000, .int .u64 100000000, .int .u64 1000000000, .int .u64 10000000000, .int .u64 100000000000, .int .u64 1000000000000, .int .u64 10000000000000, .int .u64 100000000000000, .int .u64 1000000000000000, .int .u64 10000000000000000, .int .u64 100000000000000000, .int .u64 1000000000000000000, .int .u64 10000000000000000000])]
end Go.Proofs.YtgnakhljdjekbaaGreatDoor.Am
