/- The rope's contracts with the lengths given by name. -/
import Derived.Test.YteaciponojocbaaOpen
namespace Go.Proofs.Yteaciponojocbaa.Tw
open Go.RowKit
theorem len_is (B : Nat) (bs : List Nat) (n : Nat) (w : World) (h : IsRope w B bs) (hn : bs.length = n) :
    Calls Try.prog 12 #[.pointer (some ⟨B, 0, none⟩)] w fun e w' => e = .returned (.int .i64 (n : Int)) ∧ w' = w := by subst hn; exact len_any B bs w h
theorem new_len (a : Option Addr) (cap n : Nat) (bs : List Nat) (w : World) (h : IsBytes w a cap bs) (hl : bs.length = n) (hn : n ≤ 2048) : Calls Try.prog 10 #[.slice a n cap] w (Made w bs) := by subst hl; exact new_any a cap bs w h hn
theorem replace_len (B : Nat) (bs : List Nat) (i j n : Nat) (a : Option Addr) (cap : Nat) (cs : List Nat) (w : World) (h : IsRope w B bs) (hi : i ≤ bs.length) (hj : i + j ≤ bs.length) (hl : cs.length = n) (hn : bs.length - j + n ≤ 2048) (hc : IsBytes w a cap cs) :
    Calls Try.prog 11 #[.pointer (some ⟨B, 0, none⟩), .int .i64 (i : Int), .int .i64 (j : Int), .slice a n cap] w (Made w (swapped bs i j cs)) := by subst hl; exact replace_ok B bs i j a cap cs w h hi hj hn hc
theorem rope_small {w : World} {B : Nat} {bs : List Nat} (h : IsRope w B bs) : bs.length ≤ 2048 := by obtain ⟨_, _, _, _, _, _, _, _, _, q, _⟩ := h; exact q

end Go.Proofs.Yteaciponojocbaa.Tw
