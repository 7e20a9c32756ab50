/- CodecWrites: walked. -/
import Derived.Test.YtlmlkphdalkfdaaRefE
namespace Go.Proofs.Ytlmlkphdalkfdaa
open Go.RowKit

/-- Each value is small, and a number of its kind. -/
def Fine (vs : List V) : Prop := ∀ v ∈ vs, v.2.2.length ≤ 140737488355328 ∧ -9223372036854775808 ≤ v.2.1 ∧ v.2.1 ≤ 9223372036854775807

set_option maxHeartbeats 8000000 in
theorem writes_any (a : Option Addr) (n cap : Nat) (vs : List V) (w : World) (hn : vs.length = n) (hc : Vals w a vs) (hsz : n ≤ 1000000000) (hf : Fine vs) :
    Calls Try.prog 4 #[.slice a n cap] w (fun e w' => e = .returned (.bool true) ∧ Ext w w') := by
  have HN := Lib.hid hn; clear hn
  have HC := Lib.hid hc; clear hc
  have HF1 : Hid (∀ v ∈ vs, v.2.2.length ≤ 140737488355328) := fun v hv => (hf v hv).1
  have HF2 : Hid (∀ v ∈ vs, -9223372036854775808 ≤ v.2.1 ∧ v.2.1 ≤ 9223372036854775807) := fun v hv => (hf v hv).2
  clear hf
  go_enter Try.func4, Try.ntmps4
  go_wp2_with fail
  refine (awake_ok w).mono ?_
  rintro e w1 ⟨rfl, hE1⟩
  go_wp2_with fail
  refine (Encode_ok a n cap vs w1 HN.out (HC.out.ext hE1) hsz HF1.out HF2.out).mono ?_
  rintro e w2 ⟨g, m, c, rfl, hB, hg, hE2⟩
  have hE12 := hE1.trans hE2
  have HB := Lib.hid hB
  clear hB hg
  go_wp2_with fail
  refine (REncode_ok a n cap vs w2 HN.out (HC.out.ext hE12) hsz HF1.out HF2.out).mono ?_
  rintro e w3 ⟨rfl, hE3⟩
  have hE13 := hE12.trans hE3
  have hcv := conv_bytes (HB.out.ext hE3)
  have ht := bs_toList (encO vs)
  go_wp2_with fail
  refine (Check_ok a n cap vs w3 HN.out (HC.out.ext hE13) (by omega) HF1.out).mono ?_
  rintro e w4 ⟨rfl, hE4⟩
  clear hcv
  go_wp2
  go_ret
  exact ⟨rfl, hE13.trans hE4⟩

end Go.Proofs.Ytlmlkphdalkfdaa
