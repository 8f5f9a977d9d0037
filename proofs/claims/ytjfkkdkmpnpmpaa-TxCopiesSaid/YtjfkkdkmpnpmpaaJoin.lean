/- Two ways of a condition come together again: what comes behind is walked once. No condition. -/
import Derived.Test.YtjfkkdkmpnpmpaaKit
namespace Go.Proofs.Ytjfkkdkmpnpmpaa
set_option linter.unusedVariables false
set_option linter.unusedSimpArgs false
open Go Go.RowKit
def putAll (a : Act) : List Nat → List Value → Act
  | t :: ts, u :: us => putAll (a.put (some t) u) ts us
  | _, _ => a
theorem wp_join {P : Program} {c rest : Code} {Q Q0 : Exit → Act → World → Prop} {K1 : Act → World → Prop} {a : Act} {w : World} (ts : List Nat) (J : World → Prop) (hK1 : ∀ a w, Code.wp P rest Q a w → K1 a w)
    (h2 : (∀ us w', us.length = ts.length → J w' → K1 (putAll a ts us) w') → Code.wp P c Q0 a w) (h1 : ∀ us w', us.length = ts.length → J w' → Code.wp P rest Q (putAll a ts us) w') : Code.wp P c Q0 a w :=
  h2 (fun us w' hl hj => hK1 _ _ (h1 us w' hl hj))
end Go.Proofs.Ytjfkkdkmpnpmpaa
