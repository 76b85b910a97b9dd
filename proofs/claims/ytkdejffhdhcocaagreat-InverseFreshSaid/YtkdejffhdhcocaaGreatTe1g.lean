/- abacusref17.of: of any verb. Condition: sizes within reach. -/
import Derived.Test.YtkdejffhdhcocaaGreatTe1d
import Derived.Test.YtkdejffhdhcocaaGreatTe1k
import Derived.Test.YtkdejffhdhcocaaGreatTe1e
import Derived.Test.YtkdejffhdhcocaaGreatTe1f
import Derived.Test.YtkdejffhdhcocaaGreatTe1h
namespace Go.Proofs.YtkdejffhdhcocaaGreat
open Go.RowKit

theorem dof_any (N : Nat) : DofN N := by
  induction N with
  | zero => intro t A ca B cb K ck w0 w h; have := cnt_pos t; omega
  | succ N ih =>
    intro t A ca B cb K ck w0 w hN hat hb hwf hgd
    have kd : t.kind = 20 ∨ t.kind = 39 ∨ t.kind = 40 ∨ t.kind = 29 ∨ t.kind = 31 ∨ t.kind = 46 ∨ t.kind = 41 ∨ t.kind = 36 ∨ t.kind = 37 ∨ (¬ t.kind = 20 ∧ ¬ t.kind = 39 ∧ ¬ t.kind = 40 ∧ ¬ t.kind = 29 ∧ ¬ t.kind = 31 ∧ ¬ t.kind = 46 ∧ ¬ t.kind = 41 ∧ ¬ t.kind = 36 ∧ ¬ t.kind = 37) := by omega
    rcases kd with hk | hk | hk | hk | hk | hk | hk | hk | hk | hk
    · exact dof_20 N ih t A ca B cb K ck w0 w hN hat hb hwf hgd hk
    · exact dof_39 N ih t A ca B cb K ck w0 w hN hat hb hwf hgd hk
    · exact dof_40 N ih t A ca B cb K ck w0 w hN hat hb hwf hgd hk
    · exact dof_29 N ih t A ca B cb K ck w0 w hN hat hb hwf hgd hk
    · exact dof_31 N ih t A ca B cb K ck w0 w hN hat hb hwf hgd hk
    · exact dof_46 N ih t A ca B cb K ck w0 w hN hat hb hwf hgd hk
    · exact dof_41 N ih t A ca B cb K ck w0 w hN hat hb hwf hgd hk
    · exact dof_36 N ih t A ca B cb K ck w0 w hN hat hb hwf hgd hk
    · exact dof_37 N ih t A ca B cb K ck w0 w hN hat hb hwf hgd hk
    · exact dof_no N ih t A ca B cb K ck w0 w hN hat hb hwf hgd hk
end Go.Proofs.YtkdejffhdhcocaaGreat
