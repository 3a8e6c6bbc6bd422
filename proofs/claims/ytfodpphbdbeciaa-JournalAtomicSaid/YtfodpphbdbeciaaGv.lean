/- A list of the call's own, and a code. -/
import Derived.Test.YtfodpphbdbeciaaRows
import Derived.Test.YtfodpphbdbeciaaOps
namespace Go.Proofs.Ytfodpphbdbeciaa.Field
open Go.RowKit Words Mem Plain Ops
set_option linter.unusedVariables false
set_option linter.unusedSimpArgs false

def Gave (k : IntKind) (t : TypeId) (w : World) (r : List Int × Int) (e : Ending) (w' : World) : Prop :=
  ∃ a cap, e = .returned (.tuple #[.slice a r.1.length cap, .int .i64 r.2]) ∧ w'.ownsRow w.heap.size t 1 (.slice a r.1.length cap) r.1.length (ints k r.1) ∧ Ext w w'
theorem Gave.nil {k : IntKind} {t : TypeId} {w w' : World} {e : Ending} {c : Int} (he : e = .returned (.tuple #[.slice none 0 0, .int .i64 c])) (h : Ext w w') : Gave k t w ([], c) e w' :=
  ⟨none, 0, he, ownsRow_nil _ _ _, h⟩
theorem Gave.row {k : IntKind} {t : TypeId} {w w' : World} {e : Ending} {L : List Int} {n : Nat} {c : Int} (he : e = .returned (.tuple #[.slice (some ⟨w.heap.size, 0, none⟩) n n, .int .i64 c])) (hl : L.length = n) (hm : n ≤ maxLen) (hr : Row w' w.heap.size t (ints k L)) (h : Ext w w') : Gave k t w (L, c) e w' := by
  subst hl
  exact ⟨_, _, he, ownsRow_of hr (Nat.le_refl _) (by rw [ints_length]) hm, h⟩
theorem Gave.own {k : IntKind} {t : TypeId} {w w' : World} {e : Ending} {L : List Int} {n cap : Nat} {a : Option Addr} {c : Int} (he : e = .returned (.tuple #[.slice a n cap, .int .i64 c])) (hl : L.length = n) (hr : w'.ownsRow w.heap.size t 1 (.slice a n cap) n (ints k L)) (h : Ext w w') : Gave k t w (L, c) e w' := by
  subst hl
  exact ⟨_, _, he, hr, h⟩
theorem own_cap {w : World} {base : Nat} {t : TypeId} {a : Option Addr} {n cap : Nat} {xs : List Value} (h : w.ownsRow base t 1 (.slice a n cap) n xs) : n ≤ cap ∧ cap ≤ 9223372036854775807 := by
  rcases ownsRow_cases h with ⟨_, h2, h3, _⟩ | ⟨g, M, h1, _, _, h4, h5, _⟩
  · omega
  · unfold maxLen at h5; omega
theorem own_lt {w : World} {base : Nat} {t : TypeId} {a : Option Addr} {n cap : Nat} {xs : List Value} (h : w.ownsRow base t 1 (.slice a n cap) n xs) : ∀ ad, a = some ad → base ≤ ad.block := by
  rcases ownsRow_cases h with ⟨h1, _⟩ | ⟨g, M, h1, h2, _⟩
  · intro ad e; rw [h1] at e; cases e
  · intro ad e; rw [h1] at e; cases e; exact h2
def OwnB0 (w : World) (L : List Int) (e : Ending) (w' : World) : Prop :=
  ∃ a cap, e = .returned (.tuple #[.slice a L.length cap, .int .i64 0]) ∧ w'.ownsRow w.heap.size 5 1 (.slice a L.length cap) L.length (ints .u8 L) ∧ Ext w w'
theorem own_nil {w : World} {base : Nat} {t : TypeId} {a : Option Addr} {n cap : Nat} {xs : List Value} (h : w.ownsRow base t 1 (.slice a n cap) n xs) : a = none → n = 0 ∧ cap = 0 := by
  rcases ownsRow_cases h with ⟨_, h2, h3, _⟩ | ⟨g, M, h1, _⟩
  · exact fun _ => ⟨h2, h3⟩
  · intro e; rw [h1] at e; cases e
def lenOfV : Value → Nat | .slice _ n _ => n | _ => 0
end Go.Proofs.Ytfodpphbdbeciaa.Field
