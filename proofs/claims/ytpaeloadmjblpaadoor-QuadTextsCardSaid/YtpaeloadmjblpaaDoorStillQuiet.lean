/- A region that draws its order, whose operations but for a tail only read: its head, walked by the quiet walk's cheap steps, in the one world. -/
import Derived.Test.YtpaeloadmjblpaaDoorKit
import Derived.StillTailTactics
import Derived.BigQuiet
namespace Go.Proofs.YtpaeloadmjblpaaDoor
open Go.RowKit

theorem still_of_quiet {P : Program} {ops : Array Oper} {w : World} {o : Oper} {a : Act} {K : Act → Prop} (h : o.quiet P a (fun x => x = w) K) : o.still P a w K := by
  obtain ⟨v, h1, h2⟩ := h
  have h3 := h1 w rfl
  unfold Oper.quietAt at h3
  unfold Oper.still
  generalize (execOp a.eval o).run P w = r at *
  cases r with
  | ok n w' =>
    cases n <;> simp only [Oper.quietUpon] at h3 <;> simp only [Oper.stillUpon]
    case value u => obtain ⟨h4, rfl⟩ := h3; exact ⟨h4, h2⟩
    case skip => obtain ⟨h4, rfl⟩ := h3; exact ⟨h4, h2⟩
    case enter f args => exact ⟨h3.1, v, h3.2, h2⟩
  | halt x w' => simp only [Oper.quietUpon] at h3
theorem wpStill_of_quiet {P : Program} {ops : Array Oper} {w : World} {Q : Act → Prop} : ∀ (l : List Oper) (a : Act), wpQuiet P ops (fun x => x = w) Q l a → wpStill P ops w Q l a
  | [], _, h => h
  | o :: rest, a, h => by
    unfold wpQuiet at h
    unfold wpStill
    split
    · rename_i hw
      rw [if_pos hw] at h
      exact Oper.still_mono (fun a' h' => wpStill_of_quiet rest a' h') (still_of_quiet (ops := ops) h)
    · rename_i hw
      rw [if_neg hw] at h
      exact wpStill_of_quiet rest _ h
end Go.Proofs.YtpaeloadmjblpaaDoor
