/- This seat's types. -/
import Derived.Test.YtfohedaadncefaaChecked
import Derived.Test.YtfohedaadncefaaHbN
namespace Go.Proofs.Ytfohedaadncefaa.HBT
open Go Go.Proofs.Ytfohedaadncefaa.HB

def T : TTab := fun t => match t with
  | 3 => some (.one (.int .i64) (.int .i64 0))
  | 4 => some (.one .bool (.bool false))
  | 9 => some (.one .string (.str ⟨#[]⟩))
  | 10 => some (.one .string (.str ⟨#[]⟩))
  | 11 => some (.one .string (.str ⟨#[]⟩))
  | 5 => some (.one (.int .u8) (.int .u8 0))
  | 22 => some (.slice 30 3 40 true [.str ⟨#[]⟩, .str ⟨#[]⟩, .int .i64 0])
  | 24 => some (.agg [(0, 1, false), (1, 1, false), (2, 1, false), (3, 1, false)] [.int .i64 0, .str ⟨#[]⟩, .int .i64 0, .nils])
  | 30 => some (.agg [(0, 1, false), (1, 1, false), (2, 1, false)] [.str ⟨#[]⟩, .str ⟨#[]⟩, .int .i64 0])
  | _ => none

theorem T_ok : TOk Try.prog T := by
  intro t ti h
  unfold T at h
  split at h
  all_goals first | (cases h; done) | (cases h; kernel_rfl)

def E : TypeId → Option (List AV) := fun t => match t with
  | 30 => some [.str ⟨#[]⟩, .str ⟨#[]⟩, .int .i64 0]
  | _ => none
theorem E_ok : ∀ t ks, E t = some ks → eqOkP Try.prog t ks = true := by
  intro t ti h
  unfold E at h
  split at h
  all_goals first | (cases h; done) | (cases h; kernel_rfl)

noncomputable abbrev C : Cx := ⟨Try.prog, T, E, fun _ => none, fun _ _ => True⟩
theorem C_ok : C.Ok := ⟨T_ok, E_ok, fun _ _ _ _ _ _ _ => trivial, (fun _ _ _ _ _ h => by cases h), Try.checked.mixed⟩

end Go.Proofs.Ytfohedaadncefaa.HBT
