/- Contracts proved by hand: Left and Keys, of nothing. -/
import Derived.Test.YtcpeakceigidpaaDoorVHk
set_option linter.all false
namespace Go.Iw
open Go.Iv Go.Proofs Go.RowKit
set_option maxHeartbeats 2000000 in
set_option maxRecDepth 100000 in
theorem left_nil (w : World) : Calls Tryd.prog 22 #[.pointer none] w fun e w' => e = .returned (.tuple #[.int .i64 0, .int .i64 0]) ∧ w' = w := by
 go_enter Tryd.func22, Tryd.ntmps22
 go_wp2
 go_ret2
 exact ⟨rfl, rfl⟩
set_option maxHeartbeats 2000000 in
set_option maxRecDepth 100000 in
theorem keys_nil (w : World) : Calls Tryd.prog 23 #[.pointer none] w fun e w' => e = .returned (.slice none 0 0) ∧ Below w.heap.size w w' := by
 go_enter Tryd.func23, Tryd.ntmps23
 go_wp2
 go_ret
 exact ⟨rfl, (Below.refl _ w).alloc (Nat.le_refl _) _⟩
def YB.F : List AV0 → (List AV0 → Prop) → Prop := byPs [.nil] fun _ J => YB fun a b => J [.tv (.int .i64) a, .tv (.int .i64) b]
theorem YB.good : Go.Iv.Good Tryd.prog 22 YB.F where
 fn := ⟨_, Tryd.func22, by kernel_rfl, by kernel_rfl⟩
 det := by
  intro args J hF
  unfold YB.F byPs at hF
  split at hF
  · rename_i x hx
    have ha : args = [.nilp] := psRd_out hx
    subst ha
    refine ⟨_, hF, ?_⟩
    rintro args' J' ⟨rfl, hJ'⟩ w ok vals hg hok hlen hvals
    obtain ⟨v, hv, hrv⟩ := hvals 0 _ rfl
    have rv : v = .pointer none := hrv [] (fun _ => undef)
    have hvs : vals.toArray = #[.pointer none] := by
     match vals, hlen, hv with
     | [_], _, hv => cases hv; rw [rv]
    rw [hvs]
    refine (left_nil w).mono ?_
    rintro e W' ⟨rfl, rfl⟩
    refine ⟨_, [.int .i64 0, .int .i64 0], _, ok, hJ', rfl, Below.refl _ _, rfl, rfl, fun b hb => .inl hb, ?_, ?_⟩
    · intro i x hx
      match i, hx with
      | 0, hx => cases hx; exact ⟨_, rfl, fun _ _ => RepV.of_int⟩
      | 1, hx => cases hx; exact ⟨_, rfl, fun _ _ => RepV.of_int⟩
    · intro i e t xs u hx hu
      match i, hx with
      | 0, hx => cases hx
      | 1, hx => cases hx
  · exact hF.elim
def CC.F : List AV0 → (List AV0 → Prop) → Prop := byPs [.nil] fun _ J => CC fun r => J [.tv (.sl 29 (.arr 32 (.int .u8))) r]
theorem CC.good : Go.Iv.Good Tryd.prog 23 CC.F where
 fn := ⟨_, Tryd.func23, by kernel_rfl, by kernel_rfl⟩
 det := by
  intro args J hF
  unfold CC.F byPs at hF
  split at hF
  · rename_i x hx
    have ha : args = [.nilp] := psRd_out hx
    subst ha
    refine ⟨_, hF, ?_⟩
    rintro args' J' ⟨rfl, hJ'⟩ w ok vals hg hok hlen hvals
    obtain ⟨v, hv, hrv⟩ := hvals 0 _ rfl
    have rv : v = .pointer none := hrv [] (fun _ => undef)
    have hvs : vals.toArray = #[.pointer none] := by
     match vals, hlen, hv with
     | [_], _, hv => cases hv; rw [rv]
    rw [hvs]
    refine (keys_nil w).mono ?_
    rintro e W' ⟨rfl, hb⟩
    refine ⟨_, [.slice none 0 0], _, ok, hJ', rfl, hb, rfl, rfl, fun b hb => .inl hb, ?_, ?_⟩
    · intro i x hx
      match i, hx with
      | 0, hx => cases hx; exact ⟨_, rfl, fun _ _ => RepV.of_sl (inner := []) (Nat.le_refl _) (.inl rfl) rfl⟩
    · intro i e t xs u hx hu
      match i, hx with
      | 0, hx => cases hx
  · exact hF.elim
end Go.Iw
