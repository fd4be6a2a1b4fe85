/- Contracts proved by hand: strings.Compare. -/
import Derived.Test.YtecohedcbnfibaaDoorYBs
import Derived.Lib.Walk
import Derived.Lib.Bytealg
import Derived.Shelf.Strings.Search1
namespace Go.Iw
open Go.Iv Go.Proofs Go.RowKit Go.Shelf
set_option linter.unusedVariables false
set_option linter.unusedSimpArgs false

theorem cmpB_eq : ∀ a b : List UInt8, Lib.compareBytes a b = cmpB a b
  | [], [] => rfl
  | [], _ :: _ => rfl
  | _ :: _, [] => rfl
  | a :: ar, b :: br => by simp only [Lib.compareBytes, cmpB]; rw [cmpB_eq ar br]

set_option maxHeartbeats 1000000 in
set_option maxRecDepth 100000 in
theorem cmpString_calls (a b : ByteArray) (w : World) :
    Calls Tryd.prog 55 #[.string a, .string b] w fun e w' => e = .returned (.int .i64 (Lib.compareBytes a.data.toList b.data.toList)) ∧ w' = w := by
  have u3 := run_underlying Tryd.underlying3
  have u9 := run_underlying Tryd.underlying9
  go_enter Tryd.func55, Tryd.ntmps55
  go_wp2
  rw [run_callFunc_extern Tryd.func68 (by kernel_rfl) (by kernel_rfl) (by kernel_rfl) (e := Extern.BytealgCompare.compare) (by kernel_rfl), Lib.run_compareString]
  simp only [Result.andThen]
  rw [Oper.upon_value]
  go_wp2
  go_ret
  exact ⟨rfl, rfl⟩
set_option maxHeartbeats 1000000 in
set_option maxRecDepth 100000 in
theorem compare_calls (a b : ByteArray) (w : World) :
    Calls Tryd.prog 45 #[.string a, .string b] w fun e w' => e = .returned (.int .i64 (Lib.compareBytes a.data.toList b.data.toList)) ∧ w' = w := by
  have u3 := run_underlying Tryd.underlying3
  have u9 := run_underlying Tryd.underlying9
  have e213 : ∀ args w, (callFunc 55 args).run Tryd.prog w = .ok (.enter 55 args) w := enters_of Tryd.func55 (by kernel_rfl) rfl
  go_enter Tryd.func45, Tryd.ntmps45
  go_wp2_with (go_at_fn 55; refine (cmpString_calls _ _ _).mono ?_; rintro e w' ⟨rfl, rfl⟩)
  go_ret
  exact ⟨rfl, rfl⟩

def strings.Compare.ps : List PS := [.t .str, .t .str]
def strings.Compare.G (x : ByteArray × ByteArray × Unit) (J : List AV0 → Prop) : Prop := strings.Compare x.1 x.2.1 (fun r0 => J [.tv (.int .i64) r0])
def strings.Compare.F : List AV0 → (List AV0 → Prop) → Prop := byPs strings.Compare.ps strings.Compare.G
theorem strings.Compare.good : Go.Iv.Good Tryd.prog 45 strings.Compare.F where
  fn := ⟨_, Tryd.func45, by kernel_rfl, by kernel_rfl⟩
  det := by
    intro args J hF
    unfold strings.Compare.F byPs at hF
    split at hF
    · rename_i x hx
      obtain ⟨s1, s2, u⟩ := x
      have ha : args = [.tv .str s1, .tv .str s2] := psRd_out hx
      have hJ : J [.tv (.int .i64) (cmpB s1.data.toList s2.data.toList)] := hF
      refine ⟨_, hJ, ?_⟩
      rintro args' J' ⟨rfl, hJ'⟩ w ok vals glo hok hlen hvals
      subst ha
      obtain ⟨v1, hv1, hr1⟩ := hvals 0 _ rfl
      obtain ⟨v2, hv2, hr2⟩ := hvals 1 _ rfl
      obtain rfl : v1 = .string s1 := RepV.str (hr1 [] (fun _ => undef))
      obtain rfl : v2 = .string s2 := RepV.str (hr2 [] (fun _ => undef))
      have hvs : vals.toArray = #[.string s1, .string s2] := by
        match vals, hlen, hv1, hv2 with
        | [_, _], _, hv1, hv2 => cases hv1; cases hv2; rfl
      rw [hvs]
      refine (compare_calls s1 s2 w).mono ?_
      rintro e W' ⟨rfl, rfl⟩
      refine ⟨_, [.int .i64 (Lib.compareBytes s1.data.toList s2.data.toList)], _, fun _ => False, hJ', rfl, Below.refl _ _, rfl, rfl, fun b hb => hb.elim, ?_, ?_⟩
      · intro i x hx
        match i, hx with
        | 0, hx => cases hx; exact ⟨_, rfl, fun hp m => ⟨[_], by rw [← cmpB_eq]; rfl, by simp [Ty.isAgg]⟩⟩
      · intro i e t xs u hx hu
        match i, hx with
        | 0, hx => cases hx
    · exact hF.elim
end Go.Iw
