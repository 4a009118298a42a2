/-
  warrenref03.wrongValue at every value.
-/
import Derived.Test.YtdhaojicphhikaaTWrV2
import Derived.Test.YtdhaojicphhikaaTWrV3
import Derived.Test.YtdhaojicphhikaaTWrV4
namespace Go.Proofs.Ytdhaojicphhikaa
open Go.RowKit

theorem wrV (v : FV) (ihl : ∀ x ∈ v.list, RWV x) (iht : ∀ f ∈ v.table, RWV f.val) : RWV v := by
  by_cases hk : noKind v.kind
  · exact wrV_none v hk
  · rcases kinds v.kind hk with h | h | h | h | h | h | h | h | h | h | h | h | h
    · exact wrV_116 v h
    · exact wrV_98 v h
    · exact wrV_115 v h
    · exact wrV_73 v h
    · exact wrV_108 v h
    · exact wrV_100 v h
    · exact wrV_84 v h
    · exact wrV_68 v h
    · exact wrV_83 v h
    · exact wrV_120 v h
    · exact wrV_86 v h
    · exact wrV_65 v ihl h
    · exact wrV_70 v iht h

theorem rwv_all : ∀ (n : Nat) (v : FV), v.sz ≤ n → RWV v
  | 0, v, h => by
    have := v.sz_eq
    omega
  | n + 1, v, h => by
    have hs := v.sz_eq
    refine wrV v (fun x hx => rwv_all n x ?_) (fun f hf => rwv_all n f.val ?_)
    · have := szVs_mem _ x hx
      omega
    · have := szFs_mem _ f hf
      omega
theorem rwv (v : FV) : RWV v := rwv_all v.sz v (Nat.le_refl _)

end Go.Proofs.Ytdhaojicphhikaa
