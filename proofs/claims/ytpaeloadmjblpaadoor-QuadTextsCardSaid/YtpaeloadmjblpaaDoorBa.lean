/- Plain facts on rows of bytes. -/
import Derived.Test.YtpaeloadmjblpaaDoorKit
namespace Go.Proofs.YtpaeloadmjblpaaDoor

theorem ba_ext {a b : ByteArray} (h : a.data.toList = b.data.toList) : a = b := by
  cases a; cases b; simp only [ByteArray.mk.injEq]; exact Array.toList_inj.1 h

theorem data_append (a b : ByteArray) : (a ++ b).data.toList = a.data.toList ++ b.data.toList := by
  rw [ByteArray.data_append]; exact Array.toList_append

end Go.Proofs.YtpaeloadmjblpaaDoor
