/- Tables of the program: sizes, zeros, bytes of its types. Printed by a small program of this session. -/
import Derived.Test.YtmlcfgojoglelaaProg
import Derived.Test.YtmlcfgojoglelaaAwSound
import Derived.KernelRfl
set_option maxRecDepth 100000
namespace Go.Proofs.Ytmlcfgojoglelaa
open Go Go.AW Go.Proofs
@[go_sem] theorem sz1 : szA Try.prog 1 = some 1 := by kernel_rfl
@[go_sem] theorem zr1 : zeroA Try.prog 1 = some (.nilFunc) := by kernel_rfl
@[go_sem] theorem by1 : bytesA Try.prog 1 = some 8 := by kernel_rfl
@[go_sem] theorem ag1 : aggA Try.prog 1 = some false := by kernel_rfl
@[go_sem] theorem sz2 : szA Try.prog 2 = some 1 := by kernel_rfl
@[go_sem] theorem zr2 : zeroA Try.prog 2 = some (.int .i64 0) := by kernel_rfl
@[go_sem] theorem by2 : bytesA Try.prog 2 = some 8 := by kernel_rfl
@[go_sem] theorem ag2 : aggA Try.prog 2 = some false := by kernel_rfl
@[go_sem] theorem sz3 : szA Try.prog 3 = some 1 := by kernel_rfl
@[go_sem] theorem zr3 : zeroA Try.prog 3 = some (.int .i64 0) := by kernel_rfl
@[go_sem] theorem by3 : bytesA Try.prog 3 = some 8 := by kernel_rfl
@[go_sem] theorem ag3 : aggA Try.prog 3 = some false := by kernel_rfl
@[go_sem] theorem sz4 : szA Try.prog 4 = some 1 := by kernel_rfl
@[go_sem] theorem zr4 : zeroA Try.prog 4 = some (.bool false) := by kernel_rfl
@[go_sem] theorem by4 : bytesA Try.prog 4 = some 1 := by kernel_rfl
@[go_sem] theorem ag4 : aggA Try.prog 4 = some false := by kernel_rfl
@[go_sem] theorem sz5 : szA Try.prog 5 = some 1 := by kernel_rfl
@[go_sem] theorem zr5 : zeroA Try.prog 5 = some (.int .u8 0) := by kernel_rfl
@[go_sem] theorem by5 : bytesA Try.prog 5 = some 1 := by kernel_rfl
@[go_sem] theorem ag5 : aggA Try.prog 5 = some false := by kernel_rfl
@[go_sem] theorem sz6 : szA Try.prog 6 = some 1 := by kernel_rfl
@[go_sem] theorem zr6 : zeroA Try.prog 6 = some (.int .u8 0) := by kernel_rfl
@[go_sem] theorem by6 : bytesA Try.prog 6 = some 1 := by kernel_rfl
@[go_sem] theorem ag6 : aggA Try.prog 6 = some false := by kernel_rfl
@[go_sem] theorem sz7 : szA Try.prog 7 = some 4 := by kernel_rfl
@[go_sem] theorem zr7 : zeroA Try.prog 7 = some (.agg #[.int .i64 0, .int .i64 0, .bool false, .int .u8 0]) := by kernel_rfl
@[go_sem] theorem by7 : bytesA Try.prog 7 = some 24 := by kernel_rfl
@[go_sem] theorem ag7 : aggA Try.prog 7 = some true := by kernel_rfl
@[go_sem] theorem sz8 : szA Try.prog 8 = some 4 := by kernel_rfl
@[go_sem] theorem zr8 : zeroA Try.prog 8 = some (.agg #[.int .i64 0, .int .i64 0, .bool false, .int .u8 0]) := by kernel_rfl
@[go_sem] theorem by8 : bytesA Try.prog 8 = some 24 := by kernel_rfl
@[go_sem] theorem ag8 : aggA Try.prog 8 = some true := by kernel_rfl
@[go_sem] theorem sz9 : szA Try.prog 9 = some 1 := by kernel_rfl
@[go_sem] theorem zr9 : zeroA Try.prog 9 = some (.string ⟨#[]⟩) := by kernel_rfl
@[go_sem] theorem by9 : bytesA Try.prog 9 = some 16 := by kernel_rfl
@[go_sem] theorem ag9 : aggA Try.prog 9 = some false := by kernel_rfl
@[go_sem] theorem sz10 : szA Try.prog 10 = some 1 := by kernel_rfl
@[go_sem] theorem zr10 : zeroA Try.prog 10 = some (.string ⟨#[]⟩) := by kernel_rfl
@[go_sem] theorem by10 : bytesA Try.prog 10 = some 16 := by kernel_rfl
@[go_sem] theorem ag10 : aggA Try.prog 10 = some false := by kernel_rfl
@[go_sem] theorem sz11 : szA Try.prog 11 = some 1 := by kernel_rfl
@[go_sem] theorem zr11 : zeroA Try.prog 11 = some (.string ⟨#[]⟩) := by kernel_rfl
@[go_sem] theorem by11 : bytesA Try.prog 11 = some 16 := by kernel_rfl
@[go_sem] theorem ag11 : aggA Try.prog 11 = some false := by kernel_rfl
@[go_sem] theorem sz12 : szA Try.prog 12 = some 1 := by kernel_rfl
@[go_sem] theorem zr12 : zeroA Try.prog 12 = some (.int .u64 0) := by kernel_rfl
@[go_sem] theorem by12 : bytesA Try.prog 12 = some 8 := by kernel_rfl
@[go_sem] theorem ag12 : aggA Try.prog 12 = some false := by kernel_rfl
@[go_sem] theorem sz13 : szA Try.prog 13 = some 2 := by kernel_rfl
@[go_sem] theorem zr13 : zeroA Try.prog 13 = some (.agg #[.string ⟨#[]⟩, .int .u64 0]) := by kernel_rfl
@[go_sem] theorem by13 : bytesA Try.prog 13 = some 24 := by kernel_rfl
@[go_sem] theorem ag13 : aggA Try.prog 13 = some true := by kernel_rfl
@[go_sem] theorem sz14 : szA Try.prog 14 = some 2 := by kernel_rfl
@[go_sem] theorem zr14 : zeroA Try.prog 14 = some (.agg #[.string ⟨#[]⟩, .int .u64 0]) := by kernel_rfl
@[go_sem] theorem by14 : bytesA Try.prog 14 = some 24 := by kernel_rfl
@[go_sem] theorem ag14 : aggA Try.prog 14 = some true := by kernel_rfl
@[go_sem] theorem sz15 : szA Try.prog 15 = some 1 := by kernel_rfl
@[go_sem] theorem zr15 : zeroA Try.prog 15 = some (.pointer none) := by kernel_rfl
@[go_sem] theorem by15 : bytesA Try.prog 15 = some 8 := by kernel_rfl
@[go_sem] theorem ag15 : aggA Try.prog 15 = some false := by kernel_rfl
@[go_sem] theorem sz16 : szA Try.prog 16 = some 1 := by kernel_rfl
@[go_sem] theorem zr16 : zeroA Try.prog 16 = some (.pointer none) := by kernel_rfl
@[go_sem] theorem by16 : bytesA Try.prog 16 = some 8 := by kernel_rfl
@[go_sem] theorem ag16 : aggA Try.prog 16 = some false := by kernel_rfl
@[go_sem] theorem sz17 : szA Try.prog 17 = some 1 := by kernel_rfl
@[go_sem] theorem zr17 : zeroA Try.prog 17 = some (.pointer none) := by kernel_rfl
@[go_sem] theorem by17 : bytesA Try.prog 17 = some 8 := by kernel_rfl
@[go_sem] theorem ag17 : aggA Try.prog 17 = some false := by kernel_rfl
@[go_sem] theorem sz18 : szA Try.prog 18 = some 1 := by kernel_rfl
@[go_sem] theorem zr18 : zeroA Try.prog 18 = some (.agg #[.pointer none]) := by kernel_rfl
@[go_sem] theorem by18 : bytesA Try.prog 18 = some 8 := by kernel_rfl
@[go_sem] theorem ag18 : aggA Try.prog 18 = some true := by kernel_rfl
@[go_sem] theorem sz19 : szA Try.prog 19 = some 1 := by kernel_rfl
@[go_sem] theorem zr19 : zeroA Try.prog 19 = some (.agg #[.pointer none]) := by kernel_rfl
@[go_sem] theorem by19 : bytesA Try.prog 19 = some 8 := by kernel_rfl
@[go_sem] theorem ag19 : aggA Try.prog 19 = some true := by kernel_rfl
@[go_sem] theorem sz20 : szA Try.prog 20 = some 1 := by kernel_rfl
@[go_sem] theorem zr20 : zeroA Try.prog 20 = some (.nilIface) := by kernel_rfl
@[go_sem] theorem by20 : bytesA Try.prog 20 = some 16 := by kernel_rfl
@[go_sem] theorem ag20 : aggA Try.prog 20 = some false := by kernel_rfl
@[go_sem] theorem sz21 : szA Try.prog 21 = some 1 := by kernel_rfl
@[go_sem] theorem zr21 : zeroA Try.prog 21 = some (.int .i32 0) := by kernel_rfl
@[go_sem] theorem by21 : bytesA Try.prog 21 = some 4 := by kernel_rfl
@[go_sem] theorem ag21 : aggA Try.prog 21 = some false := by kernel_rfl
@[go_sem] theorem sz22 : szA Try.prog 22 = some 1 := by kernel_rfl
@[go_sem] theorem zr22 : zeroA Try.prog 22 = some (.slice none 0 0) := by kernel_rfl
@[go_sem] theorem by22 : bytesA Try.prog 22 = some 24 := by kernel_rfl
@[go_sem] theorem ag22 : aggA Try.prog 22 = some false := by kernel_rfl
@[go_sem] theorem sz23 : szA Try.prog 23 = some 1 := by kernel_rfl
@[go_sem] theorem zr23 : zeroA Try.prog 23 = some (.nilFunc) := by kernel_rfl
@[go_sem] theorem by23 : bytesA Try.prog 23 = some 8 := by kernel_rfl
@[go_sem] theorem ag23 : aggA Try.prog 23 = some false := by kernel_rfl
@[go_sem] theorem sz24 : szA Try.prog 24 = some 1 := by kernel_rfl
@[go_sem] theorem zr24 : zeroA Try.prog 24 = some (.int .i64 0) := by kernel_rfl
@[go_sem] theorem by24 : bytesA Try.prog 24 = some 8 := by kernel_rfl
@[go_sem] theorem ag24 : aggA Try.prog 24 = some false := by kernel_rfl
@[go_sem] theorem sz26 : szA Try.prog 26 = some 1 := by kernel_rfl
@[go_sem] theorem zr26 : zeroA Try.prog 26 = some (.nilFunc) := by kernel_rfl
@[go_sem] theorem by26 : bytesA Try.prog 26 = some 8 := by kernel_rfl
@[go_sem] theorem ag26 : aggA Try.prog 26 = some false := by kernel_rfl
@[go_sem] theorem sz27 : szA Try.prog 27 = some 1 := by kernel_rfl
@[go_sem] theorem zr27 : zeroA Try.prog 27 = some (.nilFunc) := by kernel_rfl
@[go_sem] theorem by27 : bytesA Try.prog 27 = some 8 := by kernel_rfl
@[go_sem] theorem ag27 : aggA Try.prog 27 = some false := by kernel_rfl
@[go_sem] theorem sz29 : szA Try.prog 29 = some 1 := by kernel_rfl
@[go_sem] theorem zr29 : zeroA Try.prog 29 = some (.nilFunc) := by kernel_rfl
@[go_sem] theorem by29 : bytesA Try.prog 29 = some 8 := by kernel_rfl
@[go_sem] theorem ag29 : aggA Try.prog 29 = some false := by kernel_rfl
@[go_sem] theorem sz30 : szA Try.prog 30 = some 1 := by kernel_rfl
@[go_sem] theorem zr30 : zeroA Try.prog 30 = some (.nilFunc) := by kernel_rfl
@[go_sem] theorem by30 : bytesA Try.prog 30 = some 8 := by kernel_rfl
@[go_sem] theorem ag30 : aggA Try.prog 30 = some false := by kernel_rfl
@[go_sem] theorem sz31 : szA Try.prog 31 = some 1 := by kernel_rfl
@[go_sem] theorem zr31 : zeroA Try.prog 31 = some (.nilFunc) := by kernel_rfl
@[go_sem] theorem by31 : bytesA Try.prog 31 = some 8 := by kernel_rfl
@[go_sem] theorem ag31 : aggA Try.prog 31 = some false := by kernel_rfl
@[go_sem] theorem sz32 : szA Try.prog 32 = some 1 := by kernel_rfl
@[go_sem] theorem zr32 : zeroA Try.prog 32 = some (.nilFunc) := by kernel_rfl
@[go_sem] theorem by32 : bytesA Try.prog 32 = some 8 := by kernel_rfl
@[go_sem] theorem ag32 : aggA Try.prog 32 = some false := by kernel_rfl
@[go_sem] theorem sz33 : szA Try.prog 33 = some 1 := by kernel_rfl
@[go_sem] theorem zr33 : zeroA Try.prog 33 = some (.nilFunc) := by kernel_rfl
@[go_sem] theorem by33 : bytesA Try.prog 33 = some 8 := by kernel_rfl
@[go_sem] theorem ag33 : aggA Try.prog 33 = some false := by kernel_rfl
@[go_sem] theorem sz34 : szA Try.prog 34 = some 1 := by kernel_rfl
@[go_sem] theorem zr34 : zeroA Try.prog 34 = some (.nilFunc) := by kernel_rfl
@[go_sem] theorem by34 : bytesA Try.prog 34 = some 8 := by kernel_rfl
@[go_sem] theorem ag34 : aggA Try.prog 34 = some false := by kernel_rfl
@[go_sem] theorem sz35 : szA Try.prog 35 = some 4 := by kernel_rfl
@[go_sem] theorem zr35 : zeroA Try.prog 35 = some (.agg #[.int .i64 0, .int .i64 0, .int .i64 0, .int .i64 0]) := by kernel_rfl
@[go_sem] theorem by35 : bytesA Try.prog 35 = some 32 := by kernel_rfl
@[go_sem] theorem ag35 : aggA Try.prog 35 = some true := by kernel_rfl
@[go_sem] theorem sz36 : szA Try.prog 36 = some 4 := by kernel_rfl
@[go_sem] theorem zr36 : zeroA Try.prog 36 = some (.agg #[.int .i64 0, .int .i64 0, .int .i64 0, .int .i64 0]) := by kernel_rfl
@[go_sem] theorem by36 : bytesA Try.prog 36 = some 32 := by kernel_rfl
@[go_sem] theorem ag36 : aggA Try.prog 36 = some true := by kernel_rfl
@[go_sem] theorem sz37 : szA Try.prog 37 = some 1 := by kernel_rfl
@[go_sem] theorem zr37 : zeroA Try.prog 37 = some (.slice none 0 0) := by kernel_rfl
@[go_sem] theorem by37 : bytesA Try.prog 37 = some 24 := by kernel_rfl
@[go_sem] theorem ag37 : aggA Try.prog 37 = some false := by kernel_rfl
@[go_sem] theorem sz39 : szA Try.prog 39 = some 1 := by kernel_rfl
@[go_sem] theorem zr39 : zeroA Try.prog 39 = some (.nilFunc) := by kernel_rfl
@[go_sem] theorem by39 : bytesA Try.prog 39 = some 8 := by kernel_rfl
@[go_sem] theorem ag39 : aggA Try.prog 39 = some false := by kernel_rfl
@[go_sem] theorem sz40 : szA Try.prog 40 = some 1 := by kernel_rfl
@[go_sem] theorem zr40 : zeroA Try.prog 40 = some (.nilFunc) := by kernel_rfl
@[go_sem] theorem by40 : bytesA Try.prog 40 = some 8 := by kernel_rfl
@[go_sem] theorem ag40 : aggA Try.prog 40 = some false := by kernel_rfl
@[go_sem] theorem sz41 : szA Try.prog 41 = some 1 := by kernel_rfl
@[go_sem] theorem zr41 : zeroA Try.prog 41 = some (.nilFunc) := by kernel_rfl
@[go_sem] theorem by41 : bytesA Try.prog 41 = some 8 := by kernel_rfl
@[go_sem] theorem ag41 : aggA Try.prog 41 = some false := by kernel_rfl
@[go_sem] theorem sz42 : szA Try.prog 42 = some 1 := by kernel_rfl
@[go_sem] theorem zr42 : zeroA Try.prog 42 = some (.nilFunc) := by kernel_rfl
@[go_sem] theorem by42 : bytesA Try.prog 42 = some 8 := by kernel_rfl
@[go_sem] theorem ag42 : aggA Try.prog 42 = some false := by kernel_rfl
@[go_sem] theorem sz43 : szA Try.prog 43 = some 1 := by kernel_rfl
@[go_sem] theorem zr43 : zeroA Try.prog 43 = some (.nilFunc) := by kernel_rfl
@[go_sem] theorem by43 : bytesA Try.prog 43 = some 8 := by kernel_rfl
@[go_sem] theorem ag43 : aggA Try.prog 43 = some false := by kernel_rfl
@[go_sem] theorem sz44 : szA Try.prog 44 = some 1 := by kernel_rfl
@[go_sem] theorem zr44 : zeroA Try.prog 44 = some (.nilFunc) := by kernel_rfl
@[go_sem] theorem by44 : bytesA Try.prog 44 = some 8 := by kernel_rfl
@[go_sem] theorem ag44 : aggA Try.prog 44 = some false := by kernel_rfl
@[go_sem] theorem sz45 : szA Try.prog 45 = some 1 := by kernel_rfl
@[go_sem] theorem zr45 : zeroA Try.prog 45 = some (.nilFunc) := by kernel_rfl
@[go_sem] theorem by45 : bytesA Try.prog 45 = some 8 := by kernel_rfl
@[go_sem] theorem ag45 : aggA Try.prog 45 = some false := by kernel_rfl
@[go_sem] theorem sz46 : szA Try.prog 46 = some 1 := by kernel_rfl
@[go_sem] theorem zr46 : zeroA Try.prog 46 = some (.nilFunc) := by kernel_rfl
@[go_sem] theorem by46 : bytesA Try.prog 46 = some 8 := by kernel_rfl
@[go_sem] theorem ag46 : aggA Try.prog 46 = some false := by kernel_rfl
@[go_sem] theorem sz47 : szA Try.prog 47 = some 1 := by kernel_rfl
@[go_sem] theorem zr47 : zeroA Try.prog 47 = some (.nilFunc) := by kernel_rfl
@[go_sem] theorem by47 : bytesA Try.prog 47 = some 8 := by kernel_rfl
@[go_sem] theorem ag47 : aggA Try.prog 47 = some false := by kernel_rfl
@[go_sem] theorem sz48 : szA Try.prog 48 = some 1 := by kernel_rfl
@[go_sem] theorem zr48 : zeroA Try.prog 48 = some (.pointer none) := by kernel_rfl
@[go_sem] theorem by48 : bytesA Try.prog 48 = some 8 := by kernel_rfl
@[go_sem] theorem ag48 : aggA Try.prog 48 = some false := by kernel_rfl
@[go_sem] theorem sz49 : szA Try.prog 49 = some 1 := by kernel_rfl
@[go_sem] theorem zr49 : zeroA Try.prog 49 = some (.slice none 0 0) := by kernel_rfl
@[go_sem] theorem by49 : bytesA Try.prog 49 = some 24 := by kernel_rfl
@[go_sem] theorem ag49 : aggA Try.prog 49 = some false := by kernel_rfl
@[go_sem] theorem sz50 : szA Try.prog 50 = some 2 := by kernel_rfl
@[go_sem] theorem zr50 : zeroA Try.prog 50 = some (.agg #[.pointer none, .slice none 0 0]) := by kernel_rfl
@[go_sem] theorem by50 : bytesA Try.prog 50 = some 32 := by kernel_rfl
@[go_sem] theorem ag50 : aggA Try.prog 50 = some true := by kernel_rfl
@[go_sem] theorem sz51 : szA Try.prog 51 = some 2 := by kernel_rfl
@[go_sem] theorem zr51 : zeroA Try.prog 51 = some (.agg #[.pointer none, .slice none 0 0]) := by kernel_rfl
@[go_sem] theorem by51 : bytesA Try.prog 51 = some 32 := by kernel_rfl
@[go_sem] theorem ag51 : aggA Try.prog 51 = some true := by kernel_rfl
@[go_sem] theorem sz52 : szA Try.prog 52 = some 1 := by kernel_rfl
@[go_sem] theorem zr52 : zeroA Try.prog 52 = some (.nilFunc) := by kernel_rfl
@[go_sem] theorem by52 : bytesA Try.prog 52 = some 8 := by kernel_rfl
@[go_sem] theorem ag52 : aggA Try.prog 52 = some false := by kernel_rfl
@[go_sem] theorem sz53 : szA Try.prog 53 = some 1 := by kernel_rfl
@[go_sem] theorem zr53 : zeroA Try.prog 53 = some (.nilIface) := by kernel_rfl
@[go_sem] theorem by53 : bytesA Try.prog 53 = some 16 := by kernel_rfl
@[go_sem] theorem ag53 : aggA Try.prog 53 = some false := by kernel_rfl
@[go_sem] theorem sz54 : szA Try.prog 54 = some 1 := by kernel_rfl
@[go_sem] theorem zr54 : zeroA Try.prog 54 = some (.nilIface) := by kernel_rfl
@[go_sem] theorem by54 : bytesA Try.prog 54 = some 16 := by kernel_rfl
@[go_sem] theorem ag54 : aggA Try.prog 54 = some false := by kernel_rfl
@[go_sem] theorem sz56 : szA Try.prog 56 = some 1 := by kernel_rfl
@[go_sem] theorem zr56 : zeroA Try.prog 56 = some (.nilFunc) := by kernel_rfl
@[go_sem] theorem by56 : bytesA Try.prog 56 = some 8 := by kernel_rfl
@[go_sem] theorem ag56 : aggA Try.prog 56 = some false := by kernel_rfl
@[go_sem] theorem sz57 : szA Try.prog 57 = some 1 := by kernel_rfl
@[go_sem] theorem zr57 : zeroA Try.prog 57 = some (.nilFunc) := by kernel_rfl
@[go_sem] theorem by57 : bytesA Try.prog 57 = some 8 := by kernel_rfl
@[go_sem] theorem ag57 : aggA Try.prog 57 = some false := by kernel_rfl
@[go_sem] theorem sz58 : szA Try.prog 58 = some 1 := by kernel_rfl
@[go_sem] theorem zr58 : zeroA Try.prog 58 = some (.nilFunc) := by kernel_rfl
@[go_sem] theorem by58 : bytesA Try.prog 58 = some 8 := by kernel_rfl
@[go_sem] theorem ag58 : aggA Try.prog 58 = some false := by kernel_rfl
@[go_sem] theorem sz59 : szA Try.prog 59 = some 1 := by kernel_rfl
@[go_sem] theorem zr59 : zeroA Try.prog 59 = some (.nilFunc) := by kernel_rfl
@[go_sem] theorem by59 : bytesA Try.prog 59 = some 8 := by kernel_rfl
@[go_sem] theorem ag59 : aggA Try.prog 59 = some false := by kernel_rfl
@[go_sem] theorem sz60 : szA Try.prog 60 = some 1 := by kernel_rfl
@[go_sem] theorem zr60 : zeroA Try.prog 60 = some (.nilFunc) := by kernel_rfl
@[go_sem] theorem by60 : bytesA Try.prog 60 = some 8 := by kernel_rfl
@[go_sem] theorem ag60 : aggA Try.prog 60 = some false := by kernel_rfl
@[go_sem] theorem sz61 : szA Try.prog 61 = some 1 := by kernel_rfl
@[go_sem] theorem zr61 : zeroA Try.prog 61 = some (.pointer none) := by kernel_rfl
@[go_sem] theorem by61 : bytesA Try.prog 61 = some 8 := by kernel_rfl
@[go_sem] theorem ag61 : aggA Try.prog 61 = some false := by kernel_rfl
@[go_sem] theorem sz62 : szA Try.prog 62 = some 1 := by kernel_rfl
@[go_sem] theorem zr62 : zeroA Try.prog 62 = some (.agg #[.string ⟨#[]⟩]) := by kernel_rfl
@[go_sem] theorem by62 : bytesA Try.prog 62 = some 16 := by kernel_rfl
@[go_sem] theorem ag62 : aggA Try.prog 62 = some true := by kernel_rfl
@[go_sem] theorem sz63 : szA Try.prog 63 = some 1 := by kernel_rfl
@[go_sem] theorem zr63 : zeroA Try.prog 63 = some (.agg #[.string ⟨#[]⟩]) := by kernel_rfl
@[go_sem] theorem by63 : bytesA Try.prog 63 = some 16 := by kernel_rfl
@[go_sem] theorem ag63 : aggA Try.prog 63 = some true := by kernel_rfl
@[go_sem] theorem sz64 : szA Try.prog 64 = some 1 := by kernel_rfl
@[go_sem] theorem zr64 : zeroA Try.prog 64 = some (.nilFunc) := by kernel_rfl
@[go_sem] theorem by64 : bytesA Try.prog 64 = some 8 := by kernel_rfl
@[go_sem] theorem ag64 : aggA Try.prog 64 = some false := by kernel_rfl
@[go_sem] theorem sz65 : szA Try.prog 65 = some 1 := by kernel_rfl
@[go_sem] theorem zr65 : zeroA Try.prog 65 = some (.int .u64 0) := by kernel_rfl
@[go_sem] theorem by65 : bytesA Try.prog 65 = some 8 := by kernel_rfl
@[go_sem] theorem ag65 : aggA Try.prog 65 = some false := by kernel_rfl
@[go_sem] theorem sz67 : szA Try.prog 67 = some 1 := by kernel_rfl
@[go_sem] theorem zr67 : zeroA Try.prog 67 = some (.nilFunc) := by kernel_rfl
@[go_sem] theorem by67 : bytesA Try.prog 67 = some 8 := by kernel_rfl
@[go_sem] theorem ag67 : aggA Try.prog 67 = some false := by kernel_rfl
@[go_sem] theorem sz68 : szA Try.prog 68 = some 1 := by kernel_rfl
@[go_sem] theorem zr68 : zeroA Try.prog 68 = some (.nilFunc) := by kernel_rfl
@[go_sem] theorem by68 : bytesA Try.prog 68 = some 8 := by kernel_rfl
@[go_sem] theorem ag68 : aggA Try.prog 68 = some false := by kernel_rfl
@[go_sem] theorem sz69 : szA Try.prog 69 = some 1 := by kernel_rfl
@[go_sem] theorem zr69 : zeroA Try.prog 69 = some (.nilFunc) := by kernel_rfl
@[go_sem] theorem by69 : bytesA Try.prog 69 = some 8 := by kernel_rfl
@[go_sem] theorem ag69 : aggA Try.prog 69 = some false := by kernel_rfl
@[go_sem] theorem sz70 : szA Try.prog 70 = some 4 := by kernel_rfl
@[go_sem] theorem zr70 : zeroA Try.prog 70 = some (.agg #[.int .i64 0, .int .i64 0, .int .i64 0, .int .i64 0]) := by kernel_rfl
@[go_sem] theorem by70 : bytesA Try.prog 70 = some 32 := by kernel_rfl
@[go_sem] theorem ag70 : aggA Try.prog 70 = some true := by kernel_rfl
@[go_sem] theorem sz71 : szA Try.prog 71 = some 1 := by kernel_rfl
@[go_sem] theorem zr71 : zeroA Try.prog 71 = some (.nilFunc) := by kernel_rfl
@[go_sem] theorem by71 : bytesA Try.prog 71 = some 8 := by kernel_rfl
@[go_sem] theorem ag71 : aggA Try.prog 71 = some false := by kernel_rfl
@[go_sem] theorem sz72 : szA Try.prog 72 = some 1 := by kernel_rfl
@[go_sem] theorem zr72 : zeroA Try.prog 72 = some (.nilFunc) := by kernel_rfl
@[go_sem] theorem by72 : bytesA Try.prog 72 = some 8 := by kernel_rfl
@[go_sem] theorem ag72 : aggA Try.prog 72 = some false := by kernel_rfl
@[go_sem] theorem sz73 : szA Try.prog 73 = some 1 := by kernel_rfl
@[go_sem] theorem zr73 : zeroA Try.prog 73 = some (.nilFunc) := by kernel_rfl
@[go_sem] theorem by73 : bytesA Try.prog 73 = some 8 := by kernel_rfl
@[go_sem] theorem ag73 : aggA Try.prog 73 = some false := by kernel_rfl
@[go_sem] theorem sz74 : szA Try.prog 74 = some 1 := by kernel_rfl
@[go_sem] theorem zr74 : zeroA Try.prog 74 = some (.pointer none) := by kernel_rfl
@[go_sem] theorem by74 : bytesA Try.prog 74 = some 8 := by kernel_rfl
@[go_sem] theorem ag74 : aggA Try.prog 74 = some false := by kernel_rfl
@[go_sem] theorem sz76 : szA Try.prog 76 = some 1 := by kernel_rfl
@[go_sem] theorem zr76 : zeroA Try.prog 76 = some (.nilFunc) := by kernel_rfl
@[go_sem] theorem by76 : bytesA Try.prog 76 = some 8 := by kernel_rfl
@[go_sem] theorem ag76 : aggA Try.prog 76 = some false := by kernel_rfl
@[go_sem] theorem sz77 : szA Try.prog 77 = some 1 := by kernel_rfl
@[go_sem] theorem zr77 : zeroA Try.prog 77 = some (.nilFunc) := by kernel_rfl
@[go_sem] theorem by77 : bytesA Try.prog 77 = some 8 := by kernel_rfl
@[go_sem] theorem ag77 : aggA Try.prog 77 = some false := by kernel_rfl
@[go_sem] theorem sz78 : szA Try.prog 78 = some 1 := by kernel_rfl
@[go_sem] theorem zr78 : zeroA Try.prog 78 = some (.int .u32 0) := by kernel_rfl
@[go_sem] theorem by78 : bytesA Try.prog 78 = some 4 := by kernel_rfl
@[go_sem] theorem ag78 : aggA Try.prog 78 = some false := by kernel_rfl
@[go_sem] theorem sz80 : szA Try.prog 80 = some 1 := by kernel_rfl
@[go_sem] theorem zr80 : zeroA Try.prog 80 = some (.nilFunc) := by kernel_rfl
@[go_sem] theorem by80 : bytesA Try.prog 80 = some 8 := by kernel_rfl
@[go_sem] theorem ag80 : aggA Try.prog 80 = some false := by kernel_rfl
@[go_sem] theorem sz81 : szA Try.prog 81 = some 1 := by kernel_rfl
@[go_sem] theorem zr81 : zeroA Try.prog 81 = some (.int .u64 0) := by kernel_rfl
@[go_sem] theorem by81 : bytesA Try.prog 81 = some 8 := by kernel_rfl
@[go_sem] theorem ag81 : aggA Try.prog 81 = some false := by kernel_rfl
@[go_sem] theorem sz83 : szA Try.prog 83 = some 1 := by kernel_rfl
@[go_sem] theorem zr83 : zeroA Try.prog 83 = some (.nilFunc) := by kernel_rfl
@[go_sem] theorem by83 : bytesA Try.prog 83 = some 8 := by kernel_rfl
@[go_sem] theorem ag83 : aggA Try.prog 83 = some false := by kernel_rfl
@[go_sem] theorem sz84 : szA Try.prog 84 = some 1 := by kernel_rfl
@[go_sem] theorem zr84 : zeroA Try.prog 84 = some (.nilFunc) := by kernel_rfl
@[go_sem] theorem by84 : bytesA Try.prog 84 = some 8 := by kernel_rfl
@[go_sem] theorem ag84 : aggA Try.prog 84 = some false := by kernel_rfl
@[go_sem] theorem sz85 : szA Try.prog 85 = some 1 := by kernel_rfl
@[go_sem] theorem zr85 : zeroA Try.prog 85 = some (.pointer none) := by kernel_rfl
@[go_sem] theorem by85 : bytesA Try.prog 85 = some 8 := by kernel_rfl
@[go_sem] theorem ag85 : aggA Try.prog 85 = some false := by kernel_rfl
@[go_sem] theorem sz86 : szA Try.prog 86 = some 1 := by kernel_rfl
@[go_sem] theorem zr86 : zeroA Try.prog 86 = some (.nilFunc) := by kernel_rfl
@[go_sem] theorem by86 : bytesA Try.prog 86 = some 8 := by kernel_rfl
@[go_sem] theorem ag86 : aggA Try.prog 86 = some false := by kernel_rfl
@[go_sem] theorem sz87 : szA Try.prog 87 = some 1 := by kernel_rfl
@[go_sem] theorem zr87 : zeroA Try.prog 87 = some (.nilFunc) := by kernel_rfl
@[go_sem] theorem by87 : bytesA Try.prog 87 = some 8 := by kernel_rfl
@[go_sem] theorem ag87 : aggA Try.prog 87 = some false := by kernel_rfl
@[go_sem] theorem sz88 : szA Try.prog 88 = some 4 := by kernel_rfl
@[go_sem] theorem zr88 : zeroA Try.prog 88 = some (.agg #[.pointer none, .pointer none, .pointer none, .string ⟨#[]⟩]) := by kernel_rfl
@[go_sem] theorem by88 : bytesA Try.prog 88 = some 40 := by kernel_rfl
@[go_sem] theorem ag88 : aggA Try.prog 88 = some true := by kernel_rfl
@[go_sem] theorem sz89 : szA Try.prog 89 = some 4 := by kernel_rfl
@[go_sem] theorem zr89 : zeroA Try.prog 89 = some (.agg #[.pointer none, .pointer none, .pointer none, .string ⟨#[]⟩]) := by kernel_rfl
@[go_sem] theorem by89 : bytesA Try.prog 89 = some 40 := by kernel_rfl
@[go_sem] theorem ag89 : aggA Try.prog 89 = some true := by kernel_rfl
@[go_sem] theorem sz90 : szA Try.prog 90 = some 0 := by kernel_rfl
@[go_sem] theorem zr90 : zeroA Try.prog 90 = some (.agg #[]) := by kernel_rfl
@[go_sem] theorem by90 : bytesA Try.prog 90 = some 0 := by kernel_rfl
@[go_sem] theorem ag90 : aggA Try.prog 90 = some true := by kernel_rfl
@[go_sem] theorem sz91 : szA Try.prog 91 = some 0 := by kernel_rfl
@[go_sem] theorem zr91 : zeroA Try.prog 91 = some (.agg #[]) := by kernel_rfl
@[go_sem] theorem by91 : bytesA Try.prog 91 = some 0 := by kernel_rfl
@[go_sem] theorem ag91 : aggA Try.prog 91 = some true := by kernel_rfl
@[go_sem] theorem sz92 : szA Try.prog 92 = some 0 := by kernel_rfl
@[go_sem] theorem zr92 : zeroA Try.prog 92 = some (.agg #[]) := by kernel_rfl
@[go_sem] theorem by92 : bytesA Try.prog 92 = some 0 := by kernel_rfl
@[go_sem] theorem ag92 : aggA Try.prog 92 = some true := by kernel_rfl
@[go_sem] theorem sz93 : szA Try.prog 93 = some 1 := by kernel_rfl
@[go_sem] theorem zr93 : zeroA Try.prog 93 = some (.nilFunc) := by kernel_rfl
@[go_sem] theorem by93 : bytesA Try.prog 93 = some 8 := by kernel_rfl
@[go_sem] theorem ag93 : aggA Try.prog 93 = some false := by kernel_rfl
@[go_sem] theorem sz94 : szA Try.prog 94 = some 1 := by kernel_rfl
@[go_sem] theorem zr94 : zeroA Try.prog 94 = some (.int .u8 0) := by kernel_rfl
@[go_sem] theorem by94 : bytesA Try.prog 94 = some 1 := by kernel_rfl
@[go_sem] theorem ag94 : aggA Try.prog 94 = some false := by kernel_rfl
@[go_sem] theorem sz95 : szA Try.prog 95 = some 1 := by kernel_rfl
@[go_sem] theorem zr95 : zeroA Try.prog 95 = some (.int .u8 0) := by kernel_rfl
@[go_sem] theorem by95 : bytesA Try.prog 95 = some 1 := by kernel_rfl
@[go_sem] theorem ag95 : aggA Try.prog 95 = some false := by kernel_rfl
@[go_sem] theorem sz96 : szA Try.prog 96 = some 1 := by kernel_rfl
@[go_sem] theorem zr96 : zeroA Try.prog 96 = some (.nilFunc) := by kernel_rfl
@[go_sem] theorem by96 : bytesA Try.prog 96 = some 8 := by kernel_rfl
@[go_sem] theorem ag96 : aggA Try.prog 96 = some false := by kernel_rfl
@[go_sem] theorem sz97 : szA Try.prog 97 = some 1 := by kernel_rfl
@[go_sem] theorem zr97 : zeroA Try.prog 97 = some (.int .i32 0) := by kernel_rfl
@[go_sem] theorem by97 : bytesA Try.prog 97 = some 4 := by kernel_rfl
@[go_sem] theorem ag97 : aggA Try.prog 97 = some false := by kernel_rfl
@[go_sem] theorem sz98 : szA Try.prog 98 = some 1 := by kernel_rfl
@[go_sem] theorem zr98 : zeroA Try.prog 98 = some (.int .i32 0) := by kernel_rfl
@[go_sem] theorem by98 : bytesA Try.prog 98 = some 4 := by kernel_rfl
@[go_sem] theorem ag98 : aggA Try.prog 98 = some false := by kernel_rfl
@[go_sem] theorem sz99 : szA Try.prog 99 = some 11 := by kernel_rfl
@[go_sem] theorem zr99 : zeroA Try.prog 99 = some (.agg #[.int .u64 0, .int .u64 0, .int .u32 0, .int .u8 0, .int .u8 0, .int .u8 0, .int .u8 0, .nilFunc, .pointer none, .int .i32 0, .int .i32 0]) := by kernel_rfl
@[go_sem] theorem by99 : bytesA Try.prog 99 = some 48 := by kernel_rfl
@[go_sem] theorem ag99 : aggA Try.prog 99 = some true := by kernel_rfl
@[go_sem] theorem sz100 : szA Try.prog 100 = some 11 := by kernel_rfl
@[go_sem] theorem zr100 : zeroA Try.prog 100 = some (.agg #[.int .u64 0, .int .u64 0, .int .u32 0, .int .u8 0, .int .u8 0, .int .u8 0, .int .u8 0, .nilFunc, .pointer none, .int .i32 0, .int .i32 0]) := by kernel_rfl
@[go_sem] theorem by100 : bytesA Try.prog 100 = some 48 := by kernel_rfl
@[go_sem] theorem ag100 : aggA Try.prog 100 = some true := by kernel_rfl
@[go_sem] theorem kp1 : keepO Try.prog 1 = none := by kernel_rfl
@[go_sem] theorem kp2 : keepO Try.prog 2 = none := by kernel_rfl
@[go_sem] theorem kp3 : keepO Try.prog 3 = none := by kernel_rfl
@[go_sem] theorem kp4 : keepO Try.prog 4 = none := by kernel_rfl
@[go_sem] theorem kp5 : keepO Try.prog 5 = none := by kernel_rfl
@[go_sem] theorem kp6 : keepO Try.prog 6 = none := by kernel_rfl
@[go_sem] theorem kp7 : keepO Try.prog 7 = none := by kernel_rfl
@[go_sem] theorem kp8 : keepO Try.prog 8 = none := by kernel_rfl
@[go_sem] theorem kp9 : keepO Try.prog 9 = none := by kernel_rfl
@[go_sem] theorem kp10 : keepO Try.prog 10 = none := by kernel_rfl
@[go_sem] theorem kp11 : keepO Try.prog 11 = none := by kernel_rfl
@[go_sem] theorem kp12 : keepO Try.prog 12 = none := by kernel_rfl
@[go_sem] theorem kp13 : keepO Try.prog 13 = none := by kernel_rfl
@[go_sem] theorem kp14 : keepO Try.prog 14 = none := by kernel_rfl
@[go_sem] theorem kp15 : keepO Try.prog 15 = none := by kernel_rfl
@[go_sem] theorem kp16 : keepO Try.prog 16 = none := by kernel_rfl
@[go_sem] theorem kp17 : keepO Try.prog 17 = none := by kernel_rfl
@[go_sem] theorem kp18 : keepO Try.prog 18 = none := by kernel_rfl
@[go_sem] theorem kp19 : keepO Try.prog 19 = none := by kernel_rfl
@[go_sem] theorem kp20 : keepO Try.prog 20 = none := by kernel_rfl
@[go_sem] theorem kp21 : keepO Try.prog 21 = none := by kernel_rfl
@[go_sem] theorem kp22 : keepO Try.prog 22 = none := by kernel_rfl
@[go_sem] theorem kp23 : keepO Try.prog 23 = none := by kernel_rfl
@[go_sem] theorem kp24 : keepO Try.prog 24 = none := by kernel_rfl
@[go_sem] theorem kp26 : keepO Try.prog 26 = none := by kernel_rfl
@[go_sem] theorem kp27 : keepO Try.prog 27 = none := by kernel_rfl
@[go_sem] theorem kp29 : keepO Try.prog 29 = none := by kernel_rfl
@[go_sem] theorem kp30 : keepO Try.prog 30 = none := by kernel_rfl
@[go_sem] theorem kp31 : keepO Try.prog 31 = none := by kernel_rfl
@[go_sem] theorem kp32 : keepO Try.prog 32 = none := by kernel_rfl
@[go_sem] theorem kp33 : keepO Try.prog 33 = none := by kernel_rfl
@[go_sem] theorem kp34 : keepO Try.prog 34 = none := by kernel_rfl
@[go_sem] theorem kp35 : keepO Try.prog 35 = none := by kernel_rfl
@[go_sem] theorem kp36 : keepO Try.prog 36 = none := by kernel_rfl
@[go_sem] theorem kp37 : keepO Try.prog 37 = none := by kernel_rfl
@[go_sem] theorem kp39 : keepO Try.prog 39 = none := by kernel_rfl
@[go_sem] theorem kp40 : keepO Try.prog 40 = none := by kernel_rfl
@[go_sem] theorem kp41 : keepO Try.prog 41 = none := by kernel_rfl
@[go_sem] theorem kp42 : keepO Try.prog 42 = none := by kernel_rfl
@[go_sem] theorem kp43 : keepO Try.prog 43 = none := by kernel_rfl
@[go_sem] theorem kp44 : keepO Try.prog 44 = none := by kernel_rfl
@[go_sem] theorem kp45 : keepO Try.prog 45 = none := by kernel_rfl
@[go_sem] theorem kp46 : keepO Try.prog 46 = none := by kernel_rfl
@[go_sem] theorem kp47 : keepO Try.prog 47 = none := by kernel_rfl
@[go_sem] theorem kp48 : keepO Try.prog 48 = none := by kernel_rfl
@[go_sem] theorem kp49 : keepO Try.prog 49 = none := by kernel_rfl
@[go_sem] theorem kp50 : keepO Try.prog 50 = some 50 := by kernel_rfl
@[go_sem] theorem kp51 : keepO Try.prog 51 = some 51 := by kernel_rfl
@[go_sem] theorem kp52 : keepO Try.prog 52 = none := by kernel_rfl
@[go_sem] theorem kp53 : keepO Try.prog 53 = none := by kernel_rfl
@[go_sem] theorem kp54 : keepO Try.prog 54 = none := by kernel_rfl
@[go_sem] theorem kp56 : keepO Try.prog 56 = none := by kernel_rfl
@[go_sem] theorem kp57 : keepO Try.prog 57 = none := by kernel_rfl
@[go_sem] theorem kp58 : keepO Try.prog 58 = none := by kernel_rfl
@[go_sem] theorem kp59 : keepO Try.prog 59 = none := by kernel_rfl
@[go_sem] theorem kp60 : keepO Try.prog 60 = none := by kernel_rfl
@[go_sem] theorem kp61 : keepO Try.prog 61 = none := by kernel_rfl
@[go_sem] theorem kp62 : keepO Try.prog 62 = none := by kernel_rfl
@[go_sem] theorem kp63 : keepO Try.prog 63 = none := by kernel_rfl
@[go_sem] theorem kp64 : keepO Try.prog 64 = none := by kernel_rfl
@[go_sem] theorem kp65 : keepO Try.prog 65 = none := by kernel_rfl
@[go_sem] theorem kp67 : keepO Try.prog 67 = none := by kernel_rfl
@[go_sem] theorem kp68 : keepO Try.prog 68 = none := by kernel_rfl
@[go_sem] theorem kp69 : keepO Try.prog 69 = none := by kernel_rfl
@[go_sem] theorem kp70 : keepO Try.prog 70 = none := by kernel_rfl
@[go_sem] theorem kp71 : keepO Try.prog 71 = none := by kernel_rfl
@[go_sem] theorem kp72 : keepO Try.prog 72 = none := by kernel_rfl
@[go_sem] theorem kp73 : keepO Try.prog 73 = none := by kernel_rfl
@[go_sem] theorem kp74 : keepO Try.prog 74 = none := by kernel_rfl
@[go_sem] theorem kp76 : keepO Try.prog 76 = none := by kernel_rfl
@[go_sem] theorem kp77 : keepO Try.prog 77 = none := by kernel_rfl
@[go_sem] theorem kp78 : keepO Try.prog 78 = none := by kernel_rfl
@[go_sem] theorem kp80 : keepO Try.prog 80 = none := by kernel_rfl
@[go_sem] theorem kp81 : keepO Try.prog 81 = none := by kernel_rfl
@[go_sem] theorem kp83 : keepO Try.prog 83 = none := by kernel_rfl
@[go_sem] theorem kp84 : keepO Try.prog 84 = none := by kernel_rfl
@[go_sem] theorem kp85 : keepO Try.prog 85 = none := by kernel_rfl
@[go_sem] theorem kp86 : keepO Try.prog 86 = none := by kernel_rfl
@[go_sem] theorem kp87 : keepO Try.prog 87 = none := by kernel_rfl
@[go_sem] theorem kp88 : keepO Try.prog 88 = none := by kernel_rfl
@[go_sem] theorem kp89 : keepO Try.prog 89 = none := by kernel_rfl
@[go_sem] theorem kp90 : keepO Try.prog 90 = none := by kernel_rfl
@[go_sem] theorem kp91 : keepO Try.prog 91 = none := by kernel_rfl
@[go_sem] theorem kp92 : keepO Try.prog 92 = none := by kernel_rfl
@[go_sem] theorem kp93 : keepO Try.prog 93 = none := by kernel_rfl
@[go_sem] theorem kp94 : keepO Try.prog 94 = none := by kernel_rfl
@[go_sem] theorem kp95 : keepO Try.prog 95 = none := by kernel_rfl
@[go_sem] theorem kp96 : keepO Try.prog 96 = none := by kernel_rfl
@[go_sem] theorem kp97 : keepO Try.prog 97 = none := by kernel_rfl
@[go_sem] theorem kp98 : keepO Try.prog 98 = none := by kernel_rfl
@[go_sem] theorem kp99 : keepO Try.prog 99 = none := by kernel_rfl
@[go_sem] theorem kp100 : keepO Try.prog 100 = none := by kernel_rfl
attribute [go_sem] Try.underlying0 Try.underlying1 Try.underlying2 Try.underlying3 Try.underlying4 Try.underlying5 Try.underlying6 Try.underlying7 Try.underlying8 Try.underlying9 Try.underlying10 Try.underlying11 Try.underlying12 Try.underlying13 Try.underlying14 Try.underlying15 Try.underlying16 Try.underlying17 Try.underlying18 Try.underlying19 Try.underlying20 Try.underlying21 Try.underlying22 Try.underlying23 Try.underlying24 Try.underlying25 Try.underlying26 Try.underlying27 Try.underlying28 Try.underlying29 Try.underlying30 Try.underlying31 Try.underlying32 Try.underlying33 Try.underlying34 Try.underlying35 Try.underlying36 Try.underlying37 Try.underlying38 Try.underlying39 Try.underlying40 Try.underlying41 Try.underlying42 Try.underlying43 Try.underlying44 Try.underlying45 Try.underlying46 Try.underlying47 Try.underlying48 Try.underlying49 Try.underlying50 Try.underlying51 Try.underlying52 Try.underlying53 Try.underlying54 Try.underlying55 Try.underlying56 Try.underlying57 Try.underlying58 Try.underlying59 Try.underlying60 Try.underlying61 Try.underlying62 Try.underlying63 Try.underlying64 Try.underlying65 Try.underlying66 Try.underlying67 Try.underlying68 Try.underlying69 Try.underlying70 Try.underlying71 Try.underlying72 Try.underlying73 Try.underlying74 Try.underlying75 Try.underlying76 Try.underlying77 Try.underlying78 Try.underlying79 Try.underlying80 Try.underlying81 Try.underlying82 Try.underlying83 Try.underlying84 Try.underlying85 Try.underlying86 Try.underlying87 Try.underlying88 Try.underlying89 Try.underlying90 Try.underlying91 Try.underlying92 Try.underlying93 Try.underlying94 Try.underlying95 Try.underlying96 Try.underlying97 Try.underlying98 Try.underlying99 Try.underlying100
attribute [go_sem] Try.ntmps2 Try.ntmps3 Try.ntmps4 Try.ntmps5 Try.ntmps6 Try.ntmps7 Try.ntmps8 Try.ntmps9 Try.ntmps10 Try.ntmps11 Try.ntmps12 Try.ntmps13 Try.ntmps14 Try.ntmps15 Try.ntmps16 Try.ntmps17 Try.ntmps18 Try.ntmps19 Try.ntmps20 Try.ntmps21 Try.ntmps22 Try.ntmps23 Try.ntmps24 Try.ntmps25 Try.ntmps26 Try.ntmps27 Try.ntmps28 Try.ntmps29 Try.ntmps30 Try.ntmps31 Try.ntmps32 Try.ntmps33 Try.ntmps34 Try.ntmps35 Try.ntmps36 Try.ntmps37 Try.ntmps38 Try.ntmps39 Try.ntmps40 Try.ntmps41 Try.ntmps42 Try.ntmps43 Try.ntmps44 Try.ntmps45 Try.ntmps46 Try.ntmps47 Try.ntmps48 Try.ntmps50
@[go_sem] theorem go0 : goesB Try.prog 0 = false := by kernel_rfl
@[go_sem] theorem go1 : goesB Try.prog 1 = false := by kernel_rfl
@[go_sem] theorem go2 : goesB Try.prog 2 = true := by kernel_rfl
@[go_sem] theorem go3 : goesB Try.prog 3 = true := by kernel_rfl
@[go_sem] theorem go4 : goesB Try.prog 4 = true := by kernel_rfl
@[go_sem] theorem go5 : goesB Try.prog 5 = true := by kernel_rfl
@[go_sem] theorem go6 : goesB Try.prog 6 = true := by kernel_rfl
@[go_sem] theorem go7 : goesB Try.prog 7 = true := by kernel_rfl
@[go_sem] theorem go8 : goesB Try.prog 8 = true := by kernel_rfl
@[go_sem] theorem go9 : goesB Try.prog 9 = true := by kernel_rfl
@[go_sem] theorem go10 : goesB Try.prog 10 = true := by kernel_rfl
@[go_sem] theorem go11 : goesB Try.prog 11 = true := by kernel_rfl
@[go_sem] theorem go12 : goesB Try.prog 12 = true := by kernel_rfl
@[go_sem] theorem go13 : goesB Try.prog 13 = true := by kernel_rfl
@[go_sem] theorem go14 : goesB Try.prog 14 = true := by kernel_rfl
@[go_sem] theorem go15 : goesB Try.prog 15 = true := by kernel_rfl
@[go_sem] theorem go16 : goesB Try.prog 16 = true := by kernel_rfl
@[go_sem] theorem go17 : goesB Try.prog 17 = true := by kernel_rfl
@[go_sem] theorem go18 : goesB Try.prog 18 = true := by kernel_rfl
@[go_sem] theorem go19 : goesB Try.prog 19 = true := by kernel_rfl
@[go_sem] theorem go20 : goesB Try.prog 20 = true := by kernel_rfl
@[go_sem] theorem go21 : goesB Try.prog 21 = true := by kernel_rfl
@[go_sem] theorem go22 : goesB Try.prog 22 = true := by kernel_rfl
@[go_sem] theorem go23 : goesB Try.prog 23 = true := by kernel_rfl
@[go_sem] theorem go24 : goesB Try.prog 24 = true := by kernel_rfl
@[go_sem] theorem go25 : goesB Try.prog 25 = true := by kernel_rfl
@[go_sem] theorem go26 : goesB Try.prog 26 = true := by kernel_rfl
@[go_sem] theorem go27 : goesB Try.prog 27 = true := by kernel_rfl
@[go_sem] theorem go28 : goesB Try.prog 28 = true := by kernel_rfl
@[go_sem] theorem go29 : goesB Try.prog 29 = true := by kernel_rfl
@[go_sem] theorem go30 : goesB Try.prog 30 = true := by kernel_rfl
@[go_sem] theorem go31 : goesB Try.prog 31 = true := by kernel_rfl
@[go_sem] theorem go32 : goesB Try.prog 32 = true := by kernel_rfl
@[go_sem] theorem go33 : goesB Try.prog 33 = true := by kernel_rfl
@[go_sem] theorem go34 : goesB Try.prog 34 = true := by kernel_rfl
@[go_sem] theorem go35 : goesB Try.prog 35 = true := by kernel_rfl
@[go_sem] theorem go36 : goesB Try.prog 36 = true := by kernel_rfl
@[go_sem] theorem go37 : goesB Try.prog 37 = true := by kernel_rfl
@[go_sem] theorem go38 : goesB Try.prog 38 = true := by kernel_rfl
@[go_sem] theorem go39 : goesB Try.prog 39 = true := by kernel_rfl
@[go_sem] theorem go40 : goesB Try.prog 40 = true := by kernel_rfl
@[go_sem] theorem go41 : goesB Try.prog 41 = true := by kernel_rfl
@[go_sem] theorem go42 : goesB Try.prog 42 = true := by kernel_rfl
@[go_sem] theorem go43 : goesB Try.prog 43 = true := by kernel_rfl
@[go_sem] theorem go44 : goesB Try.prog 44 = true := by kernel_rfl
@[go_sem] theorem go45 : goesB Try.prog 45 = true := by kernel_rfl
@[go_sem] theorem go46 : goesB Try.prog 46 = true := by kernel_rfl
@[go_sem] theorem go47 : goesB Try.prog 47 = true := by kernel_rfl
@[go_sem] theorem go48 : goesB Try.prog 48 = true := by kernel_rfl
@[go_sem] theorem go49 : goesB Try.prog 49 = false := by kernel_rfl
@[go_sem] theorem go50 : goesB Try.prog 50 = true := by kernel_rfl
@[go_sem] theorem go51 : goesB Try.prog 51 = false := by kernel_rfl
@[go_sem] theorem go52 : goesB Try.prog 52 = false := by kernel_rfl
@[go_sem] theorem go53 : goesB Try.prog 53 = false := by kernel_rfl
@[go_sem] theorem go54 : goesB Try.prog 54 = false := by kernel_rfl
@[go_sem] theorem go55 : goesB Try.prog 55 = false := by kernel_rfl
@[go_sem] theorem go56 : goesB Try.prog 56 = false := by kernel_rfl
@[go_sem] theorem go57 : goesB Try.prog 57 = false := by kernel_rfl
@[go_sem] theorem go58 : goesB Try.prog 58 = false := by kernel_rfl
@[go_sem] theorem go59 : goesB Try.prog 59 = false := by kernel_rfl
@[go_sem] theorem go60 : goesB Try.prog 60 = false := by kernel_rfl
@[go_sem] theorem go61 : goesB Try.prog 61 = false := by kernel_rfl
@[go_sem] theorem go62 : goesB Try.prog 62 = false := by kernel_rfl
@[go_sem] theorem go63 : goesB Try.prog 63 = false := by kernel_rfl
@[go_sem] theorem go64 : goesB Try.prog 64 = false := by kernel_rfl
@[go_sem] theorem go65 : goesB Try.prog 65 = false := by kernel_rfl
@[go_sem] theorem go66 : goesB Try.prog 66 = false := by kernel_rfl
@[go_sem] theorem go67 : goesB Try.prog 67 = false := by kernel_rfl
end Go.Proofs.Ytmlcfgojoglelaa
