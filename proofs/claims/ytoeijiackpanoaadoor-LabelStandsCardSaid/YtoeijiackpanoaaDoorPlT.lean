/- The seat: its contracts of terms lie in the slices. -/
import Derived.Test.YtoeijiackpanoaaDoorSl5
